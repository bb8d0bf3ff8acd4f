/- The table of the codes, for calls that are reckoned through. -/
import Derived.Test.YtkpjbpfemkkheaaDoorCode
import Derived.Test.YtkpjbpfemkkheaaDoorAbe2
set_option maxRecDepth 20000
namespace Go.Proofs.YtkpjbpfemkkheaaDoor.Ab
open Go Go.RowKit
def tab : List TE := [⟨2, 1, rc2, ro2⟩, ⟨3, 10, rc3, ro3⟩, ⟨4, 90, rc4, ro4⟩, ⟨5, 93, rc5, ro5⟩, ⟨6, 73, rc6, ro6⟩, ⟨7, 58, rc7, ro7⟩, ⟨8, 71, rc8, ro8⟩, ⟨9, 24, rc9, ro9⟩, ⟨10, 63, rc10, ro10⟩, ⟨11, 59, rc11, ro11⟩, ⟨12, 25, rc12, ro12⟩, ⟨13, 29, rc13, ro13⟩, ⟨14, 76, rc14, ro14⟩, ⟨15, 28, rc15, ro15⟩, ⟨16, 36, rc16, ro16⟩, ⟨17, 36, rc17, ro17⟩, ⟨18, 2, rc18, ro18⟩, ⟨19, 12, rc19, ro19⟩, ⟨20, 5, rc20, ro20⟩, ⟨21, 8, rc21, ro21⟩, ⟨22, 75, rc22, ro22⟩, ⟨23, 13, rc23, ro23⟩, ⟨24, 8, rc24, ro24⟩, ⟨25, 37, rc25, ro25⟩, ⟨26, 35, rc26, ro26⟩, ⟨27, 23, rc27, ro27⟩, ⟨28, 5, rc28, ro28⟩, ⟨29, 54, rc29, ro29⟩, ⟨30, 25, rc30, ro30⟩, ⟨31, 19, rc31, ro31⟩, ⟨32, 14, rc32, ro32⟩, ⟨33, 23, rc33, ro33⟩, ⟨34, 66, rc34, ro34⟩, ⟨35, 23, rc35, ro35⟩, ⟨36, 21, rc36, ro36⟩, ⟨37, 22, rc37, ro37⟩, ⟨38, 34, rc38, ro38⟩, ⟨39, 25, rc39, ro39⟩, ⟨40, 15, rc40, ro40⟩, ⟨41, 15, rc41, ro41⟩, ⟨42, 167, rc42, ro42⟩, ⟨43, 102, rc43, ro43⟩, ⟨44, 20, rc44, ro44⟩, ⟨45, 30, rc45, ro45⟩, ⟨46, 143, rc46, ro46⟩, ⟨47, 50, rc47, ro47⟩, ⟨48, 34, rc48, ro48⟩, ⟨49, 8, rc49, ro49⟩, ⟨50, 10, rc50, ro50⟩, ⟨51, 51, rc51, ro51⟩, ⟨52, 9, rc52, ro52⟩, ⟨53, 73, rc53, ro53⟩, ⟨54, 43, rc54, ro54⟩, ⟨55, 6, rc55, ro55⟩, ⟨56, 25, rc56, ro56⟩, ⟨57, 4, rc57, ro57⟩, ⟨58, 8, rc58, ro58⟩, ⟨59, 8, rc59, ro59⟩, ⟨62, 8, rc62, ro62⟩, ⟨64, 6, rc64, ro64⟩, ⟨65, 81, rc65, ro65⟩, ⟨66, 10, rc66, ro66⟩, ⟨67, 19, rc67, ro67⟩, ⟨69, 6, rc69, ro69⟩, ⟨71, 172, rc71, ro71⟩, ⟨72, 11, rc72, ro72⟩, ⟨73, 11, rc73, ro73⟩, ⟨74, 16, rc74, ro74⟩, ⟨75, 16, rc75, ro75⟩, ⟨76, 14, rc76, ro76⟩, ⟨77, 14, rc77, ro77⟩, ⟨79, 39, rc79, ro79⟩, ⟨80, 117, rc80, ro80⟩, ⟨81, 8, rc81, ro81⟩, ⟨82, 17, rc82, ro82⟩, ⟨83, 5, rc83, ro83⟩, ⟨84, 94, rc84, ro84⟩, ⟨85, 18, rc85, ro85⟩, ⟨86, 7, rc86, ro86⟩, ⟨116, 11, rc116, ro116⟩]
theorem tab_ok : TOk Tryd.prog tab := by
  intro t ht
  simp only [tab, List.mem_cons, List.mem_nil_iff, or_false] at ht
  rcases ht with rfl | rfl | rfl | rfl | rfl | rfl | rfl | rfl | rfl | rfl | rfl | rfl | rfl | rfl | rfl | rfl | rfl | rfl | rfl | rfl | rfl | rfl | rfl | rfl | rfl | rfl | rfl | rfl | rfl | rfl | rfl | rfl | rfl | rfl | rfl | rfl | rfl | rfl | rfl | rfl | rfl | rfl | rfl | rfl | rfl | rfl | rfl | rfl | rfl | rfl | rfl | rfl | rfl | rfl | rfl | rfl | rfl | rfl | rfl | rfl | rfl | rfl | rfl | rfl | rfl | rfl | rfl | rfl | rfl | rfl | rfl | rfl | rfl | rfl | rfl | rfl | rfl | rfl | rfl | rfl
  · exact ⟨_, ok2⟩
  · exact ⟨_, ok3⟩
  · exact ⟨_, ok4⟩
  · exact ⟨_, ok5⟩
  · exact ⟨_, ok6⟩
  · exact ⟨_, ok7⟩
  · exact ⟨_, ok8⟩
  · exact ⟨_, ok9⟩
  · exact ⟨_, ok10⟩
  · exact ⟨_, ok11⟩
  · exact ⟨_, ok12⟩
  · exact ⟨_, ok13⟩
  · exact ⟨_, ok14⟩
  · exact ⟨_, ok15⟩
  · exact ⟨_, ok16⟩
  · exact ⟨_, ok17⟩
  · exact ⟨_, ok18⟩
  · exact ⟨_, ok19⟩
  · exact ⟨_, ok20⟩
  · exact ⟨_, ok21⟩
  · exact ⟨_, ok22⟩
  · exact ⟨_, ok23⟩
  · exact ⟨_, ok24⟩
  · exact ⟨_, ok25⟩
  · exact ⟨_, ok26⟩
  · exact ⟨_, ok27⟩
  · exact ⟨_, ok28⟩
  · exact ⟨_, ok29⟩
  · exact ⟨_, ok30⟩
  · exact ⟨_, ok31⟩
  · exact ⟨_, ok32⟩
  · exact ⟨_, ok33⟩
  · exact ⟨_, ok34⟩
  · exact ⟨_, ok35⟩
  · exact ⟨_, ok36⟩
  · exact ⟨_, ok37⟩
  · exact ⟨_, ok38⟩
  · exact ⟨_, ok39⟩
  · exact ⟨_, ok40⟩
  · exact ⟨_, ok41⟩
  · exact ⟨_, ok42⟩
  · exact ⟨_, ok43⟩
  · exact ⟨_, ok44⟩
  · exact ⟨_, ok45⟩
  · exact ⟨_, ok46⟩
  · exact ⟨_, ok47⟩
  · exact ⟨_, ok48⟩
  · exact ⟨_, ok49⟩
  · exact ⟨_, ok50⟩
  · exact ⟨_, ok51⟩
  · exact ⟨_, ok52⟩
  · exact ⟨_, ok53⟩
  · exact ⟨_, ok54⟩
  · exact ⟨_, ok55⟩
  · exact ⟨_, ok56⟩
  · exact ⟨_, ok57⟩
  · exact ⟨_, ok58⟩
  · exact ⟨_, ok59⟩
  · exact ⟨_, ok62⟩
  · exact ⟨_, ok64⟩
  · exact ⟨_, ok65⟩
  · exact ⟨_, ok66⟩
  · exact ⟨_, ok67⟩
  · exact ⟨_, ok69⟩
  · exact ⟨_, ok71⟩
  · exact ⟨_, ok72⟩
  · exact ⟨_, ok73⟩
  · exact ⟨_, ok74⟩
  · exact ⟨_, ok75⟩
  · exact ⟨_, ok76⟩
  · exact ⟨_, ok77⟩
  · exact ⟨_, ok79⟩
  · exact ⟨_, ok80⟩
  · exact ⟨_, ok81⟩
  · exact ⟨_, ok82⟩
  · exact ⟨_, ok83⟩
  · exact ⟨_, ok84⟩
  · exact ⟨_, ok85⟩
  · exact ⟨_, ok86⟩
  · exact ⟨_, ok116⟩
theorem fnd60 : Extern.findNext Tryd.f60 = none := by kernel_rfl
theorem xis60 : xIs Tryd.prog 60 .same := ⟨Tryd.f60, _, Tryd.func60, by kernel_rfl, by kernel_rfl, fnd60, (by kernel_rfl : Extern.find Tryd.f60 = some Extern.AbiNoEscape.same), rfl⟩
theorem fnd61 : Extern.findNext Tryd.f61 = none := by kernel_rfl
theorem xis61 : xIs Tryd.prog 61 (.mnz 5) := ⟨Tryd.f61, _, Tryd.func61, by kernel_rfl, by kernel_rfl, fnd61, (by kernel_rfl : Extern.find Tryd.f61 = some (Extern.BytealgMakeNoZero.makeNoZero #[3] #[26])), _, _, rfl, by kernel_rfl⟩
theorem fnd78 : Extern.findNext Tryd.f78 = none := by kernel_rfl
theorem xis78 : xIs Tryd.prog 78 .idx := ⟨Tryd.f78, _, Tryd.func78, by kernel_rfl, by kernel_rfl, fnd78, (by kernel_rfl : Extern.find Tryd.f78 = some Extern.BytealgIndexByte.indexByte), rfl⟩
def xs : List (FuncId × XK) := [(60, .same), (61, .mnz 5), (78, .idx)]
theorem xs_ok : XOk Tryd.prog (xCall xs) := xCall_ok (by
  intro x hx
  simp only [xs, List.mem_cons, List.mem_nil_iff, or_false] at hx
  rcases hx with rfl | rfl | rfl
  · exact xis60
  · exact xis61
  · exact xis78)
end Go.Proofs.YtkpjbpfemkkheaaDoor.Ab
