/- The table of the codes, for calls that are reckoned through. -/
import Derived.Test.YtgfkjldohilmkaaDoorCode
import Derived.Test.YtgfkjldohilmkaaDoorAbe2
set_option maxRecDepth 20000
namespace Go.Proofs.YtgfkjldohilmkaaDoor.Ab
open Go Go.RowKit
def tab : List TE := [⟨2, 1, rc2, ro2⟩, ⟨3, 31, rc3, ro3⟩, ⟨4, 46, rc4, ro4⟩, ⟨5, 48, rc5, ro5⟩, ⟨6, 34, rc6, ro6⟩, ⟨7, 69, rc7, ro7⟩, ⟨8, 107, rc8, ro8⟩, ⟨9, 26, rc9, ro9⟩, ⟨10, 23, rc10, ro10⟩, ⟨11, 59, rc11, ro11⟩, ⟨12, 53, rc12, ro12⟩, ⟨13, 60, rc13, ro13⟩, ⟨14, 26, rc14, ro14⟩, ⟨15, 2, rc15, ro15⟩, ⟨16, 26, rc16, ro16⟩, ⟨17, 24, rc17, ro17⟩, ⟨18, 8, rc18, ro18⟩, ⟨19, 9, rc19, ro19⟩, ⟨20, 111, rc20, ro20⟩, ⟨21, 113, rc21, ro21⟩, ⟨23, 50, rc23, ro23⟩, ⟨24, 19, rc24, ro24⟩, ⟨25, 8, rc25, ro25⟩, ⟨26, 5, rc26, ro26⟩, ⟨27, 8, rc27, ro27⟩, ⟨28, 14, rc28, ro28⟩, ⟨29, 75, rc29, ro29⟩, ⟨30, 65, rc30, ro30⟩, ⟨31, 30, rc31, ro31⟩, ⟨32, 42, rc32, ro32⟩, ⟨33, 63, rc33, ro33⟩, ⟨34, 25, rc34, ro34⟩, ⟨35, 17, rc35, ro35⟩, ⟨36, 20, rc36, ro36⟩, ⟨37, 54, rc37, ro37⟩, ⟨38, 5, rc38, ro38⟩, ⟨39, 32, rc39, ro39⟩, ⟨40, 9, rc40, ro40⟩, ⟨41, 59, rc41, ro41⟩, ⟨42, 48, rc42, ro42⟩, ⟨46, 62, rc46, ro46⟩, ⟨48, 15, rc48, ro48⟩, ⟨49, 15, rc49, ro49⟩, ⟨50, 167, rc50, ro50⟩, ⟨51, 102, rc51, ro51⟩, ⟨52, 9, rc52, ro52⟩, ⟨53, 33, rc53, ro53⟩, ⟨54, 9, rc54, ro54⟩, ⟨55, 59, rc55, ro55⟩, ⟨56, 61, rc56, ro56⟩, ⟨57, 8, rc57, ro57⟩, ⟨58, 25, rc58, ro58⟩, ⟨62, 6, rc62, ro62⟩, ⟨63, 25, rc63, ro63⟩, ⟨64, 4, rc64, ro64⟩, ⟨65, 8, rc65, ro65⟩, ⟨66, 8, rc66, ro66⟩, ⟨67, 8, rc67, ro67⟩, ⟨68, 26, rc68, ro68⟩, ⟨69, 8, rc69, ro69⟩, ⟨70, 14, rc70, ro70⟩, ⟨71, 14, rc71, ro71⟩, ⟨72, 18, rc72, ro72⟩, ⟨73, 172, rc73, ro73⟩, ⟨74, 43, rc74, ro74⟩, ⟨76, 5, rc76, ro76⟩, ⟨77, 94, rc77, ro77⟩, ⟨78, 11, rc78, ro78⟩, ⟨79, 11, rc79, ro79⟩, ⟨80, 16, rc80, ro80⟩, ⟨81, 16, rc81, ro81⟩, ⟨82, 18, rc82, ro82⟩, ⟨83, 7, rc83, ro83⟩, ⟨104, 6, rc104, ro104⟩, ⟨121, 7, rc121, ro121⟩, ⟨132, 8, rc132, ro132⟩]
theorem tab_ok : TOk Tryd.prog tab := by
  intro t ht
  simp only [tab, List.mem_cons, List.mem_nil_iff, or_false] at ht
  rcases ht with rfl | rfl | rfl | rfl | rfl | rfl | rfl | rfl | rfl | rfl | rfl | rfl | rfl | rfl | rfl | rfl | rfl | rfl | rfl | rfl | rfl | rfl | rfl | rfl | rfl | rfl | rfl | rfl | rfl | rfl | rfl | rfl | rfl | rfl | rfl | rfl | rfl | rfl | rfl | rfl | rfl | rfl | rfl | rfl | rfl | rfl | rfl | rfl | rfl | rfl | rfl | rfl | rfl | rfl | rfl | rfl | rfl | rfl | rfl | rfl | rfl | rfl | rfl | rfl | rfl | rfl | rfl | rfl | rfl | rfl | rfl | rfl | rfl | rfl | rfl | rfl
  · exact ⟨_, ok2⟩
  · exact ⟨_, ok3⟩
  · exact ⟨_, ok4⟩
  · exact ⟨_, ok5⟩
  · exact ⟨_, ok6⟩
  · exact ⟨_, ok7⟩
  · exact ⟨_, ok8⟩
  · exact ⟨_, ok9⟩
  · exact ⟨_, ok10⟩
  · exact ⟨_, ok11⟩
  · exact ⟨_, ok12⟩
  · exact ⟨_, ok13⟩
  · exact ⟨_, ok14⟩
  · exact ⟨_, ok15⟩
  · exact ⟨_, ok16⟩
  · exact ⟨_, ok17⟩
  · exact ⟨_, ok18⟩
  · exact ⟨_, ok19⟩
  · exact ⟨_, ok20⟩
  · exact ⟨_, ok21⟩
  · exact ⟨_, ok23⟩
  · exact ⟨_, ok24⟩
  · exact ⟨_, ok25⟩
  · exact ⟨_, ok26⟩
  · exact ⟨_, ok27⟩
  · exact ⟨_, ok28⟩
  · exact ⟨_, ok29⟩
  · exact ⟨_, ok30⟩
  · exact ⟨_, ok31⟩
  · exact ⟨_, ok32⟩
  · exact ⟨_, ok33⟩
  · exact ⟨_, ok34⟩
  · exact ⟨_, ok35⟩
  · exact ⟨_, ok36⟩
  · exact ⟨_, ok37⟩
  · exact ⟨_, ok38⟩
  · exact ⟨_, ok39⟩
  · exact ⟨_, ok40⟩
  · exact ⟨_, ok41⟩
  · exact ⟨_, ok42⟩
  · exact ⟨_, ok46⟩
  · exact ⟨_, ok48⟩
  · exact ⟨_, ok49⟩
  · exact ⟨_, ok50⟩
  · exact ⟨_, ok51⟩
  · exact ⟨_, ok52⟩
  · exact ⟨_, ok53⟩
  · exact ⟨_, ok54⟩
  · exact ⟨_, ok55⟩
  · exact ⟨_, ok56⟩
  · exact ⟨_, ok57⟩
  · exact ⟨_, ok58⟩
  · exact ⟨_, ok62⟩
  · exact ⟨_, ok63⟩
  · exact ⟨_, ok64⟩
  · exact ⟨_, ok65⟩
  · exact ⟨_, ok66⟩
  · exact ⟨_, ok67⟩
  · exact ⟨_, ok68⟩
  · exact ⟨_, ok69⟩
  · exact ⟨_, ok70⟩
  · exact ⟨_, ok71⟩
  · exact ⟨_, ok72⟩
  · exact ⟨_, ok73⟩
  · exact ⟨_, ok74⟩
  · exact ⟨_, ok76⟩
  · exact ⟨_, ok77⟩
  · exact ⟨_, ok78⟩
  · exact ⟨_, ok79⟩
  · exact ⟨_, ok80⟩
  · exact ⟨_, ok81⟩
  · exact ⟨_, ok82⟩
  · exact ⟨_, ok83⟩
  · exact ⟨_, ok104⟩
  · exact ⟨_, ok121⟩
  · exact ⟨_, ok132⟩
theorem fnd47 : Extern.findNext Tryd.f47 = none := by kernel_rfl
theorem xis47 : xIs Tryd.prog 47 .same := ⟨Tryd.f47, _, Tryd.func47, by kernel_rfl, by kernel_rfl, fnd47, (by kernel_rfl : Extern.find Tryd.f47 = some Extern.AbiNoEscape.same), rfl⟩
theorem fnd75 : Extern.findNext Tryd.f75 = none := by kernel_rfl
theorem xis75 : xIs Tryd.prog 75 .idx := ⟨Tryd.f75, _, Tryd.func75, by kernel_rfl, by kernel_rfl, fnd75, (by kernel_rfl : Extern.find Tryd.f75 = some Extern.BytealgIndexByte.indexByte), rfl⟩
def xs : List (FuncId × XK) := [(47, .same), (75, .idx)]
theorem xs_ok : XOk Tryd.prog (xCall xs) := xCall_ok (by
  intro x hx
  simp only [xs, List.mem_cons, List.mem_nil_iff, or_false] at hx
  rcases hx with rfl | rfl
  · exact xis47
  · exact xis75)
end Go.Proofs.YtgfkjldohilmkaaDoor.Ab
