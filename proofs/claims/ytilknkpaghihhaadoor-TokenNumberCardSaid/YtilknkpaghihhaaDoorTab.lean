/- The table of the codes, for calls that are reckoned through. -/
import Derived.Test.YtilknkpaghihhaaDoorCode
import Derived.Test.YtilknkpaghihhaaDoorAbe2
set_option maxRecDepth 20000
namespace Go.Proofs.YtilknkpaghihhaaDoor.Ab
open Go Go.RowKit
def tab : List TE := [⟨2, 1, rc2, ro2⟩, ⟨3, 72, rc3, ro3⟩, ⟨4, 73, rc4, ro4⟩, ⟨5, 117, rc5, ro5⟩, ⟨6, 79, rc6, ro6⟩, ⟨7, 81, rc7, ro7⟩, ⟨8, 55, rc8, ro8⟩, ⟨9, 50, rc9, ro9⟩, ⟨10, 57, rc10, ro10⟩, ⟨11, 75, rc11, ro11⟩, ⟨12, 9, rc12, ro12⟩, ⟨13, 54, rc13, ro13⟩, ⟨14, 8, rc14, ro14⟩, ⟨15, 60, rc15, ro15⟩, ⟨16, 23, rc16, ro16⟩, ⟨17, 17, rc17, ro17⟩, ⟨18, 19, rc18, ro18⟩, ⟨19, 14, rc19, ro19⟩, ⟨20, 9, rc20, ro20⟩, ⟨21, 59, rc21, ro21⟩, ⟨22, 42, rc22, ro22⟩, ⟨23, 17, rc23, ro23⟩, ⟨24, 191, rc24, ro24⟩, ⟨25, 20, rc25, ro25⟩, ⟨26, 9, rc26, ro26⟩, ⟨27, 33, rc27, ro27⟩, ⟨28, 9, rc28, ro28⟩, ⟨29, 59, rc29, ro29⟩, ⟨30, 61, rc30, ro30⟩, ⟨31, 8, rc31, ro31⟩, ⟨35, 62, rc35, ro35⟩, ⟨36, 12, rc36, ro36⟩, ⟨38, 8, rc38, ro38⟩, ⟨39, 26, rc39, ro39⟩, ⟨40, 8, rc40, ro40⟩, ⟨41, 8, rc41, ro41⟩, ⟨45, 18, rc45, ro45⟩, ⟨46, 172, rc46, ro46⟩, ⟨47, 43, rc47, ro47⟩, ⟨48, 32, rc48, ro48⟩, ⟨50, 5, rc50, ro50⟩, ⟨51, 94, rc51, ro51⟩, ⟨52, 11, rc52, ro52⟩, ⟨53, 11, rc53, ro53⟩, ⟨54, 16, rc54, ro54⟩, ⟨55, 16, rc55, ro55⟩, ⟨56, 15, rc56, ro56⟩, ⟨57, 15, rc57, ro57⟩, ⟨58, 167, rc58, ro58⟩, ⟨59, 102, rc59, ro59⟩, ⟨60, 18, rc60, ro60⟩, ⟨61, 7, rc61, ro61⟩, ⟨62, 5, rc62, ro62⟩, ⟨63, 6, rc63, ro63⟩, ⟨64, 25, rc64, ro64⟩, ⟨65, 4, rc65, ro65⟩, ⟨66, 8, rc66, ro66⟩, ⟨67, 8, rc67, ro67⟩, ⟨68, 5, rc68, ro68⟩, ⟨69, 14, rc69, ro69⟩, ⟨70, 14, rc70, ro70⟩, ⟨71, 54, rc71, ro71⟩, ⟨92, 6, rc92, ro92⟩, ⟨109, 7, rc109, ro109⟩, ⟨120, 8, rc120, ro120⟩]
theorem tab_ok : TOk Tryd.prog tab := by
  intro t ht
  simp only [tab, List.mem_cons, List.mem_nil_iff, or_false] at ht
  rcases ht with rfl | rfl | rfl | rfl | rfl | rfl | rfl | rfl | rfl | rfl | rfl | rfl | rfl | rfl | rfl | rfl | rfl | rfl | rfl | rfl | rfl | rfl | rfl | rfl | rfl | rfl | rfl | rfl | rfl | rfl | rfl | rfl | rfl | rfl | rfl | rfl | rfl | rfl | rfl | rfl | rfl | rfl | rfl | rfl | rfl | rfl | rfl | rfl | rfl | rfl | rfl | rfl | rfl | rfl | rfl | rfl | rfl | rfl | rfl | rfl | rfl | rfl | rfl | rfl | rfl
  · exact ⟨_, ok2⟩
  · exact ⟨_, ok3⟩
  · exact ⟨_, ok4⟩
  · exact ⟨_, ok5⟩
  · exact ⟨_, ok6⟩
  · exact ⟨_, ok7⟩
  · exact ⟨_, ok8⟩
  · exact ⟨_, ok9⟩
  · exact ⟨_, ok10⟩
  · exact ⟨_, ok11⟩
  · exact ⟨_, ok12⟩
  · exact ⟨_, ok13⟩
  · exact ⟨_, ok14⟩
  · exact ⟨_, ok15⟩
  · exact ⟨_, ok16⟩
  · exact ⟨_, ok17⟩
  · exact ⟨_, ok18⟩
  · exact ⟨_, ok19⟩
  · exact ⟨_, ok20⟩
  · exact ⟨_, ok21⟩
  · exact ⟨_, ok22⟩
  · exact ⟨_, ok23⟩
  · exact ⟨_, ok24⟩
  · exact ⟨_, ok25⟩
  · exact ⟨_, ok26⟩
  · exact ⟨_, ok27⟩
  · exact ⟨_, ok28⟩
  · exact ⟨_, ok29⟩
  · exact ⟨_, ok30⟩
  · exact ⟨_, ok31⟩
  · exact ⟨_, ok35⟩
  · exact ⟨_, ok36⟩
  · exact ⟨_, ok38⟩
  · exact ⟨_, ok39⟩
  · exact ⟨_, ok40⟩
  · exact ⟨_, ok41⟩
  · exact ⟨_, ok45⟩
  · exact ⟨_, ok46⟩
  · exact ⟨_, ok47⟩
  · exact ⟨_, ok48⟩
  · exact ⟨_, ok50⟩
  · exact ⟨_, ok51⟩
  · exact ⟨_, ok52⟩
  · exact ⟨_, ok53⟩
  · exact ⟨_, ok54⟩
  · exact ⟨_, ok55⟩
  · exact ⟨_, ok56⟩
  · exact ⟨_, ok57⟩
  · exact ⟨_, ok58⟩
  · exact ⟨_, ok59⟩
  · exact ⟨_, ok60⟩
  · exact ⟨_, ok61⟩
  · exact ⟨_, ok62⟩
  · exact ⟨_, ok63⟩
  · exact ⟨_, ok64⟩
  · exact ⟨_, ok65⟩
  · exact ⟨_, ok66⟩
  · exact ⟨_, ok67⟩
  · exact ⟨_, ok68⟩
  · exact ⟨_, ok69⟩
  · exact ⟨_, ok70⟩
  · exact ⟨_, ok71⟩
  · exact ⟨_, ok92⟩
  · exact ⟨_, ok109⟩
  · exact ⟨_, ok120⟩
theorem fnd37 : Extern.findNext Tryd.f37 = none := by kernel_rfl
theorem xis37 : xIs Tryd.prog 37 .same := ⟨Tryd.f37, _, Tryd.func37, by kernel_rfl, by kernel_rfl, fnd37, (by kernel_rfl : Extern.find Tryd.f37 = some Extern.AbiNoEscape.same), rfl⟩
theorem fnd49 : Extern.findNext Tryd.f49 = none := by kernel_rfl
theorem xis49 : xIs Tryd.prog 49 .idx := ⟨Tryd.f49, _, Tryd.func49, by kernel_rfl, by kernel_rfl, fnd49, (by kernel_rfl : Extern.find Tryd.f49 = some Extern.BytealgIndexByte.indexByte), rfl⟩
def xs : List (FuncId × XK) := [(37, .same), (49, .idx)]
theorem xs_ok : XOk Tryd.prog (xCall xs) := xCall_ok (by
  intro x hx
  simp only [xs, List.mem_cons, List.mem_nil_iff, or_false] at hx
  rcases hx with rfl | rfl
  · exact xis37
  · exact xis49)
end Go.Proofs.YtilknkpaghihhaaDoor.Ab
