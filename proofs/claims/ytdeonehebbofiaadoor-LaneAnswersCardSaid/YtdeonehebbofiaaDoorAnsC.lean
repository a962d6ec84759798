/-
  LaneAnswers returns true for every argument, and its arguments read as they did: the row, and the card. Conditions: those of the given row (the listed package variables hold what the program's text lays).
-/
import Derived.Test.YtdeonehebbofiaaDoorAns
namespace Go.Proofs.YtdeonehebbofiaaDoor
open Go.ChangeShapes Go.WideShapes Go.ChangeAt Go.RowKit

theorem ans_closed : joinedFacts Tryd.pinned.checked.prog 6 Tryd.f6 (OpenSpec.ofChange Rows.laneAnswersSpec).bare Rows.laneAnswersRow = true := by kernel_rfl
theorem ans_step (os : Os) (started : os.Started) (H : Type) (enc : TypeId × Value → H) (F : Stop.Interp) :
    ReturnsInHanded Rows.laneAnswersRow.assume Tryd.pinned.checked os 6 .any (Rows.laneAnswersRow.pre enc Tryd.pinned.checked.prog Tryd.f6 (OpenSpec.ofChange Rows.laneAnswersSpec))
      (((OpenSpec.ofChange Rows.laneAnswersSpec).at F).post enc Tryd.pinned.checked.prog Tryd.f6 Rows.laneAnswersRow.apart Rows.laneAnswersRow.fresh Rows.laneAnswersRow.handsOn Rows.laneAnswersRow.again) := by
  rw [OpenClaim.pre_eq_preRow]
  exact ans_lifted os started H enc F
theorem ans_said : Rows.LaneAnswersSaid :=
  OpenClaim.holds_of_cond 6 Tryd.f6 rfl rfl rfl rfl rfl rfl rfl ⟨rfl, rfl, rfl, rfl, rfl⟩ rfl rfl rfl rfl rfl (by kernel_rfl) Tryd.func6 ans_closed
    (of_decide_eq_true (by kernel_rfl)) (by unfold Func.isWrapper; first | (rw [if_pos (by decide +kernel)]; kernel_rfl) | (rw [if_neg (by decide +kernel)]; exact ⟨rfl, rfl⟩))
    (fun os started H enc _ F => ans_step os started H enc F)

theorem ans_plain (f : FuncId) (fn : Func) (hf : Tryd.pinned.checked.prog.funcNamed "culvert/culvertlaw11.LaneAnswers" = some f) (hfn : Tryd.pinned.checked.prog.funcs[f]? = some fn) :
    true = Tryd.pinned.checked.prog.looks [] ∧ ∀ (j : Nat) t, fn.params[j]? = some t → Tryd.pinned.checked.prog.wantsStandIn t = false := by
  obtain rfl : f = 6 := Option.some.inj ((show Tryd.prog.funcNamed "culvert/culvertlaw11.LaneAnswers" = some 6 by kernel_rfl).symm.trans hf) |>.symm
  obtain rfl : fn = Tryd.f6 := (Option.some.inj (Tryd.func6.symm.trans hfn)).symm
  refine ⟨by kernel_rfl, fun j t ht => ?_⟩
  rw [Tryd.params6] at ht
  have : t = 4 ∨ t = 49 := by simpa using Array.mem_of_getElem? ht
  rcases this with rfl | rfl
  · exact (show Tryd.prog.wantsStandIn 4 = false by kernel_rfl)
  · exact (show Tryd.prog.wantsStandIn 49 = false by kernel_rfl)

theorem LaneAnswersHolds : Rows.LaneAnswersCardSaid :=
  Claim7.holds_tied_plain_at .later [] _ _ _ _ ans_said (fun _ h => by cases h) (by kernel_rfl) (fun _ h => by cases h) laneAnswers_row_tie rfl ⟨rfl, rfl⟩ (by kernel_rfl) rfl ans_plain (by kernel_rfl)
#print axioms LaneAnswersHolds
end Go.Proofs.YtdeonehebbofiaaDoor
