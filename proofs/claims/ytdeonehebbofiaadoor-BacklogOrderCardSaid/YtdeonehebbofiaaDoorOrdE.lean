/-
  BacklogOrder returns true for every argument, and its arguments read as they did: the row, and the card. Conditions: those of the given row (the listed package variables hold what the program's text lays).
-/
import Derived.Test.YtdeonehebbofiaaDoorOrdD
namespace Go.Proofs.YtdeonehebbofiaaDoor
open Go.ChangeShapes Go.WideShapes Go.ChangeAt Go.RowKit

theorem backlogOrder_closed : joinedFacts Tryd.pinned.checked.prog 4 Tryd.f4 (OpenSpec.ofChange Rows.backlogOrderSpec).bare Rows.backlogOrderRow = true := by kernel_rfl
theorem backlogOrder_step (os : Os) (started : os.Started) (H : Type) (enc : TypeId × Value → H) (F : Stop.Interp) :
    ReturnsInHanded Rows.backlogOrderRow.assume Tryd.pinned.checked os 4 .any (Rows.backlogOrderRow.pre enc Tryd.pinned.checked.prog Tryd.f4 (OpenSpec.ofChange Rows.backlogOrderSpec))
      (((OpenSpec.ofChange Rows.backlogOrderSpec).at F).post enc Tryd.pinned.checked.prog Tryd.f4 Rows.backlogOrderRow.apart Rows.backlogOrderRow.fresh Rows.backlogOrderRow.handsOn Rows.backlogOrderRow.again) := by
  rw [OpenClaim.pre_eq_preRow]
  exact backlogOrder_lifted os started H enc F
theorem backlogOrder_said : Rows.BacklogOrderSaid :=
  OpenClaim.holds_of_cond 4 Tryd.f4 rfl rfl rfl rfl rfl rfl rfl ⟨rfl, rfl, rfl, rfl, rfl⟩ rfl rfl rfl rfl rfl (by kernel_rfl) Tryd.func4 backlogOrder_closed
    (of_decide_eq_true (by kernel_rfl)) (by unfold Func.isWrapper; first | (rw [if_pos (by decide +kernel)]; kernel_rfl) | (rw [if_neg (by decide +kernel)]; exact ⟨rfl, rfl⟩))
    (fun os started H enc _ F => backlogOrder_step os started H enc F)

theorem backlogOrder_plain (f : FuncId) (fn : Func) (hf : Tryd.pinned.checked.prog.funcNamed "culvert/culvertlaw16.BacklogOrder" = some f) (hfn : Tryd.pinned.checked.prog.funcs[f]? = some fn) :
    true = Tryd.pinned.checked.prog.looks [] ∧ ∀ (j : Nat) t, fn.params[j]? = some t → Tryd.pinned.checked.prog.wantsStandIn t = false := by
  obtain rfl : f = 4 := Option.some.inj ((show Tryd.prog.funcNamed "culvert/culvertlaw16.BacklogOrder" = some 4 by kernel_rfl).symm.trans hf) |>.symm
  obtain rfl : fn = Tryd.f4 := (Option.some.inj (Tryd.func4.symm.trans hfn)).symm
  refine ⟨by kernel_rfl, fun j t ht => ?_⟩
  rw [Tryd.params4] at ht
  obtain rfl : t = 29 := by simpa using Array.mem_of_getElem? ht
  exact (show Tryd.prog.wantsStandIn 29 = false by kernel_rfl)

theorem BacklogOrderHolds : Rows.BacklogOrderCardSaid :=
  Claim7.holds_tied_plain_at .later [] _ _ _ _ backlogOrder_said (fun _ h => by cases h) (by kernel_rfl) (fun _ h => by cases h) backlogOrder_row_tie rfl ⟨rfl, rfl⟩ (by kernel_rfl) rfl backlogOrder_plain (by kernel_rfl)
#print axioms BacklogOrderHolds
end Go.Proofs.YtdeonehebbofiaaDoor
