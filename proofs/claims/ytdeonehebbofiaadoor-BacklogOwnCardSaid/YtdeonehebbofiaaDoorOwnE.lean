/-
  BacklogOwn returns true for every argument, and its arguments read as they did: the row, and the card. Conditions: those of the given row (the listed package variables hold what the program's text lays).
-/
import Derived.Test.YtdeonehebbofiaaDoorOwnD
namespace Go.Proofs.YtdeonehebbofiaaDoor
open Go.ChangeShapes Go.WideShapes Go.ChangeAt Go.RowKit

theorem backlogOwn_closed : joinedFacts Tryd.pinned.checked.prog 5 Tryd.f5 (OpenSpec.ofChange Rows.backlogOwnSpec).bare Rows.backlogOwnRow = true := by kernel_rfl
theorem backlogOwn_step (os : Os) (started : os.Started) (H : Type) (enc : TypeId × Value → H) (F : Stop.Interp) :
    ReturnsInHanded Rows.backlogOwnRow.assume Tryd.pinned.checked os 5 .any (Rows.backlogOwnRow.pre enc Tryd.pinned.checked.prog Tryd.f5 (OpenSpec.ofChange Rows.backlogOwnSpec))
      (((OpenSpec.ofChange Rows.backlogOwnSpec).at F).post enc Tryd.pinned.checked.prog Tryd.f5 Rows.backlogOwnRow.apart Rows.backlogOwnRow.fresh Rows.backlogOwnRow.handsOn Rows.backlogOwnRow.again) := by
  rw [OpenClaim.pre_eq_preRow]
  exact backlogOwn_lifted os started H enc F
theorem backlogOwn_said : Rows.BacklogOwnSaid :=
  OpenClaim.holds_of_cond 5 Tryd.f5 rfl rfl rfl rfl rfl rfl rfl ⟨rfl, rfl, rfl, rfl, rfl⟩ rfl rfl rfl rfl rfl (by kernel_rfl) Tryd.func5 backlogOwn_closed
    (of_decide_eq_true (by kernel_rfl)) (by unfold Func.isWrapper; first | (rw [if_pos (by decide +kernel)]; kernel_rfl) | (rw [if_neg (by decide +kernel)]; exact ⟨rfl, rfl⟩))
    (fun os started H enc _ F => backlogOwn_step os started H enc F)

theorem backlogOwn_plain (f : FuncId) (fn : Func) (hf : Tryd.pinned.checked.prog.funcNamed "culvert/culvertlaw16.BacklogOwn" = some f) (hfn : Tryd.pinned.checked.prog.funcs[f]? = some fn) :
    true = Tryd.pinned.checked.prog.looks [] ∧ ∀ (j : Nat) t, fn.params[j]? = some t → Tryd.pinned.checked.prog.wantsStandIn t = false := by
  obtain rfl : f = 5 := Option.some.inj ((show Tryd.prog.funcNamed "culvert/culvertlaw16.BacklogOwn" = some 5 by kernel_rfl).symm.trans hf) |>.symm
  obtain rfl : fn = Tryd.f5 := (Option.some.inj (Tryd.func5.symm.trans hfn)).symm
  refine ⟨by kernel_rfl, fun j t ht => ?_⟩
  rw [Tryd.params5] at ht
  obtain rfl : t = 29 := by simpa using Array.mem_of_getElem? ht
  exact (show Tryd.prog.wantsStandIn 29 = false by kernel_rfl)

theorem BacklogOwnHolds : Rows.BacklogOwnCardSaid :=
  Claim7.holds_tied_plain_at .later [] _ _ _ _ backlogOwn_said (fun _ h => by cases h) (by kernel_rfl) (fun _ h => by cases h) backlogOwn_row_tie rfl ⟨rfl, rfl⟩ (by kernel_rfl) rfl backlogOwn_plain (by kernel_rfl)
#print axioms BacklogOwnHolds
end Go.Proofs.YtdeonehebbofiaaDoor
