/-
  BacklogPlays returns true for every argument, and its arguments read as they did: the row, and the card. Conditions: those of the given row (the listed package variables hold what the program's text lays).
-/
import Derived.Test.YtdeonehebbofiaaDoorPlayD
namespace Go.Proofs.YtdeonehebbofiaaDoor
open Go.ChangeShapes Go.WideShapes Go.ChangeAt Go.RowKit

theorem backlogPlays_closed : joinedFacts Tryd.pinned.checked.prog 3 Tryd.f3 (OpenSpec.ofChange Rows.backlogPlaysSpec).bare Rows.backlogPlaysRow = true := by kernel_rfl
theorem backlogPlays_step (os : Os) (started : os.Started) (H : Type) (enc : TypeId × Value → H) (F : Stop.Interp) :
    ReturnsInHanded Rows.backlogPlaysRow.assume Tryd.pinned.checked os 3 .any (Rows.backlogPlaysRow.pre enc Tryd.pinned.checked.prog Tryd.f3 (OpenSpec.ofChange Rows.backlogPlaysSpec))
      (((OpenSpec.ofChange Rows.backlogPlaysSpec).at F).post enc Tryd.pinned.checked.prog Tryd.f3 Rows.backlogPlaysRow.apart Rows.backlogPlaysRow.fresh Rows.backlogPlaysRow.handsOn Rows.backlogPlaysRow.again) := by
  rw [OpenClaim.pre_eq_preRow]
  exact backlogPlays_lifted os started H enc F
theorem backlogPlays_said : Rows.BacklogPlaysSaid :=
  OpenClaim.holds_of_cond 3 Tryd.f3 rfl rfl rfl rfl rfl rfl rfl ⟨rfl, rfl, rfl, rfl, rfl⟩ rfl rfl rfl rfl rfl (by kernel_rfl) Tryd.func3 backlogPlays_closed
    (of_decide_eq_true (by kernel_rfl)) (by unfold Func.isWrapper; first | (rw [if_pos (by decide +kernel)]; kernel_rfl) | (rw [if_neg (by decide +kernel)]; exact ⟨rfl, rfl⟩))
    (fun os started H enc _ F => backlogPlays_step os started H enc F)

theorem backlogPlays_plain (f : FuncId) (fn : Func) (hf : Tryd.pinned.checked.prog.funcNamed "culvert/culvertlaw16.BacklogPlays" = some f) (hfn : Tryd.pinned.checked.prog.funcs[f]? = some fn) :
    true = Tryd.pinned.checked.prog.looks [] ∧ ∀ (j : Nat) t, fn.params[j]? = some t → Tryd.pinned.checked.prog.wantsStandIn t = false := by
  obtain rfl : f = 3 := Option.some.inj ((show Tryd.prog.funcNamed "culvert/culvertlaw16.BacklogPlays" = some 3 by kernel_rfl).symm.trans hf) |>.symm
  obtain rfl : fn = Tryd.f3 := (Option.some.inj (Tryd.func3.symm.trans hfn)).symm
  refine ⟨by kernel_rfl, fun j t ht => ?_⟩
  rw [Tryd.params3] at ht
  obtain rfl : t = 22 := by simpa using Array.mem_of_getElem? ht
  exact (show Tryd.prog.wantsStandIn 22 = false by kernel_rfl)

theorem BacklogPlaysHolds : Rows.BacklogPlaysCardSaid :=
  Claim7.holds_tied_plain_at .later [] _ _ _ _ backlogPlays_said (fun _ h => by cases h) (by kernel_rfl) (fun _ h => by cases h) backlogPlays_row_tie rfl ⟨rfl, rfl⟩ (by kernel_rfl) rfl backlogPlays_plain (by kernel_rfl)
#print axioms BacklogPlaysHolds
end Go.Proofs.YtdeonehebbofiaaDoor
