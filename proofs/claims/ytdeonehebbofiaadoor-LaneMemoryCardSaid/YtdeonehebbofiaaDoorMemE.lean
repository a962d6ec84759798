/-
  LaneMemory returns true for every argument, and its argument reads as it did: the row, and the card. Conditions: those of the given row (the listed package variables hold what the program's text lays).
-/
import Derived.Test.YtdeonehebbofiaaDoorMemD
namespace Go.Proofs.YtdeonehebbofiaaDoor
open Go.ChangeShapes Go.WideShapes Go.ChangeAt Go.RowKit

theorem mem_closed : joinedFacts Tryd.pinned.checked.prog 7 Tryd.f7 (OpenSpec.ofChange Rows.laneMemorySpec).bare Rows.laneMemoryRow = true := by kernel_rfl
theorem mem_step (os : Os) (started : os.Started) (H : Type) (enc : TypeId × Value → H) (F : Stop.Interp) :
    ReturnsInHanded Rows.laneMemoryRow.assume Tryd.pinned.checked os 7 .any (Rows.laneMemoryRow.pre enc Tryd.pinned.checked.prog Tryd.f7 (OpenSpec.ofChange Rows.laneMemorySpec))
      (((OpenSpec.ofChange Rows.laneMemorySpec).at F).post enc Tryd.pinned.checked.prog Tryd.f7 Rows.laneMemoryRow.apart Rows.laneMemoryRow.fresh Rows.laneMemoryRow.handsOn Rows.laneMemoryRow.again) := by
  rw [OpenClaim.pre_eq_preRow]
  exact mem_lifted os started H enc F
theorem mem_said : Rows.LaneMemorySaid :=
  OpenClaim.holds_of_cond 7 Tryd.f7 rfl rfl rfl rfl rfl rfl rfl ⟨rfl, rfl, rfl, rfl, rfl⟩ rfl rfl rfl rfl rfl (by kernel_rfl) Tryd.func7 mem_closed
    (of_decide_eq_true (by kernel_rfl)) (by unfold Func.isWrapper; first | (rw [if_pos (by decide +kernel)]; kernel_rfl) | (rw [if_neg (by decide +kernel)]; exact ⟨rfl, rfl⟩))
    (fun os started H enc _ F => mem_step os started H enc F)

theorem mem_plain (f : FuncId) (fn : Func) (hf : Tryd.pinned.checked.prog.funcNamed "culvert/culvertlaw11.LaneMemory" = some f) (hfn : Tryd.pinned.checked.prog.funcs[f]? = some fn) :
    true = Tryd.pinned.checked.prog.looks [] ∧ ∀ (j : Nat) t, fn.params[j]? = some t → Tryd.pinned.checked.prog.wantsStandIn t = false := by
  obtain rfl : f = 7 := Option.some.inj ((show Tryd.prog.funcNamed "culvert/culvertlaw11.LaneMemory" = some 7 by kernel_rfl).symm.trans hf) |>.symm
  obtain rfl : fn = Tryd.f7 := (Option.some.inj (Tryd.func7.symm.trans hfn)).symm
  refine ⟨by kernel_rfl, fun j t ht => ?_⟩
  rw [Tryd.params7] at ht
  obtain rfl : t = 49 := by simpa using Array.mem_of_getElem? ht
  exact (show Tryd.prog.wantsStandIn 49 = false by kernel_rfl)

theorem LaneMemoryHolds : Rows.LaneMemoryCardSaid :=
  Claim7.holds_tied_plain_at .later [] _ _ _ _ mem_said (fun _ h => by cases h) (by kernel_rfl) (fun _ h => by cases h) laneMemory_row_tie rfl ⟨rfl, rfl⟩ (by kernel_rfl) rfl mem_plain (by kernel_rfl)
#print axioms LaneMemoryHolds
end Go.Proofs.YtdeonehebbofiaaDoor
