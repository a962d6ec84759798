/-
  The lane's keys: '==' on lane.place.
-/
import Derived.Test.YtdeonehebbofiaaDoorProg
import Derived.Test.YtdeonehebbofiaaDoorMap
namespace Go.Proofs.YtdeonehebbofiaaDoor
open Go.RowKit

def encPl (x : Int × Int) : Value := .agg #[.int .i64 x.1, .int .u32 x.2]
theorem pl_key : KeyOk Tryd.prog 176 encPl where
  eq := fun x y w => by
    have uk := Tryd.underlying53
    have us := Tryd.underlying34
    have ak := Tryd.isAgg53
    have as_ := Tryd.isAgg34
    have hS : Tryd.prog.underlying 176 = some (.struct (Tryd.prog.fieldsOf 176)) := by kernel_rfl
    have hp : Tryd.prog.stoodInHeld 176 = false := by kernel_rfl
    unfold Op.equal Op.maxDepth encPl
    rw [show (10000 : Nat) = 9999 + 1 from rfl, run_equalIn_agg w 9999 176 _ _ hS hp]
    simp only [Program.fieldsOf, Tryd.underlying176]
    go_simp
    by_cases h1 : x.fst = y.fst <;> by_cases h2 : x.snd = y.snd <;> simp [h1, h2, Prod.ext_iff]
  check := fun em x w => by unfold encPl; kernel_rfl
  now := ⟨_, Tryd.underlying176, fun x y => .inl rfl⟩
  bits := fun x => by simp [encPl, Instr.sameBits]
end Go.Proofs.YtdeonehebbofiaaDoor
