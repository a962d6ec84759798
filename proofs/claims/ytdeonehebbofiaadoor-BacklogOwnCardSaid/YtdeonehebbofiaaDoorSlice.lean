/-
  Slices cut: s[k:], s[:k].
-/
import Derived.Test.YtdeonehebbofiaaDoorMem
namespace Go.Proofs.YtdeonehebbofiaaDoor
open Go.RowKit

section
variable {P : Program} {t e : TypeId} {i : TypeInfo} {sz : Nat}

/-- s[k:] of a slice that begins somewhere. -/
theorem cut_tail (ht : P.underlying t = some (.slice e)) (hi : P.info? e = some i) (hsz : i.size = sz) (g off n cap : Nat) (k : Nat) (hk : k ≤ n) :
    ∃ a : Addr, a.block = g ∧ (∀ W : World, (Instr.slice t (.slice (some ⟨g, off, none⟩) n cap) (some (.int .i64 (k : Int))) none none).run P W = .ok (.slice (some a) (n - k) (cap - k)) W) ∧
      ∀ (W : World) (cs : List Value), Row W e sz (.slice (some ⟨g, off, none⟩) n cap) n cs → Row W e sz (.slice (some a) (n - k) (cap - k)) (n - k) (cs.drop (k * sz)) := by
  refine ⟨if cap = k then ⟨g, off, none⟩ else ⟨g, off + k * sz, none⟩, ?_, fun W => ?_, fun W cs h => (h.tail hk rfl).1⟩
  · split <;> rfl
  · have h1 : (0 : Int) ≤ (k : Int) := by omega
    have h2 : ((k : Int)) ≤ (n : Int) := by omega
    simp only [Instr.slice, Sem.run_bind, run_underlying ht, Result.andThen_ok, Instr.sliceBounds, run_sliceBound W .i64 (k : Int) n _ h1 h2, Sem.run_pure, Int.toNat_natCast, sizeOf, typeInfo, run_program, hi, hsz]
    split
    · rfl
    · rw [Option.map_some, add_at]
/-- s[:k]. -/
theorem cut_head (ht : P.underlying t = some (.slice e)) (hi : P.info? e = some i) (a : Option Addr) (n cap : Nat) (k : Nat) (hk : k ≤ n) (hn : n ≤ cap) (W : World) :
    (Instr.slice t (.slice a n cap) none (some (.int .i64 (k : Int))) none).run P W = .ok (.slice a k cap) W := by
  have h1 : (0 : Int) ≤ (k : Int) := by omega
  have h2 : ((k : Int)) ≤ (cap : Int) := by omega
  simp only [Instr.slice, Sem.run_bind, run_underlying ht, Result.andThen_ok, Instr.sliceBounds, run_sliceBound W .i64 (k : Int) cap _ h1 h2, Sem.run_pure, Int.toNat_natCast, sizeOf, typeInfo, run_program, hi]
  cases a with
  | none => simp
  | some a => simp [Addr.add]
theorem Row.head {w : World} {n cap : Nat} {a : Option Addr} {cs : List Value} (h : Row w e sz (.slice a n cap) n cs) {k : Nat} (hk : k ≤ n) : Row w e sz (.slice a k cap) k (cs.take (k * sz)) := by
  rcases h.2 with ⟨hv, hn⟩ | ⟨g, off, cap', cur, hv, _⟩
  · injection hv with h1 h2 h3
    subst h1; subst h3; subst hn
    obtain rfl : k = 0 := by omega
    have : cs = [] := List.eq_nil_of_length_eq_zero (by simpa using h.1)
    subst this
    simpa using Row.nil w e sz
  · injection hv with h1 _ h3
    subst h1; subst h3
    have hle : n ≤ cap := by
      obtain ⟨_, _, hv, h1, _⟩ := h.form
      injection hv with _ _ hc
      omega
    have := h.sub (lo := 0) (hi := k) (cap' := cap) (off' := off) (Nat.zero_le _) hk (by omega) (by omega) (by simp)
    simpa using this
end
end Go.Proofs.YtdeonehebbofiaaDoor
