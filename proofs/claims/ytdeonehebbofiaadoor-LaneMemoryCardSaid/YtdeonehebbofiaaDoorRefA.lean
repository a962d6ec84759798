/-
  The document's answers for tickets: May.
-/
import Derived.Test.YtdeonehebbofiaaDoorLane12
namespace Go.Proofs.YtdeonehebbofiaaDoor
open Go.RowKit

theorem eqB {x y : Int} {b : Bool} (h : (x == y) = b) : (x = y) = (b = true) := by subst h; simp

set_option linter.unusedSimpArgs false
set_option maxHeartbeats 3200000 in
theorem ref_may (t : Tk) (w : World) : Calls Tryd.prog 89 #[t.val] w fun e w' => e = .returned (.int .i64 (may t)) ∧ Below w.heap.size w w' := by
  obtain ⟨k, s, v⟩ := t
  unfold Tk.val
  by_cases h1 : k < 1
  · have hm : may ⟨k, s, v⟩ = 12 := by simp [may, h1]
    have HM := hide hm
    clear hm
    go_enter Tryd.func89, Tryd.ntmps89
    go_wp2
    go_ret
    exact ⟨by rw [HM.out]; rfl, below_alloc (Below.refl _ _) _⟩
  by_cases h7 : 7 < k
  · have hm : may ⟨k, s, v⟩ = 12 := by simp [may, h7]
    have HM := hide hm
    clear hm
    go_enter Tryd.func89, Tryd.ntmps89
    go_wp2
    go_ret
    exact ⟨by rw [HM.out]; rfl, below_alloc (Below.refl _ _) _⟩
  have hk : k = 1 ∨ k = 2 ∨ k = 3 ∨ k = 4 ∨ k = 5 ∨ k = 6 ∨ k = 7 := by omega
  clear h1 h7
  rcases hk with rfl | rfl | rfl | rfl | rfl | rfl | rfl
  · rcases Bool.eq_false_or_eq_true (s == 0) with hs | hs
    · have hm : may ⟨1, s, v⟩ = 14 := by simp [may, fStream, fValue, fitsB, eqB hs]
      have HM := hide hm
      clear hm
      go_enter Tryd.func89, Tryd.ntmps89
      go_wp2
      go_ret
      exact ⟨by rw [HM.out]; rfl, below_alloc (Below.refl _ _) _⟩
    · rcases Bool.eq_false_or_eq_true (v == 0) with hv | hv
      · have hm : may ⟨1, s, v⟩ = 0 := by simp [may, fStream, fValue, fitsB, eqB hs, eqB hv]
        have HM := hide hm
        clear hm
        go_enter Tryd.func89, Tryd.ntmps89
        go_wp2
        go_ret
        exact ⟨by rw [HM.out]; rfl, below_alloc (Below.refl _ _) _⟩
      · have hm : may ⟨1, s, v⟩ = 15 := by simp [may, fStream, fValue, fitsB, eqB hs, eqB hv]
        have HM := hide hm
        clear hm
        go_enter Tryd.func89, Tryd.ntmps89
        go_wp2
        go_ret
        exact ⟨by rw [HM.out]; rfl, below_alloc (Below.refl _ _) _⟩
  · rcases Bool.eq_false_or_eq_true (s == 0) with hs | hs
    · have hm : may ⟨2, s, v⟩ = 14 := by simp [may, fStream, fValue, fitsB, eqB hs]
      have HM := hide hm
      clear hm
      go_enter Tryd.func89, Tryd.ntmps89
      go_wp2
      go_ret
      exact ⟨by rw [HM.out]; rfl, below_alloc (Below.refl _ _) _⟩
    · rcases Bool.eq_false_or_eq_true (v == 0) with hv | hv
      · have hm : may ⟨2, s, v⟩ = 0 := by simp [may, fStream, fValue, fitsB, eqB hs, eqB hv]
        have HM := hide hm
        clear hm
        go_enter Tryd.func89, Tryd.ntmps89
        go_wp2
        go_ret
        exact ⟨by rw [HM.out]; rfl, below_alloc (Below.refl _ _) _⟩
      · have hm : may ⟨2, s, v⟩ = 15 := by simp [may, fStream, fValue, fitsB, eqB hs, eqB hv]
        have HM := hide hm
        clear hm
        go_enter Tryd.func89, Tryd.ntmps89
        go_wp2
        go_ret
        exact ⟨by rw [HM.out]; rfl, below_alloc (Below.refl _ _) _⟩
  · rcases Bool.eq_false_or_eq_true (s == 0) with hs | hs
    · have hm : may ⟨3, s, v⟩ = 14 := by simp [may, fStream, fValue, fitsB, eqB hs]
      have HM := hide hm
      clear hm
      go_enter Tryd.func89, Tryd.ntmps89
      go_wp2
      go_ret
      exact ⟨by rw [HM.out]; rfl, below_alloc (Below.refl _ _) _⟩
    · rcases Bool.eq_false_or_eq_true (v == 0) with hv | hv
      · have hm : may ⟨3, s, v⟩ = 15 := by simp [may, fStream, fValue, fitsB, eqB hs, eqB hv]
        have HM := hide hm
        clear hm
        go_enter Tryd.func89, Tryd.ntmps89
        go_wp2
        go_ret
        exact ⟨by rw [HM.out]; rfl, below_alloc (Below.refl _ _) _⟩
      · have hm : may ⟨3, s, v⟩ = 0 := by simp [may, fStream, fValue, fitsB, eqB hs, eqB hv]
        have HM := hide hm
        clear hm
        go_enter Tryd.func89, Tryd.ntmps89
        go_wp2
        go_ret
        exact ⟨by rw [HM.out]; rfl, below_alloc (Below.refl _ _) _⟩
  · rcases Bool.eq_false_or_eq_true (s == 0) with hs | hs
    · have hm : may ⟨4, s, v⟩ = 14 := by simp [may, fStream, fValue, fitsB, eqB hs]
      have HM := hide hm
      clear hm
      go_enter Tryd.func89, Tryd.ntmps89
      go_wp2
      go_ret
      exact ⟨by rw [HM.out]; rfl, below_alloc (Below.refl _ _) _⟩
    · rcases Bool.eq_false_or_eq_true (v == 0) with hv | hv
      · have hm : may ⟨4, s, v⟩ = 0 := by simp [may, fStream, fValue, fitsB, eqB hs, eqB hv]
        have HM := hide hm
        clear hm
        go_enter Tryd.func89, Tryd.ntmps89
        go_wp2
        go_ret
        exact ⟨by rw [HM.out]; rfl, below_alloc (Below.refl _ _) _⟩
      · have hm : may ⟨4, s, v⟩ = 15 := by simp [may, fStream, fValue, fitsB, eqB hs, eqB hv]
        have HM := hide hm
        clear hm
        go_enter Tryd.func89, Tryd.ntmps89
        go_wp2
        go_ret
        exact ⟨by rw [HM.out]; rfl, below_alloc (Below.refl _ _) _⟩
  · rcases Bool.eq_false_or_eq_true (s == 0) with hs | hs
    · have hm : may ⟨5, s, v⟩ = 0 := by simp [may, fStream, fValue, fitsB, eqB hs]
      have HM := hide hm
      clear hm
      go_enter Tryd.func89, Tryd.ntmps89
      go_wp2
      go_ret
      exact ⟨by rw [HM.out]; rfl, below_alloc (Below.refl _ _) _⟩
    · have hm : may ⟨5, s, v⟩ = 14 := by simp [may, fStream, fValue, fitsB, eqB hs]
      have HM := hide hm
      clear hm
      go_enter Tryd.func89, Tryd.ntmps89
      go_wp2
      go_ret
      exact ⟨by rw [HM.out]; rfl, below_alloc (Below.refl _ _) _⟩
  · rcases Bool.eq_false_or_eq_true (s == 0) with hs | hs
    · have hm : may ⟨6, s, v⟩ = 0 := by simp [may, fStream, fValue, fitsB, eqB hs]
      have HM := hide hm
      clear hm
      go_enter Tryd.func89, Tryd.ntmps89
      go_wp2
      go_ret
      exact ⟨by rw [HM.out]; rfl, below_alloc (Below.refl _ _) _⟩
    · have hm : may ⟨6, s, v⟩ = 14 := by simp [may, fStream, fValue, fitsB, eqB hs]
      have HM := hide hm
      clear hm
      go_enter Tryd.func89, Tryd.ntmps89
      go_wp2
      go_ret
      exact ⟨by rw [HM.out]; rfl, below_alloc (Below.refl _ _) _⟩
  · rcases Bool.eq_false_or_eq_true (s == 0) with hs | hs
    · by_cases hv : v ≤ 2
      · have hm : may ⟨7, s, v⟩ = 0 := by simp [may, fStream, fValue, fitsB, eqB hs, hv]
        have HM := hide hm
        clear hm
        go_enter Tryd.func89, Tryd.ntmps89
        go_wp2
        go_ret
        exact ⟨by rw [HM.out]; rfl, below_alloc (Below.refl _ _) _⟩
      · have hm : may ⟨7, s, v⟩ = 15 := by simp [may, fStream, fValue, fitsB, eqB hs, hv]
        have HM := hide hm
        clear hm
        go_enter Tryd.func89, Tryd.ntmps89
        go_wp2
        go_ret
        exact ⟨by rw [HM.out]; rfl, below_alloc (Below.refl _ _) _⟩
    · have hm : may ⟨7, s, v⟩ = 14 := by simp [may, fStream, fValue, fitsB, eqB hs]
      have HM := hide hm
      clear hm
      go_enter Tryd.func89, Tryd.ntmps89
      go_wp2
      go_ret
      exact ⟨by rw [HM.out]; rfl, below_alloc (Below.refl _ _) _⟩
end Go.Proofs.YtdeonehebbofiaaDoor
