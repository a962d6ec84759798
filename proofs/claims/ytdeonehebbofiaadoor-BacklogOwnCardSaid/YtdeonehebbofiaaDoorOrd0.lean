/-
  culvertlaw16.rises: one list's numbers in the other's order.
-/
import Derived.Test.YtdeonehebbofiaaDoorOpen6
set_option linter.unusedVariables false
namespace Go.Proofs.YtdeonehebbofiaaDoor
open Go.RowKit

theorem sub_hit {a : Int} {l m : List Int} (h : (a :: l).Sublist (a :: m)) : l.Sublist m := List.cons_sublist_cons.1 h
theorem sub_miss {a b : Int} {l m : List Int} (h : (a :: l).Sublist (b :: m)) (hne : b ≠ a) : (a :: l).Sublist m := by
  cases h with
  | cons _ h => exact h
  | cons_cons _ h => exact absurd rfl hne

set_option maxRecDepth 100000 in
set_option maxHeartbeats 1600000 in
theorem rises_true {w : World} {a : Option Addr} {cap : Nat} {is ls : List Int} {v : Value} (h : NumAt w a cap is) (hl : NumRow w v ls) (hs : ls.Sublist is) :
    Calls Tryd.prog 26 #[.slice a is.length cap, v] w fun e w' => e = .returned (.bool true) ∧ Below w.heap.size w w' := by
  obtain ⟨la, lc, hv, h1, h2⟩ := Row.form hl
  subst hv
  have hcap := h.le
  have hcm := h.mx
  have hle : is.length ≤ 9223372036854775807 := by unfold maxLen at hcm; omega
  have hle2 : ls.length ≤ 9223372036854775807 := by unfold maxLen at h2; omega
  have HA := hide h
  have HL := hide hl
  have HS := hide hs
  clear h hl hs
  go_enter Tryd.func26, Tryd.ntmps26
  go_wp2
  go_loopw [5, 6] (fun kv i wr => ∃ (k j : Nat), k ≤ ls.length ∧ j ≤ is.length ∧ kv = .int .i64 k ∧ i = .int .i64 j ∧ (ls.drop k).Sublist (is.drop j) ∧ Below w.heap.size w wr) (fun _ i _ => is.length - (intOf i).toNat)
  case atStart => exact ⟨0, 0, Nat.zero_le _, Nat.zero_le _, rfl, rfl, by simpa using HS.out, Below.refl _ _⟩
  case round =>
    obtain ⟨k, j, hk, hj, rfl, rfl, hsub, hB⟩ := hrel
    by_cases hlt : j < is.length
    · by_cases hkl : k < ls.length
      · obtain ⟨lb, off, ha, hlb⟩ := HA.out.pos (by omega)
        subst ha
        obtain ⟨mb, mo, mc, hm, _, _, _, hmb⟩ := Row.begins HL.out (by omega)
        injection hm with hm1 hm2 hm3
        clear hm2
        subst hm1; subst hm3
        obtain ⟨x, hx⟩ : ∃ x, is[j]? = some x := ⟨_, List.getElem?_eq_getElem hlt⟩
        obtain ⟨y, hy⟩ : ∃ y, ls[k]? = some y := ⟨_, List.getElem?_eq_getElem hkl⟩
        have d0 : wr.cell? ⟨lb, off + j, none⟩ = some (.int .u32 x) := (HA.out.below' hB).cells lb off rfl j x hx
        have d1 : wr.cell? ⟨mb, mo + k, none⟩ = some (.int .u32 y) := NumRow.cell' (HL.out.below' hB) hy
        have e1 : is.drop j = x :: is.drop (j + 1) := by
          rw [List.drop_eq_getElem_cons hlt, ← (List.getElem?_eq_some_iff.1 hx).2]
        have e2 : ls.drop k = y :: ls.drop (k + 1) := by
          rw [List.drop_eq_getElem_cons hkl, ← (List.getElem?_eq_some_iff.1 hy).2]
        rw [e1, e2] at hsub
        have E2 := hide e2
        have HSUB := hide hsub
        have HB := hide hB
        have i0 : (0 : Int) ≤ (j : Int) := by omega
        have i1 : (j : Int) < (is.length : Int) := by omega
        have i2 : (0 : Int) ≤ (k : Int) := by omega
        have i3 : (k : Int) < (ls.length : Int) := by omega
        clear hx hy e1 e2 hsub hB
        by_cases hxy : x = y
        · subst hxy
          go_wp2
          go_quiet (fail)
          go_wp2
          go_roundw
          case rel => exact ⟨k + 1, j + 1, by omega, by omega, by go_num, by go_num, sub_hit HSUB.out, below_drewN HB.out _⟩
          case measure => simp [intOf]; omega
        · have hxy2 : (x == y) = false := by simpa using hxy
          have HXY := hide hxy
          clear hxy
          go_wp2
          go_quiet (fail)
          go_wp2
          go_roundw
          case rel => exact ⟨k, j + 1, by omega, by omega, rfl, by go_num, by rw [E2.out]; exact sub_miss HSUB.out HXY.out, below_drewN HB.out _⟩
          case measure => simp [intOf]; omega
      · obtain rfl : k = ls.length := by omega
        have hdd : decide ((ls.length : Int) < (ls.length : Int)) = false := by simp
        go_wp2
        go_ret
        exact ⟨rfl, hB⟩
    · obtain rfl : j = is.length := by omega
      have hkk : k = ls.length := by
        simp at hsub
        omega
      subst hkk
      go_wp2
      go_ret
      exact ⟨rfl, hB⟩
end Go.Proofs.YtdeonehebbofiaaDoor
