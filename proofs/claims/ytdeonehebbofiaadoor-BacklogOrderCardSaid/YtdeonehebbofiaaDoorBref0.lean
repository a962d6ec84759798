/-
  The document's backlog: At.
-/
import Derived.Test.YtdeonehebbofiaaDoorNum0
set_option linter.unusedVariables false
namespace Go.Proofs.YtdeonehebbofiaaDoor
open Go.RowKit

def idxS (ids : List Int) (id : Int) : Int := match ids.findIdx? (· == id) with | some i => i | none => -1
def rbVal (most : Int) (v : Value) : Value := .agg #[.int .i64 most, v]
theorem take_snocI {α : Type} (l : List α) (k : Nat) (x : α) (h : l[k]? = some x) : l.take (k + 1) = l.take k ++ [x] := take_snoc_at l k x h

set_option maxRecDepth 100000 in
set_option maxHeartbeats 1600000 in
theorem ref_at {w : World} {v : Value} {ids : List Int} (h : NumRow w v ids) (most id : Int) :
    Calls Tryd.prog 62 #[rbVal most v, .int .u32 id] w fun e w' => e = .returned (.int .i64 (idxS ids id)) ∧ Below w.heap.size w w' := by
  obtain ⟨a, cap, rfl, hcap, hcm⟩ := Row.form h
  have HR := hide h
  have hle : ids.length ≤ maxLen := Nat.le_trans hcap hcm
  unfold maxLen at hle
  have hbx := blk_new w (.cells #[.int .i64 most, .slice a ids.length cap] 31)
  have HBX := hide hbx
  have HB0 := hide (below_alloc (Below.refl _ w) (.cells #[.int .i64 most, .slice a ids.length cap] 31))
  clear h hbx
  unfold rbVal
  go_enter Tryd.func62, Tryd.ntmps62
  go_wp2
  go_loopw [5] (fun i wr => ∃ j : Nat, j ≤ ids.length ∧ i = .int .i64 j ∧ wr = w.alloc (.cells #[.int .i64 most, .slice a ids.length cap] 31) ∧ ∀ y ∈ ids.take j, (y == id) = false) (fun i _ => ids.length - (intOf i).toNat)
  case atStart => exact ⟨0, Nat.zero_le _, rfl, rfl, fun _ hy => by simp at hy⟩
  case round =>
    obtain ⟨j, hj, rfl, rfl, hno⟩ := hrel
    by_cases hlt : j < ids.length
    · obtain ⟨lb, off, cap', hv, _, _, _, hlb⟩ := Row.begins HR.out (by omega)
      injection hv with ha hle2 hc
      clear hle2
      subst ha; subst hc
      obtain ⟨t, ht⟩ : ∃ t, ids[j]? = some t := ⟨_, List.getElem?_eq_getElem hlt⟩
      have e0 := HR.out.cell' ht
      have HN := hide hno
      have HT := hide ht
      rcases Bool.eq_false_or_eq_true (t == id) with hm | hm
      · have hf : idxS ids id = j := by
          unfold idxS
          have : ids.findIdx? (· == id) = some j := by
            rw [List.findIdx?_eq_some_iff_getElem]
            refine ⟨hlt, ?_, fun i hi => ?_⟩
            · obtain ⟨h1, h2⟩ := List.getElem?_eq_some_iff.1 ht
              rw [h2]; exact hm
            · have := hno (ids[i]'(Nat.lt_trans hi hlt)) (List.mem_take_iff_getElem.2 ⟨i, by omega, rfl⟩)
              simp [this]
          rw [this]
        have HF := hide hf
        obtain rfl : t = id := by simpa using hm
        clear hno ht hm hf
        go_wp2
        go_ret
        exact ⟨by rw [HF.out]; rfl, HB0.out⟩
      · have hstep : ∀ y ∈ ids.take (j + 1), (y == id) = false := by
          rw [take_snocI ids j t ht]
          intro y hy
          rcases List.mem_append.1 hy with hy | hy
          · exact hno y hy
          · simp at hy
            subst hy
            exact hm
        have HS := hide hstep
        clear hstep hno ht
        go_wp2
        go_roundw
        case rel => exact ⟨j + 1, by omega, by go_num, trivial, HS.out⟩
        case measure => simp [intOf]; omega
    · obtain rfl : j = ids.length := by omega
      rw [List.take_length] at hno
      have hf : idxS ids id = -1 := by
        unfold idxS
        rw [List.findIdx?_eq_none_iff.2 hno]
      have HF := hide hf
      clear hno hf
      go_wp2
      go_ret
      exact ⟨by rw [HF.out]; rfl, HB0.out⟩
end Go.Proofs.YtdeonehebbofiaaDoor
