/-
  The document's answers for lanes: Find, Count, Forget; Same.
-/
import Derived.Test.YtdeonehebbofiaaDoorLane12
namespace Go.Proofs.YtdeonehebbofiaaDoor
open Go.RowKit

def findS (ts : List Tk) (k s : Int) : Int := match ts.findIdx? (keyB k s) with | some i => i | none => -1

set_option maxRecDepth 100000 in
set_option maxHeartbeats 1600000 in
theorem ref_find {w : World} {v : Value} {ts : List Tk} (h : TkRow w v ts) (k s : Int) :
    Calls Tryd.prog 75 #[v, .int .i64 k, .int .u32 s] w fun e w' => e = .returned (.int .i64 (findS ts k s)) ∧ w = w' := by
  obtain ⟨a, cap, rfl, hcap, hcm⟩ := Row.form h
  have HR := hide h
  have hle : ts.length ≤ maxLen := Nat.le_trans hcap hcm
  unfold maxLen at hle
  clear h
  go_enter Tryd.func75, Tryd.ntmps75
  go_wp2
  go_loopw [7] (fun i wr => ∃ j : Nat, j ≤ ts.length ∧ i = .int .i64 j ∧ wr = w ∧ ∀ y ∈ ts.take j, keyB k s y = false) (fun i _ => ts.length - (intOf i).toNat)
  case atStart => exact ⟨0, Nat.zero_le _, rfl, rfl, fun _ hy => by simp at hy⟩
  case round =>
    obtain ⟨j, hj, rfl, rfl, hno⟩ := hrel
    by_cases hlt : j < ts.length
    · obtain ⟨lb, off, cap', hv, _, _, _, hlb⟩ := Row.begins HR.out (by omega)
      injection hv with ha _ hc
      subst ha; subst hc
      obtain ⟨t, ht⟩ : ∃ t, ts[j]? = some t := ⟨_, List.getElem?_eq_getElem hlt⟩
      obtain ⟨e0, e1, e2⟩ := HR.out.cells ht
      have HN := hide hno
      have HT := hide ht
      rcases Bool.eq_false_or_eq_true (keyB k s t) with hm | hm
      · have hf : findS ts k s = j := by
          unfold findS
          have : ts.findIdx? (keyB k s) = some j := by
            rw [List.findIdx?_eq_some_iff_getElem]
            refine ⟨hlt, ?_, fun i hi => ?_⟩
            · obtain ⟨h1, h2⟩ := List.getElem?_eq_some_iff.1 ht
              rw [h2]; exact hm
            · have := hno (ts[i]'(Nat.lt_trans hi hlt)) (List.mem_take_iff_getElem.2 ⟨i, by omega, rfl⟩)
              simp [this]
          rw [this]
        have HF := hide hf
        have hk : t.k = k := by simp [keyB] at hm; exact hm.1
        have hs : t.s = s := by simp [keyB] at hm; exact hm.2
        rw [hk] at e0
        rw [hs] at e1
        clear hno ht hm hf hk hs
        go_wp2
        go_ret
        exact ⟨by rw [HF.out]; rfl, rfl⟩
      · have hstep : ∀ y ∈ ts.take (j + 1), keyB k s y = false := by
          rw [take_snoc_at ts j t ht]
          intro y hy
          rcases List.mem_append.1 hy with hy | hy
          · exact hno y hy
          · simp at hy
            subst hy
            exact hm
        have HS := hide hstep
        clear hstep hno ht
        rcases Bool.eq_false_or_eq_true (t.k == k) with hk | hk
        · have hs : (t.s == s) = false := by simpa [keyB, hk] using hm
          clear hm
          go_wp2
          go_roundw
          case rel => exact ⟨j + 1, by omega, by go_num, trivial, HS.out⟩
          case measure => simp [intOf]; omega
        · clear hm
          go_wp2
          go_roundw
          case rel => exact ⟨j + 1, by omega, by go_num, trivial, HS.out⟩
          case measure => simp [intOf]; omega
    · obtain rfl : j = ts.length := by omega
      rw [List.take_length] at hno
      have hf : findS ts k s = -1 := by
        unfold findS
        rw [List.findIdx?_eq_none_iff.2 hno]
      have HF := hide hf
      clear hno hf
      go_wp2
      go_ret
      exact ⟨by rw [HF.out]; rfl, rfl⟩

theorem cntK_snoc (a : List Tk) (t : Tk) (k : Int) : cntK (a ++ [t]) k = cntK a k + if t.k == k then 1 else 0 := by
  unfold cntK
  rw [List.countP_append]
  cases h : t.k == k <;> simp [h]

set_option maxRecDepth 100000 in
set_option maxHeartbeats 1600000 in
theorem ref_count {w : World} {v : Value} {ts : List Tk} (h : TkRow w v ts) (k : Int) :
    Calls Tryd.prog 35 #[v, .int .i64 k] w fun e w' => e = .returned (.int .i64 (cntK ts k)) ∧ w = w' := by
  obtain ⟨a, cap, rfl, hcap, hcm⟩ := Row.form h
  have HR := hide h
  have hle : ts.length ≤ maxLen := Nat.le_trans hcap hcm
  unfold maxLen at hle
  clear h
  go_enter Tryd.func35, Tryd.ntmps35
  go_wp2
  go_loopw [5, 6] (fun n i wr => ∃ j : Nat, j ≤ ts.length ∧ i = .int .i64 j ∧ wr = w ∧ n = .int .i64 (cntK (ts.take j) k)) (fun _ i _ => ts.length - (intOf i).toNat)
  case atStart => exact ⟨0, Nat.zero_le _, rfl, rfl, rfl⟩
  case round =>
    obtain ⟨j, hj, rfl, rfl, rfl⟩ := hrel
    by_cases hlt : j < ts.length
    · obtain ⟨lb, off, cap', hv, _, _, _, hlb⟩ := Row.begins HR.out (by omega)
      injection hv with ha _ hc
      subst ha; subst hc
      obtain ⟨t, ht⟩ : ∃ t, ts[j]? = some t := ⟨_, List.getElem?_eq_getElem hlt⟩
      obtain ⟨e0, e1, e2⟩ := HR.out.cells ht
      have hcs := cntK_snoc (ts.take j) t k
      rw [← take_snoc_at ts j t ht] at hcs
      have hcl := cntK_le (ts.take j) k
      have htl := List.length_take_le j ts
      rcases Bool.eq_false_or_eq_true (t.k == k) with hm | hm
      · rw [hm] at hcs
        simp only [if_true] at hcs
        have HC := hide hcs
        generalize cntK (ts.take j) k = x at *
        clear hcs ht
        go_wp2
        go_roundw
        case rel => exact ⟨j + 1, by omega, by go_num, trivial, by rw [HC.out]⟩
        case measure => simp [intOf]; omega
      · rw [hm] at hcs
        simp only [Bool.false_eq_true, if_false] at hcs
        have HC := hide hcs
        generalize cntK (ts.take j) k = x at *
        clear hcs ht
        go_wp2
        go_roundw
        case rel => exact ⟨j + 1, by omega, by go_num, trivial, by rw [HC.out]; simp⟩
        case measure => simp [intOf]; omega
    · obtain rfl : j = ts.length := by omega
      rw [List.take_length]
      go_wp2
      go_ret
      exact ⟨rfl, rfl⟩
end Go.Proofs.YtdeonehebbofiaaDoor
