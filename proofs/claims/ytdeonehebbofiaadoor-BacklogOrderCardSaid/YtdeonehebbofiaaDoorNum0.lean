/-
  Slices of numbers: SameNumbers; the document's At.
-/
import Derived.Test.YtdeonehebbofiaaDoorMem2
import Derived.Test.YtdeonehebbofiaaDoorSlice
import Derived.Test.YtdeonehebbofiaaDoorLane3
import Derived.BigQuiet
set_option linter.unusedVariables false
namespace Go.Proofs.YtdeonehebbofiaaDoor
open Go.RowKit

def ncells (ids : List Int) : List Value := ids.map (Value.int .u32)
/-- The slice v reads as these numbers. -/
def NumRow (w : World) (v : Value) (ids : List Int) : Prop := Row w 34 1 v ids.length (ncells ids)
theorem NumRow.below' {w w' : World} {v : Value} {us : List Int} (h : NumRow w v us) (hb : Below w.heap.size w w') : NumRow w' v us :=
  Row.upd h (Upd.of_below hb (fun _ => False)) (fun _ _ e => e)
theorem NumRow.cell' {w : World} {lb off cap : Nat} {us : List Int} {i : Nat} {x : Int} (h : NumRow w (.slice (some ⟨lb, off, none⟩) us.length cap) us) (hi : us[i]? = some x) : w.cell? ⟨lb, off + i, none⟩ = some (.int .u32 x) := by
  have hil : i < us.length := (List.getElem?_eq_some_iff.1 hi).1
  rw [Row.cell h (by omega)]
  simp [ncells, hi]

set_option maxRecDepth 100000 in
set_option maxHeartbeats 1600000 in
theorem same_numbers {w : World} {v u : Value} {ts us : List Int} (h : NumRow w v ts) (k : NumRow w u us) :
    Calls Tryd.prog 27 #[v, u] w fun e w' => e = .returned (.bool (decide (ts = us))) ∧ Below w.heap.size w w' := by
  obtain ⟨a, cap, rfl, hcap, hcm⟩ := Row.form h
  obtain ⟨b, cap2, rfl, hcap2, hcm2⟩ := Row.form k
  have HR := hide h
  have HK := hide k
  have hle : ts.length ≤ maxLen := Nat.le_trans hcap hcm
  have hle2 : us.length ≤ maxLen := Nat.le_trans hcap2 hcm2
  unfold maxLen at hle hle2
  clear h k
  by_cases hl : ts.length = us.length
  · have hl2 : ((ts.length : Int) == (us.length : Int)) = true := by simp [hl]
    have hl3 : ((ts.length : Int) != (us.length : Int)) = false := by simp [hl]
    have HL := hide hl
    clear hl
    go_enter Tryd.func27, Tryd.ntmps27
    go_wp2
    go_loopw [5] (fun i wr => ∃ j : Nat, j ≤ ts.length ∧ i = .int .i64 j ∧ Below w.heap.size w wr ∧ ts.take j = us.take j) (fun i _ => ts.length - (intOf i).toNat)
    case atStart => exact ⟨0, Nat.zero_le _, rfl, Below.refl _ _, rfl⟩
    case round =>
      obtain ⟨j, hj, rfl, hb, hno⟩ := hrel
      by_cases hlt : j < ts.length
      · have hlt2 : j < us.length := by rw [← HL.out]; exact hlt
        obtain ⟨lb, off, cap', hv, _, _, _, hlb⟩ := Row.begins HR.out (by omega)
        injection hv with ha _ hc
        subst ha; subst hc
        obtain ⟨lb2, off2, cap2', hv, _, _, _, hlb2⟩ := Row.begins HK.out (by omega)
        injection hv with ha _ hc
        subst ha; subst hc
        obtain ⟨t, ht⟩ : ∃ t, ts[j]? = some t := ⟨_, List.getElem?_eq_getElem hlt⟩
        obtain ⟨t', ht'⟩ : ∃ t, us[j]? = some t := ⟨_, List.getElem?_eq_getElem hlt2⟩
        have e0 := (HR.out.below' hb).cell' ht
        have d0 := (HK.out.below' hb).cell' ht'
        have HBB := hide hb
        have HT := hide ht
        have HT' := hide ht'
        have hd0 : t ≠ t' → decide (ts = us) = false := by
          intro hne
          rw [decide_eq_false_iff_not]
          rintro rfl
          rw [HT.out] at ht'
          exact hne (Option.some.inj ht')
        have HD0 := hide hd0
        have HNO := hide hno
        clear hb ht ht' hd0 hno
        rcases Bool.eq_false_or_eq_true (t == t') with hk | hk
        · obtain rfl : t = t' := by simpa using hk
          clear hk
          go_wp2
          go_quiet (fail)
          go_wp2
          go_roundw
          case rel => exact ⟨j + 1, by omega, by go_num, below_drewN HBB.out _, by rw [take_snoc_at _ _ _ HT.out, take_snoc_at _ _ _ HT'.out, HNO.out]⟩
          case measure => simp [intOf]; omega
        · have HD := hide (HD0.out (by intro e; simp [e] at hk))
          go_wp2
          go_quiet (fail)
          go_wp2
          go_ret
          exact ⟨by rw [HD.out]; rfl, below_drewN HBB.out _⟩
      · obtain rfl : j = ts.length := by omega
        have hts : decide (ts = us) = true := by
          rw [decide_eq_true_iff]
          have h1 : ts.take ts.length = ts := List.take_length
          have h2 : us.take ts.length = us := by rw [HL.out]; exact List.take_length
          rw [h1, h2] at hno
          exact hno
        have HTS := hide hts
        have HBB := hide hb
        clear hts hb hno
        go_wp2
        go_ret
        exact ⟨by rw [HTS.out]; rfl, HBB.out⟩
  · have hl2 : ((ts.length : Int) == (us.length : Int)) = false := by simp; omega
    have HL := hide hl
    clear hl
    go_enter Tryd.func27, Tryd.ntmps27
    go_wp2
    go_ret
    refine ⟨?_, Below.refl _ _⟩
    have : decide (ts = us) = false := by
      rw [decide_eq_false_iff_not]
      rintro rfl
      exact HL.out rfl
    rw [this]
    rfl
end Go.Proofs.YtdeonehebbofiaaDoor
