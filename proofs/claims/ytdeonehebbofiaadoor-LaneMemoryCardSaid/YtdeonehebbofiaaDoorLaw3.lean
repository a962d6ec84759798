/-
  LaneAnswers: the walk.
-/
import Derived.Test.YtdeonehebbofiaaDoorLaw2
set_option linter.unusedVariables false
namespace Go.Proofs.YtdeonehebbofiaaDoor
open Go.RowKit

structure Op1 where
  kd : Int
  t : Tk
def Op1.cells (o : Op1) : List Value := [.int .i64 o.kd, .int .i64 o.t.k, .int .u32 o.t.s, .int .u32 o.t.v]
/-- Where a script lies: its cells read as these operations. -/
structure OpAt (w : World) (a : Option Addr) (cap : Nat) (os : List Op1) : Prop where
  le : os.length ≤ cap
  mx : cap ≤ maxLen
  pos : 0 < os.length → ∃ lb off, a = some ⟨lb, off, none⟩ ∧ lb < w.heap.size
  cells : ∀ lb off, a = some ⟨lb, off, none⟩ → ∀ i o, os[i]? = some o → w.cell? ⟨lb, off + i * 4, none⟩ = some (.int .i64 o.kd) ∧ w.cell? ⟨lb, off + i * 4 + 1, none⟩ = some (.int .i64 o.t.k) ∧
    w.cell? ⟨lb, off + i * 4 + 2, none⟩ = some (.int .u32 o.t.s) ∧ w.cell? ⟨lb, off + i * 4 + 3, none⟩ = some (.int .u32 o.t.v)
theorem OpAt.below' {w w' : World} {a : Option Addr} {cap : Nat} {os : List Op1} (h : OpAt w a cap os) (hb : Below w.heap.size w w') : OpAt w' a cap os where
  le := h.le
  mx := h.mx
  pos := fun hp => by
    obtain ⟨lb, off, e, hl⟩ := h.pos hp
    exact ⟨lb, off, e, Nat.lt_of_lt_of_le hl hb.size⟩
  cells := fun lb off e i o ho => by
    have hp : 0 < os.length := Nat.lt_of_le_of_lt (Nat.zero_le i) (List.getElem?_eq_some_iff.1 ho).1
    obtain ⟨lb', off', e', hl⟩ := h.pos hp
    rw [e] at e'
    injection e' with e'
    injection e' with e1 e2
    subst e1
    have := h.cells lb off e i o ho
    have hc : ∀ k, w'.cell? ⟨lb, k, none⟩ = w.cell? ⟨lb, k, none⟩ := fun k => hb.cell (p := ⟨lb, k, none⟩) hl
    rw [hc, hc, hc, hc]
    exact this

theorem LawSt.new {w w' : World} {own : Nat → Prop} {g : Nat} (h : LS w w' own g []) : LawSt w w' own g (.slice none 0 0) [] :=
  ⟨h, Row.nil _ _ _, fun b hb => by simp [Value.ownBlock] at hb⟩
theorem LawSt.rebase {w0 w1 w : World} {own : Nat → Prop} {g : Nat} {v : Value} {ts : List Tk} (h : LawSt w1 w own g v ts) (hb : Below w0.heap.size w0 w1) : LawSt w0 w own g v ts :=
  ⟨⟨h.ls.lane, hb.trans (h.ls.low.mono hb.size), fun k hk => Nat.le_trans hb.size (h.ls.far k hk)⟩, h.row, h.apart⟩

set_option maxRecDepth 100000 in
set_option maxHeartbeats 3200000 in
theorem answers_lane (E : Nat → Addr) (w : World) (hS : Sent w E) (hF : Forms w) (a : Option Addr) (cap : Nat) (os : List Op1) (h : OpAt w a cap os) (hwf : ∀ o ∈ os, o.t.Wf) (hl : os.length ≤ 5864062014634) :
    Calls Tryd.prog 6 #[.bool false, .slice a os.length cap] w fun e w' => e = .returned (.bool true) ∧ Below w.heap.size w w' := by
  have hcap := h.le
  have hcm := h.mx
  have HR := hide h
  have HS := hide hS
  have HF := hide hF
  have HWF := hide hwf
  clear h hS hF hwf
  go_enter Tryd.func6, Tryd.ntmps6
  go_wp2_with (first
    | (go_at_call 28; refine (law_fixed E w HS.out HF.out).mono ?_; rintro e1 w1 ⟨rfl, b1⟩; have HB1 := hide b1; clear b1)
    | (go_at_call 29; refine (ls_new w1).mono ?_; rintro e2 w2 ⟨own2, g, rfl, h2⟩; have H2 := hide ((LawSt.new h2).rebase HB1.out); clear h2))
  go_loopw [6, 18] (fun m i wr => ∃ (j : Nat) (own : Nat → Prop) (ts : List Tk), j ≤ os.length ∧ i = .int .i64 j ∧ LawSt w wr own g m ts ∧ ts.length ≤ j) (fun _ i _ => os.length - (intOf i).toNat)
  case atStart => exact ⟨0, own2, [], Nat.zero_le _, rfl, H2.out, by simp⟩
  case round =>
    obtain ⟨j, own, ts, hj, rfl, hI, htl⟩ := hrel
    by_cases hlt : j < os.length
    · obtain ⟨lb, off, ha, hlb⟩ := HR.out.pos (by omega)
      subst ha
      obtain ⟨o, ho⟩ : ∃ o, os[j]? = some o := ⟨_, List.getElem?_eq_getElem hlt⟩
      obtain ⟨c0, c1, c2, c3⟩ := (HR.out.below' hI.ls.low).cells lb off rfl j o ho
      have hlb2 : lb < wr.heap.size := Nat.lt_of_lt_of_le hlb hI.ls.low.size
      have hst := step_any E w _ own g _ ts (hI.alloc (.cells #[.int .i64 o.kd, .int .i64 o.t.k, .int .u32 o.t.s, .int .u32 o.t.v] 57)) HS.out HF.out o.kd o.t (HWF.out o (List.mem_of_getElem? ho)) (by unfold LB; omega)
      have HST := hide hst
      have HI := hide hI
      clear hI ho hst
      go_wp2_with (first
        | (go_at_call 30; refine HST.out.mono ?_; rintro e3 w3 ⟨own3, v3, ts3, rfl, h3, l3, z3⟩; obtain ⟨a3, k3, hv3, _, _⟩ := Row.form h3.row; subst hv3; have H3 := hide h3; clear h3 z3)
        | (go_at_call 31; refine (lane_len_is H3.out.ls.lane).mono ?_; rintro e4 w4 ⟨rfl, rfl⟩)
        | (go_at_call 33; refine (lane_list_is H3.out.ls.lane (by unfold LB; omega)).mono ?_; rintro e5 w5 ⟨v5, rfl, r5, o5, b5⟩; have HR5 := hide r5; have H5 := hide (H3.out.same b5); clear r5 o5 b5)
        | (go_at_call 32; refine (law_same HR5.out H5.out.row).mono ?_; rintro e6 w6 ⟨rfl, b6⟩; rw [decide_eq_true rfl]; have H6 := hide (H5.out.same b6); clear b6))
      go_roundw
      case rel => exact ⟨j + 1, own3, ts3, by omega, by go_num, H6.out, by omega⟩
      case measure => simp [intOf]; omega
    · obtain rfl : j = os.length := by omega
      obtain ⟨a3, k3, hv3, _, _⟩ := Row.form hI.row
      subst hv3
      have HI := hide hI
      clear hI
      go_wp2
      go_loopw [11] (fun k wx => ∃ i : Int, -1 ≤ i ∧ i ≤ 9 ∧ k = .int .i64 i ∧ wx = wr) (fun k _ => (9 - intOf k).toNat)
      case atStart => exact ⟨-1, by omega, by omega, rfl, rfl⟩
      case round =>
        obtain ⟨i, hi0, hi1, rfl, rfl⟩ := hrel
        by_cases hi : i ≤ 8
        · go_wp2_with (first
            | (go_at_call 34; refine (lane_count_is HI.out.ls.lane i).mono ?_; rintro e7 w7 ⟨rfl, rfl⟩)
            | (go_at_call 35; refine (ref_count HI.out.row i).mono ?_; rintro e8 w8 ⟨rfl, rfl⟩))
          go_roundw
          case rel => exact ⟨i + 1, by omega, by omega, by go_num, trivial⟩
          case measure => simp [intOf]; omega
        · go_wp2
          go_ret
          exact ⟨rfl, HI.out.ls.low⟩
set_option maxRecDepth 100000 in
set_option maxHeartbeats 3200000 in
theorem answers_nil (E : Nat → Addr) (w : World) (hS : Sent w E) (hF : Forms w) (a : Option Addr) (cap : Nat) (os : List Op1) (h : OpAt w a cap os) (hwf : ∀ o ∈ os, o.t.Wf) (hl : os.length ≤ 5864062014634) :
    Calls Tryd.prog 6 #[.bool true, .slice a os.length cap] w fun e w' => e = .returned (.bool true) ∧ Below w.heap.size w w' := by
  have hcap := h.le
  have hcm := h.mx
  have HR := hide h
  have HS := hide hS
  have HF := hide hF
  have HWF := hide hwf
  clear h hS hF hwf
  go_enter Tryd.func6, Tryd.ntmps6
  go_wp2_with (first
    | (go_at_call 28; refine (law_fixed E w HS.out HF.out).mono ?_; rintro e1 w1 ⟨rfl, b1⟩; have HB1 := hide b1; clear b1)
    | (go_at_call 29; refine (ls_new w1).mono ?_; rintro e2 w2 ⟨own2, g, rfl, h2⟩; have HB2 := hide (HB1.out.trans (h2.low.mono HB1.out.size)); clear h2))
  go_loopw [6, 18] (fun m i wr => ∃ (j : Nat), j ≤ os.length ∧ i = .int .i64 j ∧ TkRow wr m [] ∧ Below w.heap.size w wr) (fun _ i _ => os.length - (intOf i).toNat)
  case atStart => exact ⟨0, Nat.zero_le _, rfl, Row.nil _ _ _, HB2.out⟩
  case round =>
    obtain ⟨j, hj, rfl, hI, hB⟩ := hrel
    by_cases hlt : j < os.length
    · obtain ⟨lb, off, ha, hlb⟩ := HR.out.pos (by omega)
      subst ha
      obtain ⟨o, ho⟩ : ∃ o, os[j]? = some o := ⟨_, List.getElem?_eq_getElem hlt⟩
      obtain ⟨c0, c1, c2, c3⟩ := (HR.out.below' hB).cells lb off rfl j o ho
      have hlb2 : lb < wr.heap.size := Nat.lt_of_lt_of_le hlb hB.size
      have hba := below_alloc (Below.refl wr.heap.size wr) (.cells #[.int .i64 o.kd, .int .i64 o.t.k, .int .u32 o.t.s, .int .u32 o.t.v] 57)
      have hbw := hB.trans (hba.mono hB.size)
      have hst := stepnil_any E _ _ (hI.below' hba) (HS.out.belows hbw) o.kd o.t (HWF.out o (List.mem_of_getElem? ho))
      have HBW := hide hbw
      have HST := hide hst
      have HI := hide hI
      clear hI hB ho hst hba hbw
      go_wp2_with (first
        | (go_at_call 30; refine HST.out.mono ?_; rintro e3 w3 ⟨v3, rfl, h3, b3⟩; obtain ⟨a3, k3, hv3, _, _⟩ := Row.form h3; subst hv3; have H3 := hide h3; have HB3 := hide (HBW.out.trans (b3.mono HBW.out.size)); clear h3 b3)
        | (go_at_call 31; refine (lane_len_nil _).mono ?_; rintro e4 w4 ⟨rfl, rfl⟩)
        | (go_at_call 33; refine (lane_list_nil _).mono ?_; rintro e5 w5 ⟨rfl, rfl⟩)
        | (go_at_call 32; refine (law_same (ts := []) (us := []) (Row.nil _ _ _) H3.out).mono ?_; rintro e6 w6 ⟨rfl, b6⟩; rw [decide_eq_true rfl]; have H6 := hide (H3.out.below' b6); have HB6 := hide (HB3.out.trans (b6.mono HB3.out.size)); clear b6))
      go_roundw
      case rel => exact ⟨j + 1, by omega, by go_num, H6.out, HB6.out⟩
      case measure => simp [intOf]; omega
    · obtain rfl : j = os.length := by omega
      obtain ⟨a3, k3, hv3, _, _⟩ := Row.form hI
      simp only [List.length_nil] at hv3
      subst hv3
      have HI := hide hI
      have HB := hide hB
      clear hI hB
      go_wp2
      go_loopw [11] (fun k wx => ∃ i : Int, -1 ≤ i ∧ i ≤ 9 ∧ k = .int .i64 i ∧ wx = wr) (fun k _ => (9 - intOf k).toNat)
      case atStart => exact ⟨-1, by omega, by omega, rfl, rfl⟩
      case round =>
        obtain ⟨i, hi0, hi1, rfl, rfl⟩ := hrel
        by_cases hi : i ≤ 8
        · go_wp2_with (first
            | (go_at_call 34; refine (lane_count_nil i _).mono ?_; rintro e7 w7 ⟨rfl, rfl⟩)
            | (go_at_call 35; refine (ref_count HI.out i).mono ?_; rintro e8 w8 ⟨rfl, rfl⟩; rw [show cntK [] i = 0 from rfl]))
          go_roundw
          case rel => exact ⟨i + 1, by omega, by omega, by go_num, trivial⟩
          case measure => simp [intOf]; omega
        · go_wp2
          go_ret
          exact ⟨rfl, HB.out⟩
end Go.Proofs.YtdeonehebbofiaaDoor
