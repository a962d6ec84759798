/-
  A lane in a law: what was there when the law began is as it was.
-/
import Derived.Test.YtdeonehebbofiaaDoorRefF
import Derived.Test.YtdeonehebbofiaaDoorRefQ
import Derived.Test.YtdeonehebbofiaaDoorRefS
import Derived.Test.YtdeonehebbofiaaDoorFrame
namespace Go.Proofs.YtdeonehebbofiaaDoor
open Go.RowKit

structure LS (w0 w : World) (own : Nat → Prop) (g : Nat) (ts : List Tk) : Prop where
  lane : IsLane w own g ts
  low : Below w0.heap.size w0 w
  far : ∀ k, own k → w0.heap.size ≤ k
theorem LS.to {w0 w w' : World} {own : Nat → Prop} {g : Nat} {ts ts' : List Tk} (h : LS w0 w own g ts) (hl : LaneTo w own g ts' w') : ∃ own', LS w0 w' own' g ts' ∧ Upd own w w' := by
  obtain ⟨own', hI, hU, hO⟩ := hl
  refine ⟨own', ⟨hI, h.low.trans (hU.below h.low.size (fun i hi e => by have := h.far i e; omega)), fun k hk => ?_⟩, hU⟩
  rcases hO k hk with h1 | h1
  · exact h.far k h1
  · have := h.low.size; omega
theorem LS.same {w0 w w' : World} {own : Nat → Prop} {g : Nat} {ts : List Tk} (h : LS w0 w own g ts) (hb : Below w.heap.size w w') : LS w0 w' own g ts :=
  ⟨h.lane.same hb, h.low.trans (hb.mono h.low.size), h.far⟩
theorem LS.alloc {w0 w : World} {own : Nat → Prop} {g : Nat} {ts : List Tk} (h : LS w0 w own g ts) (o : Obj) : LS w0 (w.alloc o) own g ts := h.same (below_alloc (Below.refl _ w) o)

theorem ls_new (w : World) : Calls Tryd.prog 29 #[] w fun e w' => ∃ own g, e = .returned (.pointer (some ⟨g, 0, none⟩)) ∧ LS w w' own g [] := by
  refine (lane_new_is w).mono ?_
  rintro e w' ⟨own, g, rfl, h1, h2, h3⟩
  exact ⟨own, g, rfl, h1, h2, h3⟩
theorem LS.put {w0 w : World} {own : Nat → Prop} {g : Nat} {ts ts' : List Tk} {E : Nat → Addr} {n : Nat} (h : LS w0 w own g ts) (hS : Sent w0 E) (hF : Forms w0) (t : Tk) (hw : t.Wf) (hl : ts.length ≤ LB) (hp : putS ts t = (ts', n)) :
    Calls Tryd.prog 71 #[.pointer (some ⟨g, 0, none⟩), t.val] w fun e w' => e = .returned (errOf E n) ∧ ∃ own', LS w0 w' own' g ts' ∧ Upd own w w' := by
  refine (lane_put_is h.lane (hS.belows h.low) (hF.belows h.low) t hw hl).mono ?_
  rintro e w' ⟨rfl, hto⟩
  rw [hp] at hto ⊢
  exact ⟨rfl, h.to hto⟩

theorem LS.next {w0 w : World} {own : Nat → Prop} {g : Nat} {t : Tk} {r : List Tk} (h : LS w0 w own g (t :: r)) (hl : (t :: r).length ≤ LB) :
    Calls Tryd.prog 72 #[.pointer (some ⟨g, 0, none⟩)] w fun e w' => e = .returned (.tuple #[t.val, .bool true]) ∧ ∃ own', LS w0 w' own' g r ∧ Upd own w w' := by
  refine (lane_next_is h.lane hl).mono ?_
  rintro e w' (⟨h1, _⟩ | ⟨t', r', h1, rfl, hto⟩)
  · cases h1
  · injection h1 with h1 h2
    subst h1; subst h2
    exact ⟨rfl, h.to hto⟩
theorem ls_wf (k s v : Int) (h0 : 0 ≤ k) (h1 : k ≤ 7) (h2 : 0 ≤ s) (h3 : s ≤ 4294967295) (h4 : 0 ≤ v) (h5 : v ≤ 4294967295) : Tk.Wf ⟨k, s, v⟩ := ⟨by simp; omega, by simp; omega, h2, h3, h4, h5⟩

set_option maxRecDepth 100000 in
set_option maxHeartbeats 3200000 in
theorem law_fixed (E : Nat → Addr) (w : World) (hS : Sent w E) (hF : Forms w) :
    Calls Tryd.prog 28 #[] w fun e w' => e = .returned (.bool true) ∧ Below w.heap.size w w' := by
  have HS := hide hS
  have HF := hide hF
  have HP1 := hide (show putS [] ⟨1, 5, 0⟩ = ([⟨1, 5, 0⟩], 0) by decide)
  have HP2 := hide (show putS [⟨1, 5, 0⟩] ⟨3, 3, 10⟩ = ([⟨1, 5, 0⟩, ⟨3, 3, 10⟩], 0) by decide)
  have HP3 := hide (show putS [⟨1, 5, 0⟩, ⟨3, 3, 10⟩] ⟨5, 0, 7⟩ = ([⟨1, 5, 0⟩, ⟨3, 3, 10⟩, ⟨5, 0, 7⟩], 0) by decide)
  have HP4 := hide (show putS [⟨1, 5, 0⟩, ⟨3, 3, 10⟩, ⟨5, 0, 7⟩] ⟨3, 3, 4⟩ = ([⟨1, 5, 0⟩, ⟨3, 3, 14⟩, ⟨5, 0, 7⟩], 0) by decide)
  have HP5 := hide (show putS [⟨1, 5, 0⟩, ⟨3, 3, 14⟩, ⟨5, 0, 7⟩] ⟨1, 5, 0⟩ = ([⟨1, 5, 0⟩, ⟨3, 3, 14⟩, ⟨5, 0, 7⟩], 8) by decide)
  have HFR := hide (show frOf (hdOf ⟨3, 3, 14⟩) = .agg #[.int .u8 0, .int .u8 1, .int .u16 0, .int .u32 3, .int .u32 14, .slice none 0 0] by
    rw [show hdOf ⟨3, 3, 14⟩ = hdCells ⟨3, 3, 14⟩ from if_pos (by decide)]; rfl)
  have HFE := hide (show errOf E (may ⟨3, 3, 14⟩) = .nilIface by rw [show may ⟨3, 3, 14⟩ = 0 by decide]; rfl)
  clear hS hF
  go_enter Tryd.func28, Tryd.ntmps28
  go_wp2_with (first
    | (go_at_call 29; refine (ls_new w).mono ?_; rintro e1 w1 ⟨own1, g, rfl, h1⟩; have H1 := hide h1; clear h1)
    | (go_at_call 71; refine (H5.out.put HS.out HF.out ⟨1, 5, 0⟩ (by constructor <;> decide) (by decide) HP5.out).mono ?_; rintro e6 w6 ⟨rfl, own6, h6, _⟩; rw [show errOf E 8 = .iface 205 (.pointer (some (E 8))) from rfl]; have H6 := hide h6; clear h6 H5)
    | (go_at_call 71; refine (H4.out.put HS.out HF.out ⟨3, 3, 4⟩ (by constructor <;> decide) (by decide) HP4.out).mono ?_; rintro e5 w5 ⟨rfl, own5, h5, _⟩; rw [show errOf E 0 = .nilIface from rfl]; have H5 := hide h5; clear h5 H4)
    | (go_at_call 71; refine (H3.out.put HS.out HF.out ⟨5, 0, 7⟩ (by constructor <;> decide) (by decide) HP3.out).mono ?_; rintro e4 w4 ⟨rfl, own4, h4, _⟩; rw [show errOf E 0 = .nilIface from rfl]; have H4 := hide h4; clear h4 H3)
    | (go_at_call 71; refine (H2.out.put HS.out HF.out ⟨3, 3, 10⟩ (by constructor <;> decide) (by decide) HP2.out).mono ?_; rintro e3 w3 ⟨rfl, own3, h3, _⟩; rw [show errOf E 0 = .nilIface from rfl]; have H3 := hide h3; clear h3 H2)
    | (go_at_call 71; refine (H1.out.put HS.out HF.out ⟨1, 5, 0⟩ (by constructor <;> decide) (by decide) HP1.out).mono ?_; rintro e2 w2 ⟨rfl, own2, h2, _⟩; rw [show errOf E 0 = .nilIface from rfl]; have H2 := hide h2; clear h2 H1)
    | (go_at_call 16; refine (code_sent E w6 (HS.out.belows H6.out.low) 8 (by decide) (by decide) (by decide)).mono ?_; rintro e7 w7 ⟨rfl, rfl⟩)
    | (go_at_call 44; refine (lane_frame E ⟨3, 3, 14⟩ w6 (HS.out.belows H6.out.low) (HF.out.belows H6.out.low)).mono ?_; rintro e8 w8 ⟨rfl, hb8⟩; rw [HFR.out, HFE.out]; have H8 := hide (H6.out.same hb8); clear hb8 H6)
    | (go_at_call 72; refine (LS.next (H8.out.alloc (.cells #[.int .u8 0, .int .u8 1, .int .u16 0, .int .u32 3, .int .u32 14, .slice none 0 0] 75)) (by decide)).mono ?_; rintro e9 w9 ⟨rfl, own9, h9, u9⟩; rw [show (⟨1, 5, 0⟩ : Tk).val = .agg #[.int .i64 1, .int .u32 5, .int .u32 0] from rfl]; have hf9 := u9.keeps (blk_new w8 _) (fun e => Nat.lt_irrefl _ (H8.out.lane.own_lt _ e)); have H9 := hide h9; have HF9 := hide hf9; clear h9 u9 hf9 H8)
    | (go_at_call 33; refine (lane_list_is (H9.out.alloc (.cells #[.int .i64 1, .int .u32 5, .int .u32 0] 55)).lane (by decide)).mono ?_; rintro e10 w10 ⟨v10, rfl, r10, o10, b10⟩; have HR10 := hide r10; have HF10 := hide ((b10.block _ (by have := blk_lt HF9.out; simp; omega)).trans (blk_alloc HF9.out _)); have HT10 := hide ((b10.block _ (by simp)).trans (blk_new w9 _)); have HL10 := hide ((H9.out.alloc _).same b10).low; clear r10 o10 b10 H9))
  go_wp2_with (go_at_call 32; (refine (law_same (ts := [⟨3, 3, 14⟩, ⟨5, 0, 7⟩]) (us := [⟨3, 3, 14⟩, ⟨5, 0, 7⟩]) (HR10.out.below' (below_alloc (Below.refl _ w10) _)) (Row.lit w10 55 3 2 #[.int .i64 3, .int .u32 3, .int .u32 14, .int .i64 5, .int .u32 0, .int .u32 7] rfl (by decide))).mono ?_; rintro e11 w11 ⟨rfl, b11⟩; rw [decide_eq_true rfl]; have hf11 := (b11.block _ (by have := blk_lt HF10.out; simp; omega)).trans (blk_alloc HF10.out _); have ht11 := (b11.block _ (by have := blk_lt HT10.out; simp; omega)).trans (blk_alloc HT10.out _); have z0 : w11.cell? ⟨w8.heap.size, 0, none⟩ = some (.int .u8 0) := blk_cell hf11 0; have z1 : w11.cell? ⟨w8.heap.size, 1, none⟩ = some (.int .u8 1) := blk_cell hf11 1; have z2 : w11.cell? ⟨w8.heap.size, 2, none⟩ = some (.int .u16 0) := blk_cell hf11 2; have z3 : w11.cell? ⟨w8.heap.size, 3, none⟩ = some (.int .u32 3) := blk_cell hf11 3; have z4 : w11.cell? ⟨w8.heap.size, 4, none⟩ = some (.int .u32 14) := blk_cell hf11 4; have y0 : w11.cell? ⟨w9.heap.size, 0, none⟩ = some (.int .i64 1) := blk_cell ht11 0; have y1 : w11.cell? ⟨w9.heap.size, 1, none⟩ = some (.int .u32 5) := blk_cell ht11 1; have y2 : w11.cell? ⟨w9.heap.size, 2, none⟩ = some (.int .u32 0) := blk_cell ht11 2; have HL11 := hide (HL10.out.trans ((below_then (below_alloc (Below.refl _ w10) _) (by simp) b11).mono HL10.out.size)); clear hf11 ht11 b11 HL10))
  go_ret
  exact ⟨rfl, HL11.out⟩
end Go.Proofs.YtdeonehebbofiaaDoor
