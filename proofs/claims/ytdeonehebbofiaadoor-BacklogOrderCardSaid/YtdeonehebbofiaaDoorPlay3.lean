/-
  culvertlaw16.BacklogPlays: the walk.
-/
import Derived.Test.YtdeonehebbofiaaDoorPlay2
import Derived.Test.YtdeonehebbofiaaDoorBref1
set_option linter.unusedVariables false
namespace Go.Proofs.YtdeonehebbofiaaDoor
open Go.RowKit

theorem step16_any {E : Nat → Addr} {w0 wb w : World} {ob own : Nat → Prop} {b : Nat} {most : Int} {v : Value} {ids : List Int} (h : PS w0 wb ob w own b most v ids) (hS : Sent w0 E) (kd n id : Int) :
    Calls Tryd.prog 17 #[.pointer (some ⟨b, 0, none⟩), rbVal most v, opVal kd n id] w (StepOk w0 w own b most) := by
  by_cases h2 : kd = 2
  · subst h2; exact step16_put h hS n id
  by_cases h3 : kd = 3
  · subst h3; exact step16_take h hS n id
  by_cases h4 : kd = 4
  · subst h4; exact step16_remove h hS n id
  by_cases h5 : kd = 5
  · subst h5; exact step16_clear h hS n id
  by_cases h6 : kd = 6
  · subst h6; exact step16_head h hS n id
  by_cases h7 : kd = 7
  · subst h7; exact step16_has h hS n id
  exact step16_look h hS kd n id h2 h3 h4 h5 h6 h7

structure Op6 where
  kd : Int
  n : Int
  id : Int
/-- Where a script lies: its cells read as these operations. -/
structure OpAt6 (w : World) (a : Option Addr) (cap : Nat) (os : List Op6) : Prop where
  le : os.length ≤ cap
  mx : cap ≤ maxLen
  pos : 0 < os.length → ∃ lb off, a = some ⟨lb, off, none⟩ ∧ lb < w.heap.size
  cells : ∀ lb off, a = some ⟨lb, off, none⟩ → ∀ i o, os[i]? = some o → w.cell? ⟨lb, off + i * 3, none⟩ = some (.int .i64 o.kd) ∧ w.cell? ⟨lb, off + i * 3 + 1, none⟩ = some (.int .i64 o.n) ∧
    w.cell? ⟨lb, off + i * 3 + 2, none⟩ = some (.int .u32 o.id)
theorem OpAt6.below' {w w' : World} {a : Option Addr} {cap : Nat} {os : List Op6} (h : OpAt6 w a cap os) (hb : Below w.heap.size w w') : OpAt6 w' a cap os where
  le := h.le
  mx := h.mx
  pos := fun hp => by
    obtain ⟨lb, off, e, hl⟩ := h.pos hp
    exact ⟨lb, off, e, Nat.lt_of_lt_of_le hl hb.size⟩
  cells := fun lb off e i o ho => by
    have hp : 0 < os.length := Nat.lt_of_le_of_lt (Nat.zero_le i) (List.getElem?_eq_some_iff.1 ho).1
    obtain ⟨lb', off', e', hl⟩ := h.pos hp
    rw [e] at e'
    injection e' with e'
    injection e' with e1 e2
    subst e1
    have := h.cells lb off e i o ho
    have hc : ∀ k, w'.cell? ⟨lb, k, none⟩ = w.cell? ⟨lb, k, none⟩ := fun k => hb.cell (p := ⟨lb, k, none⟩) hl
    rw [hc, hc, hc]
    exact this
/-- The law's variables: the backlog, the document's in its box R. -/
structure PL (w0 w : World) (own : Nat → Prop) (b R : Nat) (most : Int) (v : Value) (ids : List Int) : Prop where
  ps : PS w0 w own w own b most v ids
  box : w.heap[R]? = some (.cells #[.int .i64 most, v] 31 (0, 0))
  ro : ¬ own R
  r0 : w0.heap.size ≤ R
theorem PL.same {w0 w w' : World} {own : Nat → Prop} {b R : Nat} {most : Int} {v : Value} {ids : List Int} (h : PL w0 w own b R most v ids) (hb : Below w.heap.size w w') : PL w0 w' own b R most v ids :=
  ⟨PS.start (PH.same h.ps hb), (hb.block _ (blk_lt h.box)).trans h.box, h.ro, h.r0⟩

/-- Behind a step: the document's goes into its box. -/
theorem PL.next {w0 w w1 wd : World} {own own' : Nat → Prop} {b R : Nat} {most : Int} {v v' : Value} {ids ids' : List Int} (h : PL w0 w own b R most v ids) (hp : PS w0 w own w1 own' b most v' ids')
    (hwd : wd = (w1.setCell ⟨R, 0, none⟩ (.int .i64 most)).setCell ⟨R, 1, none⟩ v') : PL w0 wd own' b R most v' ids' := by
  have hR : w1.heap[R]? = some (.cells #[.int .i64 most, v] 31 (0, 0)) := hp.base.keeps h.box h.ro
  have hro : ¬ own' R := fun ho => by
    rcases hp.inb _ ho with h1 | h1
    · exact h.ro h1
    · have := blk_lt h.box
      omega
  have hn := Row.ne hp.row hR (by decide)
  have hU : Upd (fun k => k = R) w1 wd := by
    subst hwd
    exact ((Upd.refl (fun k => k = R) w1).setCell (p := ⟨R, 0, none⟩) (.inl rfl) _).setCell (p := ⟨R, 1, none⟩) (.inl rfl) _
  have hbd : wd.heap[R]? = some (.cells #[.int .i64 most, v'] 31 (0, 0)) := by
    subst hwd
    exact blk_set2 _ _ _ _ hR
  have hr0 := h.r0
  exact ⟨⟨hp.back.upd hU (fun k hk _ e => hro (e ▸ hk)), Row.upd hp.row hU (fun k hk e => hn (e ▸ hk)), hp.apart, hp.low.trans (hU.below hp.low.size (fun i hi e => by omega)), hp.far, Upd.refl _ _, fun _ hk => .inl hk⟩, hbd, hro, h.r0⟩

/-- New ones. -/
theorem PL.renew {w0 w wd : World} {own own' : Nat → Prop} {b b' R : Nat} {most n : Int} {v : Value} {ids : List Int} (h : PL w0 w own b R most v ids) (hB : IsBack w own' b' n []) (hf : ∀ k, own' k → R < k)
    (hwd : wd = (w.setCell ⟨R, 0, none⟩ (.int .i64 n)).setCell ⟨R, 1, none⟩ (.slice none 0 0)) : PL w0 wd own' b' R n (.slice none 0 0) [] := by
  have hU : Upd (fun k => k = R) w wd := by
    subst hwd
    exact ((Upd.refl (fun k => k = R) w).setCell (p := ⟨R, 0, none⟩) (.inl rfl) _).setCell (p := ⟨R, 1, none⟩) (.inl rfl) _
  have hbd : wd.heap[R]? = some (.cells #[.int .i64 n, .slice none 0 0] 31 (0, 0)) := by
    subst hwd
    exact blk_set2 _ _ _ _ h.box
  have hr0 := h.r0
  exact ⟨⟨hB.upd hU (fun k hk _ e => by have := hf k hk; omega), Row.nil _ _ _, fun k hk => by simp [Value.ownBlock] at hk, h.ps.low.trans (hU.below h.ps.low.size (fun i hi e => by omega)), fun k hk => by have := hf k hk; omega, Upd.refl _ _, fun _ hk => .inl hk⟩, hbd, fun ho => by have := hf R ho; omega, h.r0⟩

set_option maxRecDepth 100000 in
set_option maxHeartbeats 3200000 in
theorem plays_walk (E : Nat → Addr) (w : World) (hS : Sent w E) (a : Option Addr) (cap : Nat) (os : List Op6) (h : OpAt6 w a cap os) :
    Calls Tryd.prog 3 #[.slice a os.length cap] w fun e w' => e = .returned (.bool true) ∧ Below w.heap.size w w' := by
  have hcap := h.le
  have hcm := h.mx
  have hle : os.length ≤ 9223372036854775807 := by unfold maxLen at hcm; omega
  have HR := hide h
  have HS := hide hS
  clear h hS
  go_enter Tryd.func3, Tryd.ntmps3
  go_wp2_with fail
  refine (law16_awake E w HS.out).mono ?_
  rintro e1 w1 ⟨rfl, b1⟩
  have B1 := hide b1
  clear b1
  go_wp2_with fail
  refine (back_new 3 w1 (by decide) (by decide)).mono ?_
  rintro e2 w2 ⟨own2, b, rfl, h2, f2, b2⟩
  have H2 := hide h2
  have F2 := hide f2
  have B2 := hide (below_then B1.out B1.out.size b2)
  have Z2 := hide b2.size
  clear h2 f2 b2
  go_wp2_with fail
  refine (ref16_new 3 w2).mono ?_
  rintro e3 w3 ⟨rfl, b3⟩
  rw [if_neg (by decide), if_neg (by decide)]
  unfold rbVal
  have hB3 := below_then B2.out B2.out.size b3
  have hpl : PL w (w3.alloc (.cells #[.int .i64 3, .slice none 0 0] 31)) own2 b w3.heap.size 3 (.slice none 0 0) [] :=
    ⟨⟨(H2.out.same b3).same (below_alloc (Below.refl _ w3) _), Row.nil _ _ _, fun k hk => by simp [Value.ownBlock] at hk, below_then hB3 hB3.size (below_alloc (Below.refl _ w3) _), fun k hk => Nat.le_trans B1.out.size (F2.out k hk), Upd.refl _ _, fun _ hk => .inl hk⟩, new1 w3 _, fun ho => by have := H2.out.lt _ ho; have := b3.size; omega, hB3.size⟩
  have PL3 := hide hpl
  clear b3 hB3 hpl
  go_wp2
  go_loopw [3, 7] (fun p i wr => ∃ (j : Nat) (own : Nat → Prop) (b : Nat) (most : Int) (v : Value) (ids : List Int), j ≤ os.length ∧ p = .pointer (some ⟨b, 0, none⟩) ∧ i = .int .i64 j ∧ PL w wr own b w3.heap.size most v ids) (fun _ i _ => os.length - (intOf i).toNat)
  case atStart => exact ⟨0, own2, b, 3, _, [], Nat.zero_le _, rfl, rfl, PL3.out⟩
  case round =>
    obtain ⟨j, own, b, most, v, ids, hj, rfl, rfl, hI⟩ := hrel
    obtain ⟨va, vc, hv, _, _⟩ := Row.form hI.ps.row
    subst hv
    by_cases hlt : j < os.length
    · obtain ⟨lb, off, ha, hlb⟩ := HR.out.pos (by omega)
      subst ha
      obtain ⟨o, ho⟩ : ∃ o, os[j]? = some o := ⟨_, List.getElem?_eq_getElem hlt⟩
      obtain ⟨c0, c1, c2⟩ := (HR.out.below' hI.ps.low).cells lb off rfl j o ho
      have hlb2 : lb < wr.heap.size := Nat.lt_of_lt_of_le hlb hI.ps.low.size
      have r0 : (wr.alloc (.cells #[.int .i64 o.kd, .int .i64 o.n, .int .u32 o.id] 36)).cell? ⟨w3.heap.size, 0, none⟩ = some (.int .i64 most) := blk_cell (blk_alloc hI.box _) 0
      have r1 : (wr.alloc (.cells #[.int .i64 o.kd, .int .i64 o.n, .int .u32 o.id] 36)).cell? ⟨w3.heap.size, 1, none⟩ = some (.slice va ids.length vc) := blk_cell (blk_alloc hI.box _) 1
      have hrl := blk_lt hI.box
      have HI := hide hI
      have HA := hide (hI.same (below_alloc (Below.refl _ wr) (.cells #[.int .i64 o.kd, .int .i64 o.n, .int .u32 o.id] 36)))
      clear hI ho
      by_cases hk1 : o.kd = 1
      · have hk : (o.kd == 1) = true := by simpa using hk1
        clear hk1
        by_cases hn : 1 ≤ o.n ∧ o.n ≤ 1024
        · have hn1 := hn.1
          have hn2 := hn.2
          clear hn
          go_wp2_with fail
          refine (back_new o.n _ hn1 hn2).mono ?_
          rintro e4 w4 ⟨own4, b4, rfl, h4, f4, k4⟩
          have HB4 := hide h4
          have F4 := hide f4
          have A4 := hide (HA.out.same k4)
          have n1 : w4.cell? ⟨wr.heap.size, 1, none⟩ = some (.int .i64 o.n) := blk_cell ((k4.block _ (by simp)).trans (new1 wr _)) 1
          have ln : wr.heap.size < w4.heap.size := by have := k4.size; simp at this; omega
          clear h4 f4 k4
          go_wp2_with fail
          refine (ref16_new o.n w4).mono ?_
          rintro e5 w5 ⟨rfl, k5⟩
          rw [if_neg (by omega), if_neg (by omega)]
          unfold rbVal
          have HB5 := hide (HB4.out.same k5)
          have A5 := hide (A4.out.same k5)
          have z0 : w5.cell? ⟨w3.heap.size, 0, none⟩ = some (.int .i64 most) := blk_cell A5.out.box 0
          have z1 : w5.cell? ⟨w3.heap.size, 1, none⟩ = some (.slice va ids.length vc) := blk_cell A5.out.box 1
          have zf : ∀ i, w5.frozen? ⟨w3.heap.size, i, none⟩ = false := fun i => blk_frozen A5.out.box i
          have zl := blk_lt A5.out.box
          clear k5 r0 r1
          go_wp2_with fail
          refine (code_nil _).mono ?_
          rintro e6 w6 ⟨rfl, rfl⟩
          go_wp2
          go_region
          all_goals go_wp2
          all_goals go_roundw
          case rel => exact ⟨j + 1, own4, b4, o.n, _, [], by omega, rfl, by go_num, ((PL.renew A5.out HB5.out (fun k hk => by have := F4.out k hk; simp at this; omega) rfl).same (below_alloc (Below.refl _ _) _)).same (below_drew (Below.refl _ _))⟩
          case measure => simp [intOf]; omega
        · have hnn : o.n < 1 ∨ 1024 < o.n := by omega
          clear hn
          go_wp2_with fail
          refine (back_new_bad o.n _ (HS.out.belows HA.out.ps.low) hnn).mono ?_
          rintro e4 w4 ⟨rfl, k4⟩
          have A4 := hide (HA.out.same k4)
          have n1 : w4.cell? ⟨wr.heap.size, 1, none⟩ = some (.int .i64 o.n) := blk_cell ((k4.block _ (by simp)).trans (new1 wr _)) 1
          have ln : wr.heap.size < w4.heap.size := by have := k4.size; simp at this; omega
          rw [show errOf E 2 = errv (E 2) from rfl]
          unfold errv
          clear k4
          go_wp2_with fail
          refine (ref16_new o.n w4).mono ?_
          rintro e5 w5 ⟨rfl, k5⟩
          rw [if_pos hnn, if_pos hnn]
          unfold rbVal
          have A5 := hide (A4.out.same k5)
          clear k5 r0 r1 hnn
          go_wp2_with fail
          refine (code_sent E _ (HS.out.belows (A5.out.same (below_alloc (Below.refl _ w5) _)).ps.low) 2 (by decide) (by decide) (by decide)).mono ?_
          rintro e6 w6 ⟨rfl, rfl⟩
          go_wp2
          go_roundw
          case rel => exact ⟨j + 1, own, b, most, _, ids, by omega, rfl, by go_num, A5.out.same (below_alloc (Below.refl _ w5) _)⟩
          case measure => simp [intOf]; omega
      · have hk : (o.kd == 1) = false := by simpa using hk1
        clear hk1
        go_wp2_with fail
        refine (step16_any HA.out.ps HS.out o.kd o.n o.id).mono ?_
        rintro e4 w4 ⟨own4, v4, ids4, rfl, hp4, hs4⟩
        obtain ⟨a4, c4, hv4, _, _⟩ := Row.form hp4.row
        subst hv4
        have hb4 : w4.heap[w3.heap.size]? = some (.cells #[.int .i64 most, .slice va ids.length vc] 31 (0, 0)) := hp4.base.keeps HA.out.box HA.out.ro
        have r0' : w4.cell? ⟨w3.heap.size, 0, none⟩ = some (.int .i64 most) := blk_cell hb4 0
        have r1' : w4.cell? ⟨w3.heap.size, 1, none⟩ = some (.slice va ids.length vc) := blk_cell hb4 1
        have rf' : ∀ i, w4.frozen? ⟨w3.heap.size, i, none⟩ = false := fun i => blk_frozen hb4 i
        have rl' := blk_lt hb4
        have HP4 := hide hp4
        clear hp4 hs4 hb4 r0 r1
        unfold rbVal
        go_wp2
        go_roundw
        case rel => exact ⟨j + 1, own4, b, most, _, ids4, by omega, rfl, by go_num, (PL.next HA.out HP4.out rfl).same (below_alloc (Below.refl _ _) _)⟩
        case measure => simp [intOf]; omega
    · obtain rfl : j = os.length := by omega
      have r0 : wr.cell? ⟨w3.heap.size, 0, none⟩ = some (.int .i64 most) := blk_cell hI.box 0
      have r1 : wr.cell? ⟨w3.heap.size, 1, none⟩ = some (.slice va ids.length vc) := blk_cell hI.box 1
      have hrl := blk_lt hI.box
      have HI := hide hI
      clear hI hlt
      go_wp2_with fail
      refine (step16_any HI.out.ps HS.out 0 0 0).mono ?_
      rintro e4 w4 ⟨own4, v4, ids4, rfl, hp4, hs4⟩
      obtain ⟨a4, c4, hv4, _, _⟩ := Row.form hp4.row
      subst hv4
      have HP4 := hide hp4
      clear hp4 hs4
      unfold rbVal
      go_wp2
      go_ret
      exact ⟨rfl, below_then HP4.out.low HP4.out.low.size (below_alloc (Below.refl _ _) _)⟩
end Go.Proofs.YtdeonehebbofiaaDoor
