/-
  LaneMemory: a lane, its document's list, and lists of tickets that are apart.
-/
import Derived.Test.YtdeonehebbofiaaDoorLaw3
import Derived.Test.YtdeonehebbofiaaDoorMem2
namespace Go.Proofs.YtdeonehebbofiaaDoor
open Go.RowKit

structure MS (w0 wr : World) (own : Nat → Prop) (g : Nat) (m : Value) (ts : List Tk) (all : Value) (xs : List Value) (R : Nat → List Tk) : Prop where
  law : LawSt w0 wr own g m ts
  allr : Row wr 52 1 all xs.length xs
  rows : ∀ (j : Nat) (x : Value), xs[j]? = some x → TkRow wr x (R j) ∧ (R j).length = ts.length
  aown : ∀ b, all.ownBlock = some b → ¬ own b ∧ w0.heap.size ≤ b
  xown : ∀ (j : Nat) (x : Value) b, xs[j]? = some x → x.ownBlock = some b → ¬ own b ∧ m.ownBlock ≠ some b ∧ w0.heap.size ≤ b
  xx : ∀ (i j : Nat) (x y : Value) b, xs[i]? = some x → xs[j]? = some y → x.ownBlock = some b → y.ownBlock = some b → i = j

theorem MS.start {w0 wr : World} {own : Nat → Prop} {g : Nat} {m : Value} {ts : List Tk} (h : LawSt w0 wr own g m ts) : MS w0 wr own g m ts (.slice none 0 0) [] (fun _ => ts) where
  law := h
  allr := Row.nil _ _ _
  rows := fun j x h => by simp at h
  aown := fun b hb => by simp [Value.ownBlock] at hb
  xown := fun j x b h => by simp at h
  xx := fun i j x y b h => by simp at h
theorem MS.same {w0 wr w' : World} {own : Nat → Prop} {g : Nat} {m : Value} {ts : List Tk} {all : Value} {xs : List Value} {R : Nat → List Tk} (h : MS w0 wr own g m ts all xs R) (hb : Below wr.heap.size wr w') : MS w0 w' own g m ts all xs R where
  law := h.law.same hb
  allr := h.allr.below hb
  rows := fun j x hx => ⟨(h.rows j x hx).1.below' hb, (h.rows j x hx).2⟩
  aown := h.aown
  xown := h.xown
  xx := h.xx
/-- A list in new memory goes in behind. -/
theorem MS.push {w0 wr w6 w7 : World} {own : Nat → Prop} {g : Nat} {m : Value} {ts us : List Tk} {all all' x : Value} {xs : List Value} {R : Nat → List Tk} (h : MS w0 wr own g m ts all xs R)
    (hb : Below wr.heap.size wr w6) (hx : TkRow w6 x us) (hl : us.length = ts.length) (hf : ∀ b, x.ownBlock = some b → wr.heap.size ≤ b) (o : Obj)
    (hr : Row w7 52 1 all' (xs.length + 1) (xs ++ [x])) (hu : Upd (fun k => some k = all.ownBlock) (w6.alloc o) w7) (ho : all'.ownBlock = all.ownBlock ∨ all'.ownBlock = some (w6.alloc o).heap.size) :
    MS w0 w7 own g m ts all' (xs ++ [x]) (fun j => if j = xs.length then us else R j) := by
  have h6 := h.same hb
  have hb6 := below_alloc (Below.refl _ w6) o
  have h6' := h6.same hb6
  have hlow : w0.heap.size ≤ w6.heap.size := Nat.le_trans h.law.ls.low.size hb.size
  have hne : ∀ {k : Nat} {v : Value} {us' : List Tk}, TkRow (w6.alloc o) v us' → v.ownBlock = some k → ¬ some k = all.ownBlock := by
    intro k v us' hv hk e
    obtain ⟨c1, e1⟩ := Row.blk hv hk
    obtain ⟨c2, e2⟩ := h6'.allr.blk e.symm
    rw [e1] at e2
    injection e2 with e2
    injection e2 with _ e2
    exact absurd e2 (by decide)
  have hno : ∀ k, own k → ¬ some k = all.ownBlock := fun k hk e => (h.aown k e.symm).1 hk
  have hx6 : TkRow (w6.alloc o) x us := hx.below' hb6
  have hlane : IsLane w7 own g ts := h6'.law.ls.lane.upd hu (fun k hk _ => hno k hk)
  refine ⟨⟨⟨hlane, h6'.law.ls.low.trans (hu.below h6'.law.ls.low.size (fun i hi e => ?_)), h.law.ls.far⟩, Row.upd h6'.law.row hu (fun k hk => hne h6'.law.row hk), h.law.apart⟩, by simpa using hr, fun j y hy => ?_, fun b hb' => ?_, fun j y b hy hyb => ?_, fun i j y z b hy hz hyb hzb => ?_⟩
  · have := (h.aown i e.symm).2
    omega
  · by_cases hj : j = xs.length
    · subst hj
      simp at hy
      subst hy
      simp only [if_pos]
      exact ⟨Row.upd hx6 hu (fun k hk => hne hx6 hk), hl⟩
    · simp only [if_neg hj]
      have hy' : xs[j]? = some y := by
        have hlt : j < (xs ++ [x]).length := (List.getElem?_eq_some_iff.1 hy).1
        simp at hlt
        rwa [List.getElem?_append_left (by omega)] at hy
      obtain ⟨h1, h2⟩ := h6'.rows j y hy'
      exact ⟨Row.upd h1 hu (fun k hk => hne h1 hk), h2⟩
  · rcases ho with ho | ho
    · exact h.aown b (by rw [← ho, hb'])
    · rw [hb'] at ho
      injection ho with ho
      simp at ho
      exact ⟨fun hk => by have := h6.law.ls.lane.own_lt b hk; omega, by omega⟩
  · by_cases hj : j = xs.length
    · subst hj
      simp at hy
      subst hy
      have := hf b hyb
      have := h.law.ls.low.size
      exact ⟨fun hk => by have := h.law.ls.lane.own_lt b hk; omega, fun e => by have := h.law.row.lt' b e; omega, by omega⟩
    · have hlt : j < (xs ++ [x]).length := (List.getElem?_eq_some_iff.1 hy).1
      simp at hlt
      rw [List.getElem?_append_left (by omega)] at hy
      exact h.xown j y b hy hyb
  · have key : ∀ {p q : Nat} {y z : Value}, (xs ++ [x])[p]? = some y → (xs ++ [x])[q]? = some z → y.ownBlock = some b → z.ownBlock = some b → p = xs.length → q = xs.length := by
      intro p q y z hy hz hyb hzb hp
      subst hp
      simp at hy
      subst hy
      have h1 := hf b hyb
      have hlt : q < (xs ++ [x]).length := (List.getElem?_eq_some_iff.1 hz).1
      simp at hlt
      by_cases hq : q = xs.length
      · exact hq
      · rw [List.getElem?_append_left (by omega)] at hz
        have := (h.rows q z hz).1.lt' b hzb
        omega
    by_cases hi : i = xs.length
    · rw [hi, key hy hz hyb hzb hi]
    · by_cases hj : j = xs.length
      · exact absurd (key hz hy hzb hyb hj) hi
      · have hlt : i < (xs ++ [x]).length := (List.getElem?_eq_some_iff.1 hy).1
        have hlt2 : j < (xs ++ [x]).length := (List.getElem?_eq_some_iff.1 hz).1
        simp at hlt hlt2
        rw [List.getElem?_append_left (by omega)] at hy hz
        exact h.xx i j y z b hy hz hyb hzb
/-- One of the lists is written. -/
theorem MS.touch {w0 wr w' : World} {own : Nat → Prop} {g : Nat} {m : Value} {ts us : List Tk} {all x : Value} {xs : List Value} {R : Nat → List Tk} (h : MS w0 wr own g m ts all xs R) {k b : Nat}
    (hk : xs[k]? = some x) (hb : x.ownBlock = some b) (hU : Upd (fun q => q = b) wr w') (hr : TkRow w' x us) (hl : us.length = ts.length) : MS w0 w' own g m ts all xs (fun j => if j = k then us else R j) := by
  obtain ⟨n1, n2, n3⟩ := h.xown k x b hk hb
  have hab : all.ownBlock ≠ some b := by
    intro e
    obtain ⟨c1, e1⟩ := Row.blk (h.rows k x hk).1 hb
    obtain ⟨c2, e2⟩ := h.allr.blk e
    rw [e1] at e2
    injection e2 with e2
    injection e2 with _ e2
    exact absurd e2 (by decide)
  refine ⟨⟨⟨h.law.ls.lane.upd hU (fun q hq _ e => n1 (e ▸ hq)), h.law.ls.low.trans (hU.below h.law.ls.low.size (fun i hi e => by omega)), h.law.ls.far⟩, Row.upd h.law.row hU (fun q hq e => n2 (e ▸ hq)), h.law.apart⟩, h.allr.upd hU (fun q hq e => hab (e ▸ hq)), fun j y hy => ?_, h.aown, h.xown, h.xx⟩
  by_cases hj : j = k
  · subst hj
    obtain rfl := Option.some.inj (hk.symm.trans hy)
    simp only [if_pos]
    exact ⟨hr, hl⟩
  · simp only [if_neg hj]
    obtain ⟨h1, h2⟩ := h.rows j y hy
    exact ⟨Row.upd h1 hU (fun q hq e => hj (h.xx j k y x b hy hk (e ▸ hq) hb)), h2⟩
theorem MS.ext {w0 wr : World} {own : Nat → Prop} {g : Nat} {m : Value} {ts : List Tk} {all : Value} {xs : List Value} {R R' : Nat → List Tk} (h : MS w0 wr own g m ts all xs R) (he : ∀ j, j < xs.length → R' j = R j) : MS w0 wr own g m ts all xs R' :=
  ⟨h.law, h.allr, fun j x hx => by rw [he j (List.getElem?_eq_some_iff.1 hx).1]; exact h.rows j x hx, h.aown, h.xown, h.xx⟩

/-- A ticket is stored into a row. -/
theorem TkRow.store {w : World} {b off cap : Nat} {us : List Tk} (h : TkRow w (.slice (some ⟨b, off, none⟩) us.length cap) us) {i : Nat} (hi : i < us.length) (T : Tk) :
    TkRow (((w.setCell ⟨b, off + i * 3, none⟩ (.int .i64 T.k)).setCell ⟨b, off + i * 3 + 1, none⟩ (.int .u32 T.s)).setCell ⟨b, off + i * 3 + 2, none⟩ (.int .u32 T.v)) (.slice (some ⟨b, off, none⟩) us.length cap) (us.set i T) := by
  have key : ∀ (us : List Tk) (i : Nat), i < us.length → tcells (us.set i T) = (((tcells us).set (i * 3) (.int .i64 T.k)).set (i * 3 + 1) (.int .u32 T.s)).set (i * 3 + 2) (.int .u32 T.v) := by
    intro us
    induction us with
    | nil => intro i h; simp at h
    | cons t us ih =>
      intro i hi
      have e : ∀ (a : Tk) (r : List Tk), tcells (a :: r) = a.cells ++ tcells r := fun _ _ => rfl
      cases i with
      | zero => rfl
      | succ i =>
        have hc : t.cells.length = 3 := rfl
        rw [List.set_cons_succ, e, e, ih i (by simpa using hi), List.set_append_right _ _ (by rw [hc]; omega), List.set_append_right _ _ (by rw [hc]; omega), List.set_append_right _ _ (by rw [hc]; omega), hc]
        rw [show (i + 1) * 3 - 3 = i * 3 by omega, show (i + 1) * 3 + 1 - 3 = i * 3 + 1 by omega, show (i + 1) * 3 + 2 - 3 = i * 3 + 2 by omega]
  have hl := tcells_length us
  have h1 := Row.set h (i := i * 3) (by omega) (.int .i64 T.k)
  have h2 := Row.set h1 (i := i * 3 + 1) (by omega) (.int .u32 T.s)
  have h3 := Row.set h2 (i := i * 3 + 2) (by omega) (.int .u32 T.v)
  unfold TkRow
  rw [List.length_set, key us i hi]
  simpa [Nat.add_assoc] using h3
end Go.Proofs.YtdeonehebbofiaaDoor
