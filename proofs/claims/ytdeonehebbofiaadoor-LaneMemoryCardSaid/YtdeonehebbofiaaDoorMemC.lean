/-
  LaneMemory: the lists grow.
-/
import Derived.Test.YtdeonehebbofiaaDoorMemA
set_option linter.unusedVariables false
namespace Go.Proofs.YtdeonehebbofiaaDoor
open Go.RowKit

/-- A slice of tickets with these cells (its block is of tickets). -/
theorem types_ne {w : World} {v u : Value} {n k : Nat} {cs ds : List Value} (h : Row w 55 3 v n cs) (h' : Row w 52 1 u k ds) {b : Nat} (hb : v.ownBlock = some b) : u.ownBlock ≠ some b := by
  intro e
  obtain ⟨c1, e1⟩ := Row.blk h hb
  obtain ⟨c2, e2⟩ := Row.blk h' e
  rw [e1] at e2
  injection e2 with e2
  injection e2 with _ e2
  exact absurd e2 (by decide)

def n90 (n : Nat) (j : Nat) : List Tk := List.replicate n ⟨90, 0, j⟩
structure GS (w0 wr : World) (own : Nat → Prop) (g : Nat) (m : Value) (ts : List Tk) (all : Value) (xs : List Value) (c : Nat) (grown : Value) (ys : List Value) : Prop where
  ms : MS w0 wr own g m ts all xs (fun j => n90 ts.length j)
  grow : Row wr 52 1 grown c ys
  gown : ∀ b, grown.ownBlock = some b → ¬ own b ∧ w0.heap.size ≤ b ∧ all.ownBlock ≠ some b
  yrow : ∀ (j : Nat) (y : Value), ys[j]? = some y → Row wr 55 3 y (ts.length + 1) (tcells (n90 ts.length j ++ [⟨92, 0, j⟩]))
  yown : ∀ (j : Nat) (y : Value) b, ys[j]? = some y → y.ownBlock = some b → ∀ (i : Nat) (x : Value), c ≤ i → xs[i]? = some x → x.ownBlock ≠ some b

section
variable {w0 wr w' : World} {own : Nat → Prop} {g : Nat} {m : Value} {ts : List Tk} {all : Value} {xs : List Value} {c : Nat} {grown : Value} {ys : List Value}
theorem GS.start (h : MS w0 wr own g m ts all xs (fun j => n90 ts.length j)) : GS w0 wr own g m ts all xs 0 (.slice none 0 0) [] where
  ms := h
  grow := Row.nil _ _ _
  gown := fun b hb => by simp [Value.ownBlock] at hb
  yrow := fun j y h => by simp at h
  yown := fun j y b h => by simp at h
theorem GS.same (h : GS w0 wr own g m ts all xs c grown ys) (hb : Below wr.heap.size wr w') : GS w0 w' own g m ts all xs c grown ys where
  ms := h.ms.same hb
  grow := h.grow.below hb
  gown := h.gown
  yrow := fun j y hy => (h.yrow j y hy).below hb
  yown := h.yown
/-- The c-th list's block is written behind the list. -/
theorem GS.touch (h : GS w0 wr own g m ts all xs c grown ys) {x : Value} {b : Nat} (hx : xs[c]? = some x) (hb : x.ownBlock = some b) (hU : Upd (fun q => q = b) wr w') (hr : TkRow w' x (n90 ts.length c)) : GS w0 w' own g m ts all xs c grown ys where
  ms := (h.ms.touch hx hb hU hr (by simp [n90])).ext (fun j _ => by
    by_cases hj : j = c
    · subst hj; rw [if_pos rfl]
    · rw [if_neg hj])
  grow := h.grow.upd hU (fun q hq e => types_ne (h.ms.rows c x hx).1 h.grow hb (e ▸ hq))
  gown := h.gown
  yrow := fun j y hy => (h.yrow j y hy).upd hU (fun q hq e => h.yown j y q hy hq c x (Nat.le_refl _) hx (e ▸ hb))
  yown := h.yown
/-- A block that is none of theirs. -/
def Free (w0 : World) (own : Nat → Prop) (m : Value) (xs ys : List Value) (v : Value) : Prop :=
  ∀ b, v.ownBlock = some b → ¬ own b ∧ m.ownBlock ≠ some b ∧ w0.heap.size ≤ b ∧ (∀ (i : Nat) (x : Value), xs[i]? = some x → x.ownBlock ≠ some b) ∧ ∀ (j : Nat) (y : Value), ys[j]? = some y → y.ownBlock ≠ some b
theorem GS.free_new (h : GS w0 wr own g m ts all xs c grown ys) {v : Value} (hv : v.ownBlock = some wr.heap.size) : Free w0 own m xs ys v := by
  intro b hb
  rw [hv] at hb
  injection hb with hb
  subst hb
  refine ⟨fun hk => Nat.lt_irrefl _ (h.ms.law.ls.lane.own_lt _ hk), fun e => Nat.lt_irrefl _ (h.ms.law.row.lt' _ e), h.ms.law.ls.low.size, fun i x hx e => Nat.lt_irrefl _ ((h.ms.rows i x hx).1.lt' _ e), fun j y hy e => Nat.lt_irrefl _ ((h.yrow j y hy).lt e)⟩
theorem GS.other (h : GS w0 wr own g m ts all xs c grown ys) {v : Value} {n b : Nat} {cs : List Value} (hv : Row wr 55 3 v n cs) (hf : Free w0 own m xs ys v) (hb : v.ownBlock = some b) (hU : Upd (fun q => q = b) wr w') : GS w0 w' own g m ts all xs c grown ys := by
  obtain ⟨f1, f2, f3, f4, f5⟩ := hf b hb
  refine ⟨⟨⟨⟨h.ms.law.ls.lane.upd hU (fun q hq _ e => f1 (e ▸ hq)), h.ms.law.ls.low.trans (hU.below h.ms.law.ls.low.size (fun i hi e => by omega)), h.ms.law.ls.far⟩, Row.upd h.ms.law.row hU (fun q hq e => f2 (e ▸ hq)), h.ms.law.apart⟩,
    h.ms.allr.upd hU (fun q hq e => types_ne hv h.ms.allr hb (e ▸ hq)), fun j x hx => ⟨Row.upd (h.ms.rows j x hx).1 hU (fun q hq e => f4 j x hx (e ▸ hq)), (h.ms.rows j x hx).2⟩, h.ms.aown, h.ms.xown, h.ms.xx⟩,
    h.grow.upd hU (fun q hq e => types_ne hv h.grow hb (e ▸ hq)), h.gown, fun j y hy => (h.yrow j y hy).upd hU (fun q hq e => f5 j y hy (e ▸ hq)), h.yown⟩

/-- The c-th list, grown by d tickets. -/
structure GV (w0 wr : World) (own : Nat → Prop) (m : Value) (ts : List Tk) (xs ys : List Value) (c : Nat) (x gv : Value) (us : List Tk) : Prop where
  row : Row wr 55 3 gv (ts.length + us.length) (tcells (n90 ts.length c ++ us))
  at' : (∃ a cap, x = .slice (some a) ts.length cap ∧ gv = .slice (some a) (ts.length + us.length) cap) ∨ Free w0 own m xs ys gv
theorem GV.start (h : GS w0 wr own g m ts all xs c grown ys) {x : Value} (hx : xs[c]? = some x) : GV w0 wr own m ts xs ys c x x [] := by
  have hr := (h.ms.rows c x hx).1
  have hr' : Row wr 55 3 x (ts.length + ([] : List Tk).length) (tcells (n90 ts.length c ++ [])) := by
    unfold TkRow at hr
    simpa [n90] using hr
  refine ⟨hr', ?_⟩
  obtain ⟨a, cap, hv, _, _⟩ := hr'.form
  cases a with
  | none =>
    refine .inr fun b hb => ?_
    rw [hv] at hb
    simp [Value.ownBlock] at hb
  | some a => exact .inl ⟨a, cap, hv, hv⟩
/-- A further ticket. -/
theorem GV.grow {x gv gv' : Value} {us : List Tk} {T : Tk} {w1 : World} (h : GS w0 wr own g m ts all xs c grown ys) (hx : xs[c]? = some x) (hg : GV w0 wr own m ts xs ys c x gv us) (o : Obj)
    (hr : Row w1 55 3 gv' (ts.length + us.length + 1) (tcells (n90 ts.length c ++ us) ++ tcells [T])) (ha : App (wr.alloc o) w1 gv gv' (ts.length + us.length) 3) :
    GS w0 w1 own g m ts all xs c grown ys ∧ GV w0 w1 own m ts xs ys c x gv' (us ++ [T]) := by
  have h' := h.same (below_alloc (Below.refl _ wr) o)
  have hrow : Row w1 55 3 gv' (ts.length + (us ++ [T]).length) (tcells (n90 ts.length c ++ (us ++ [T]))) := by
    rw [← List.append_assoc, tcells_append (n90 ts.length c ++ us) [T], List.length_append]
    exact hr
  have hgr : Row (wr.alloc o) 55 3 gv (ts.length + us.length) (tcells (n90 ts.length c ++ us)) := hg.row.alloc o
  have hlen : (n90 ts.length c).length = ts.length := by simp [n90]
  rcases ha with ⟨a, cap, n', hv, hv', hut⟩ | ⟨hnew, hb⟩ | ⟨hv, hw⟩
  · obtain ⟨a2, cap2, hf, _, _⟩ := hr.form
    rw [hv'] at hf
    injection hf with hf1 hf2 hf3
    subst hf2
    have hob : gv.ownBlock = some a.block := by rw [hv]; rfl
    rcases hg.at' with ⟨a0, c0, hx0, hg0⟩ | hfree
    · rw [hv] at hg0
      injection hg0 with e1 _ e3
      injection e1 with e1
      subst e1; subst e3
      have hxb : x.ownBlock = some a.block := by rw [hx0]; rfl
      have hxr : TkRow w1 x (n90 ts.length c) := by
        have hh := Row.head (k := ts.length) (by rw [hv'] at hrow; rw [List.length_append] at hrow; exact hrow) (by omega)
        unfold TkRow
        rw [hlen, hx0]
        have ht : (tcells (n90 ts.length c ++ (us ++ [T]))).take (ts.length * 3) = tcells (n90 ts.length c) := by
          rw [tcells_append, List.take_append_of_le_length (by rw [tcells_length, hlen]; exact Nat.le_refl _), List.take_of_length_le (by rw [tcells_length, hlen]; exact Nat.le_refl _)]
        rw [ht] at hh
        exact hh
      exact ⟨h'.touch hx hxb hut.toUpd hxr, hrow, .inl ⟨a, cap, hx0, by rw [hv', List.length_append]; rfl⟩⟩
    · exact ⟨h'.other hgr hfree hob hut.toUpd, hrow, .inr (fun b hb => hfree b (by rw [hob]; rw [hv'] at hb; exact hb))⟩
  · exact ⟨h'.same hb, hrow, .inr (h'.free_new hnew)⟩
  · exfalso
    obtain ⟨a2, cap2, hf, _, _⟩ := hr.form
    obtain ⟨a3, cap3, hf3, _, _⟩ := hgr.form
    rw [hv, hf3] at hf
    injection hf with _ hf _
    omega
theorem GS.push {x y grown' : Value} {w2 : World} (h : GS w0 wr own g m ts all xs c grown ys) (hx : xs[c]? = some x) (hg : GV w0 wr own m ts xs ys c x y [⟨92, 0, c⟩]) (hyl : ys.length = c) (o : Obj)
    (hr : Row w2 52 1 grown' (c + 1) (ys ++ [y])) (hu : Upd (fun k => some k = grown.ownBlock) (wr.alloc o) w2) (ho : grown'.ownBlock = grown.ownBlock ∨ grown'.ownBlock = some (wr.alloc o).heap.size) :
    GS w0 w2 own g m ts all xs (c + 1) grown' (ys ++ [y]) := by
  have hb := below_alloc (Below.refl _ wr) o
  have h' := h.same hb
  have hy := hg.row.alloc o
  have hno : ∀ {v : Value} {n : Nat} {cs : List Value}, Row (wr.alloc o) 55 3 v n cs → ∀ q, v.ownBlock = some q → ¬ some q = grown.ownBlock := fun hv q hq e => types_ne hv h'.grow hq e.symm
  refine ⟨⟨⟨⟨h'.ms.law.ls.lane.upd hu (fun q hq _ e => (h.gown q e.symm).1 hq), h'.ms.law.ls.low.trans (hu.below h'.ms.law.ls.low.size (fun i hi e => by have := (h.gown i e.symm).2.1; omega)), h.ms.law.ls.far⟩, Row.upd h'.ms.law.row hu (hno h'.ms.law.row), h.ms.law.apart⟩,
    h'.ms.allr.upd hu (fun q hq e => (h.gown q e.symm).2.2 hq), fun j z hz => ⟨Row.upd (h'.ms.rows j z hz).1 hu (hno (h'.ms.rows j z hz).1), (h'.ms.rows j z hz).2⟩, h.ms.aown, h.ms.xown, h.ms.xx⟩, hr, fun b hb' => ?_, fun j z hz => ?_, fun j z b hz hzb i x' hi hx' e => ?_⟩
  · rcases ho with ho | ho
    · exact h.gown b (by rw [← ho, hb'])
    · rw [hb'] at ho
      injection ho with ho
      simp at ho
      have hlow := h.ms.law.ls.low.size
      exact ⟨fun hk => by have := h.ms.law.ls.lane.own_lt b hk; omega, by omega, fun e => by have := h.ms.allr.lt e; omega⟩
  · by_cases hj : j = c
    · subst hj
      rw [List.getElem?_append_right (by omega), hyl, Nat.sub_self] at hz
      simp at hz
      subst hz
      exact hy.upd hu (hno hy)
    · have hlt : j < (ys ++ [y]).length := (List.getElem?_eq_some_iff.1 hz).1
      simp at hlt
      rw [List.getElem?_append_left (by omega)] at hz
      exact (h'.yrow j z hz).upd hu (hno (h'.yrow j z hz))
  · by_cases hj : j = c
    · subst hj
      rw [List.getElem?_append_right (by omega), hyl, Nat.sub_self] at hz
      simp at hz
      subst hz
      rcases hg.at' with ⟨a, cap, e1, e2⟩ | hf
      · have : x.ownBlock = some b := by
          rw [e1]
          rw [e2] at hzb
          exact hzb
        have := h.ms.xx i j x' x b hx' hx e this
        omega
      · exact (hf b hzb).2.2.2.1 i x' hx' e
    · have hlt : j < (ys ++ [y]).length := (List.getElem?_eq_some_iff.1 hz).1
      simp at hlt
      rw [List.getElem?_append_left (by omega)] at hz
      exact h.yown j z b hz hzb i x' (by omega) hx' e
end
end Go.Proofs.YtdeonehebbofiaaDoor
