/-
  append, told more finely: in place behind the row's cells, or in new memory.
-/
import Derived.Test.YtdeonehebbofiaaDoorMem
namespace Go.Proofs.YtdeonehebbofiaaDoor
open Go.RowKit

/-- Only cells of the block b from place lo on have turned. -/
structure UpdT (b lo : Nat) (w w' : World) : Prop where
  os : w'.os = w.os
  tape : w'.tape = w.tape
  output : w'.output = w.output
  size : w.heap.size ≤ w'.heap.size
  other : ∀ i, i < w.heap.size → i ≠ b → w'.heap[i]? = w.heap[i]?
  own : ∃ c c' t, w.heap[b]? = some (.cells c t (0, 0)) ∧ w'.heap[b]? = some (.cells c' t (0, 0)) ∧ c'.size = c.size ∧ ∀ q, q < lo → c'[q]? = c[q]?
theorem UpdT.setRow {w : World} {g lo : Nat} {cur cs : Array Value} {e : TypeId} (hb : w.heap[g]? = some (.cells cur e (0, 0))) (_h : lo ≤ cur.size) (hs : cs.size = cur.size) (hq : ∀ q, q < lo → cs[q]? = cur[q]?) : UpdT g lo w (w.setRow g cs) where
  os := rfl
  tape := rfl
  output := rfl
  size := by simp
  other := fun i _ hi => setRow_other w g i _ hi
  own := ⟨cur, cs, e, hb, setRow_heap w g cur _ e _ hb, hs, hq⟩
theorem UpdT.toUpd {b lo : Nat} {w w' : World} (h : UpdT b lo w w') : Upd (fun k => k = b) w w' := ⟨h.os, h.tape, h.output, h.size, fun i hi hn => h.other i hi hn⟩
/-- What an append has done. -/
def App (w w' : World) (v v' : Value) (n sz : Nat) : Prop :=
  (∃ (a : Addr) (cap n' : Nat), v = .slice (some a) n cap ∧ v' = .slice (some a) n' cap ∧ UpdT a.block (a.off + n * sz) w w') ∨
  (v'.ownBlock = some w.heap.size ∧ Below w.heap.size w w') ∨ (v' = v ∧ w' = w)
section
variable {P : Program} (w : World)
/-- append(s, x...): the row's cells with the new ones behind; only the row's own block may have turned; the new slice lies in it, or in a new block. -/
theorem run_append_row2 (t ty e : TypeId) (i : TypeInfo) (z : Value) (sz bytes : Nat) (ht : P.underlying t = some (.slice e)) (hi : P.info? e = some i) (hz : i.zero = some z)
    (hsize : i.size = sz) (hby : i.bytes = bytes) (hzs : z.cells.size = sz) (hsz : 0 < sz)
    (v : Value) (n : Nat) (cs : List Value) (hr : Row w e sz v n cs)
    (x : Value) (m : Nat) (news : List Value) (hx : Row w e sz x m news) (h1 : ∀ u ∈ news, u.oneCell' = true)
    (h63 : n + m ≤ maxLen) (hbytes : (n + m) * bytes ≤ 140737488355328) :
    ∃ v' w', (Builtin.append_ #[t, t] ty #[v, x]).run P w = .ok v' w' ∧ Row w' e sz v' (n + m) (cs ++ news) ∧ App w w' v v' n sz := by
  subst hsize
  subst hby
  have hsmall : n + m ≤ 9223372036854775807 := by simp only [maxLen] at h63; omega
  have hlen : (cs ++ news).length = (n + m) * i.size := by rw [List.length_append, hr.1, hx.1, Nat.add_mul]
  have hxf : ∃ a c, x = .slice a m c ∧ (∀ ad, a = some ad → ∀ j u, news[j]? = some u → w.cell? (ad.add j) = some u) ∧ (a = none → m = 0) := by
    rcases hx.2 with ⟨rfl, rfl⟩ | ⟨g, off, cap, cur, rfl, hb, r⟩
    · exact ⟨none, 0, rfl, (fun ad h => by cases h), fun _ => rfl⟩
    · refine ⟨_, cap, rfl, fun ad h j u hu => ?_, (fun h => by cases h)⟩
      injection h with h
      subst h
      have hj : j < m * i.size := by
        have := (List.getElem?_eq_some_iff.1 hu).1
        rw [hx.1] at this
        exact this
      rw [add_at, hx.cell hj]
      exact hu
  obtain ⟨a, c, rfl, hxc, hxn⟩ := hxf
  have grown : ∀ (old : Nat), old < n + m →
      Row (w.drew.alloc (.cells (cs.toArray ++ news.toArray ++ Builtin.zeroCells z.cells (grownCap w (n + m) old e - (n + m))) e)) e i.size
        (.slice (some ⟨w.heap.size, 0, none⟩) (n + m) (grownCap w (n + m) old e)) (n + m) (cs ++ news) := by
    intro old ho
    have hge := grownCap_ge w (n + m) old e
    have hcm : grownCap w (n + m) old e ≤ maxLen := grownCap_le_maxLen w (n + m) old e h63
    refine ⟨hlen, .inr ⟨w.heap.size, 0, _, _, rfl, heap_alloc_new w.drew _, hge, hcm, ?_, ?_⟩⟩
    · simp only [Array.size_append, List.size_toArray, size_zeroCells, hzs, hr.1, hx.1, ← Nat.add_mul, Nat.zero_add]
      apply Nat.mul_le_mul_right
      omega
    · simp only [Array.toList_append, List.append_assoc, List.drop_zero]
      rw [← List.append_assoc, ← hlen]
      exact List.take_left
  have hnew : ∀ (o : Obj) (c' : Nat), App w (w.drew.alloc o) v (.slice (some ⟨w.heap.size, 0, none⟩) (n + m) c') n i.size := fun o c' => .inr (.inl ⟨rfl, (below_alloc (Below.refl _ w) o).trans ⟨rfl, rfl, rfl, by simp, fun _ _ => rfl⟩⟩)
  cases a with
  | none =>
    have hm := hxn rfl
    subst hm
    have hnn : news = [] := List.eq_nil_of_length_eq_zero (by simpa using hx.1)
    subst hnn
    simp only [Nat.add_zero, List.append_nil]
    rcases hr.2 with ⟨rfl, rfl⟩ | ⟨g, off, cap, cur, rfl, hb, h2, h3, h4, h5⟩
    · refine ⟨.slice none 0 0, w, ?_, hr, (.inr (.inr ⟨rfl, rfl⟩))⟩
      simp [Builtin.append_, run_underlying ht, sizeOf, typeInfo, hi, Builtin.lenOf, Builtin.firstCells]
    · have hrun := run_append_at (P := P) w t ty e i ht hi g off n cap cur hb (.slice none 0 c) 0 c none rfl [] (by simp) (fun ad h => by cases h) (fun _ => rfl) (fun u hu => by cases hu) (by omega) (by
        have : n * i.size ≤ cap * i.size := Nat.mul_le_mul_right _ h2
        simp; omega)
      have e1 : (cur.toList.take (off + n * i.size) ++ [] ++ cur.toList.drop (off + n * i.size + ([] : List Value).length)).toArray = cur := by simp
      rw [e1, setRow_self w g cur e (0, 0) hb] at hrun
      exact ⟨_, _, hrun, hr, (.inr (.inr ⟨rfl, rfl⟩))⟩
  | some ad =>
    have hnews := hxc ad rfl
    rcases hr.2 with ⟨rfl, rfl⟩ | ⟨g, off, cap, cur, rfl, hb, h2, h3, h4, h5⟩
    · have hc : cs = [] := List.eq_nil_of_length_eq_zero (by simpa using hr.1)
      subst hc
      by_cases hm : m = 0
      · subst hm
        have hnn : news = [] := List.eq_nil_of_length_eq_zero (by simpa using hx.1)
        subst hnn
        refine ⟨.slice none 0 0, w, ?_, hr, (.inr (.inr ⟨rfl, rfl⟩))⟩
        simp [Builtin.append_, run_underlying ht, sizeOf, typeInfo, hi, Builtin.lenOf, Builtin.firstCells, loadCells, loadCellsFrom]
      · have hrun := run_append_nil (P := P) w t ty e i z ht hi hz ad m c news hx.1 hnews (by omega) (by omega) (by have hb := hbytes; simp only [Nat.zero_add] at hb; omega)
        have hgr := grown 0 (by omega)
        simp only [Nat.zero_add, List.nil_append, Array.empty_append] at hgr ⊢
        exact ⟨_, _, hrun, hgr, by simpa using hnew _ _⟩
    · have hnc : n * i.size ≤ cap * i.size := Nat.mul_le_mul_right _ h2
      by_cases hroom : n + m ≤ cap
      · have hnm : (n + m) * i.size ≤ cap * i.size := Nat.mul_le_mul_right _ hroom
        rw [Nat.add_mul] at hnm
        have hfit : off + n * i.size + news.length ≤ cur.size := by rw [hx.1]; omega
        have hrun := run_append_at (P := P) w t ty e i ht hi g off n cap cur hb (.slice (some ad) m c) m c (some ad) rfl news hx.1 hxc hxn h1 hroom hfit
        have hrow : Row (w.setRow g (cur.toList.take (off + n * i.size) ++ news ++ cur.toList.drop (off + n * i.size + news.length)).toArray) e i.size (.slice (some ⟨g, off, none⟩) (n + m) cap) (n + m) (cs ++ news) := by
          refine ⟨hlen, .inr ⟨g, off, cap, _, rfl, setRow_heap w g cur _ e _ hb, hroom, h3, ?_, ?_⟩⟩
          · simp only [List.size_toArray, List.length_append, List.length_take, List.length_drop, Array.length_toList]
            omega
          · rw [← h5]
            apply List.ext_getElem?
            intro q
            have hcl : cur.toList.length = cur.size := Array.length_toList
            simp only [List.getElem?_take, List.getElem?_drop, List.getElem?_append, List.length_append, List.length_take, List.length_drop, hcl]
            rw [hx.1] at hfit ⊢
            rw [Nat.add_mul]
            by_cases hq : q < n * i.size
            · rw [if_pos (by omega), if_pos (by omega), if_pos (by omega), if_pos (by omega), if_pos (by omega), if_pos (by omega)]
            · by_cases hq2 : q < n * i.size + m * i.size
              · rw [if_pos (by omega), if_pos (by omega), if_neg (by omega), if_neg (by omega)]
                congr 1
                omega
              · rw [if_neg (by omega), if_neg (by omega)]
                rw [List.getElem?_eq_none (by rw [hx.1]; omega)]
        have hsz : (cur.toList.take (off + n * i.size) ++ news ++ cur.toList.drop (off + n * i.size + news.length)).toArray.size = cur.size := by
          simp only [List.size_toArray, List.length_append, List.length_take, List.length_drop, Array.length_toList]
          omega
        have hq : ∀ q, q < off + n * i.size → (cur.toList.take (off + n * i.size) ++ news ++ cur.toList.drop (off + n * i.size + news.length)).toArray[q]? = cur[q]? := by
          intro q hq
          have hcl : cur.toList.length = cur.size := Array.length_toList
          rw [← Array.getElem?_toList, ← Array.getElem?_toList]
          simp only [List.getElem?_append, List.length_append, List.length_take, hcl, List.getElem?_take]
          rw [if_pos (by omega), if_pos (by omega), if_pos hq]
        have hut : UpdT g (off + n * i.size) w (w.setRow g (cur.toList.take (off + n * i.size) ++ news ++ cur.toList.drop (off + n * i.size + news.length)).toArray) := UpdT.setRow hb (by omega) hsz hq
        exact ⟨_, _, hrun, hrow, .inl ⟨⟨g, off, none⟩, cap, n + m, rfl, rfl, hut⟩⟩
      · have holds : ∀ j u, cs[j]? = some u → w.cell? ((⟨g, off, none⟩ : Addr).add j) = some u := fun j u hu => by
          have hj : j < n * i.size := by
            have := (List.getElem?_eq_some_iff.1 hu).1
            rwa [hr.1] at this
          rw [add_at, hr.cell hj]
          exact hu
        have hrun := run_append_grow (P := P) w t ty e i z ht hi hz ⟨g, off, none⟩ n cap cs hr.1 holds ad m c news hx.1 hnews (by omega) (by omega) (growslice_fits (by omega) hbytes)
        have hgr := grown cap (by omega)
        exact ⟨_, _, hrun, hgr, by simpa using hnew _ _⟩

theorem wpList_append_row2 {ops : Array Oper} {rest : List Oper} {o : Oper} {a : Act} {Q : Exit → Act → World → Prop} (hgd : o.guard = none) (s x : Operand) (t : TypeId)
    (ho : o.op = .call { callee := .builtin .append, args := #[s, x], argTypes := #[t, t] })
    (e : TypeId) (i : TypeInfo) (z : Value) (sz bytes : Nat) (ht : P.underlying t = some (.slice e)) (hi : P.info? e = some i) (hz : i.zero = some z)
    (hsize : i.size = sz) (hby : i.bytes = bytes) (hzs : z.cells.size = sz) (hsz : 0 < sz)
    (v : Value) (n : Nat) (cs : List Value) (hs : a.eval s = v) (hr : Row w e sz v n cs)
    (xv : Value) (m : Nat) (news : List Value) (hxv : a.eval x = xv) (hx : Row w e sz xv m news) (h1 : ∀ u ∈ news, u.oneCell' = true)
    (h63 : n + m ≤ maxLen) (hbytes : (n + m) * bytes ≤ 140737488355328)
    (h : ∀ v' w', Row w' e sz v' (n + m) (cs ++ news) → App w w' v v' n sz → wpList P ops Q rest (a.put o.dst v') w') :
    wpList P ops Q (o :: rest) a w :=
  wpList_plain hgd fun _ hK => by
    obtain ⟨v', w', hrun, h2, h3⟩ := run_append_row2 (P := P) w t o.type e i z sz bytes ht hi hz hsize hby hzs hsz v n cs hr xv m news hx h1 h63 hbytes
    unfold Oper.wp execOp
    simp only [ho, resolve, invoke, builtin, Sem.run_bind, Sem.run_pure, Result.andThen_ok, List.map_toArray, List.map_cons, List.map_nil, hs, hxv, hrun]
    exact hK _ _ (h v' w' h2 h3)
end
end Go.Proofs.YtdeonehebbofiaaDoor
