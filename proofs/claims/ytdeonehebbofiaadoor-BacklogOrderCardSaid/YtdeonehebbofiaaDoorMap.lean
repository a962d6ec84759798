/-
  Words on maps, over any program: a block that is a map with these keys and values, whatever the key's type: looked up, stored into, deleted from, cleared.
-/
import Derived.Test.YtdeonehebbofiaaDoorMem
import Derived.Deep.RegionLaw
import Derived.Maps.OwnOps
import Derived.Laws.StructEq
namespace Go.Proofs.YtdeonehebbofiaaDoor
open Go.RowKit

/-- How a key's type behaves: '==' decides, and every key may be one. -/
structure KeyOk {κ : Type} [DecidableEq κ] (P : Program) (K : TypeId) (enc : κ → Value) : Prop where
  eq : ∀ x y w, (Op.equal K (enc x) (enc y)).run P w = .ok (decide (x = y)) w
  check : ∀ em x w, (Instr.checkKey em 10000 K (enc x)).run P w = .ok () w
  now : ∃ d, P.underlying K = some d ∧ ∀ x y, Instr.sameNow d (enc x) (enc y) = none ∨ Instr.sameNow d (enc x) (enc y) = some (decide (x = y))
  bits : ∀ x, Instr.sameBits 10000 (enc x) (enc x) = true

/-- The first entry of a key: its place and value. -/
def mfind {κ : Type} [DecidableEq κ] (x : κ) : List (κ × Value) → Nat → Option (Nat × Value)
  | [], _ => none
  | (k, v) :: r, i => if x = k then some (i, v) else mfind x r (i + 1)

/-- Block b is a map with these keys and values, in the order in which they came in. -/
def MapIs {κ : Type} (w : World) (enc : κ → Value) (b : Nat) (l : List (κ × Value)) : Prop :=
  ∃ es clock, w.heap[b]? = some (.map es clock) ∧ es.toList.map (fun e => (e.key, e.val)) = l.map (fun x => (enc x.1, x.2))

set_option linter.unusedSectionVars false
section
variable {κ : Type} [DecidableEq κ] {P : Program} {K T E : TypeId} {enc : κ → Value} {w w' : World} {b : Nat} {l : List (κ × Value)}

theorem MapIs.lt (h : MapIs w enc b l) : b < w.heap.size := by
  obtain ⟨es, c, hb, _⟩ := h
  exact blk_lt hb
theorem MapIs.move (h : MapIs w enc b l) (hm : w'.heap[b]? = w.heap[b]?) : MapIs w' enc b l := by
  obtain ⟨es, c, hb, hl⟩ := h
  exact ⟨es, c, hm.trans hb, hl⟩
theorem MapIs.upd {S : Nat → Prop} (h : MapIs w enc b l) (hu : Upd S w w') (hn : ¬ S b) : MapIs w' enc b l := h.move (hu.block b h.lt hn)
theorem MapIs.alloc (h : MapIs w enc b l) (o : Obj) : MapIs (w.alloc o) enc b l := h.move (Below.heap_alloc w o b h.lt)
theorem MapIs.far (h : MapIs w enc b l) {p : Addr} (hp : b ≠ p.block) (u : Value) : MapIs (w.setCell p u) enc b l := h.move (Below.heap_setCell w p u b hp)
theorem MapIs.ne_cells (h : MapIs w enc b l) {g : Nat} {t : TypeId} {cs : Array Value} {f : Nat × Nat} (hg : w.heap[g]? = some (.cells cs t f)) : b ≠ g := by
  rintro rfl
  obtain ⟨es, c, hb, _⟩ := h
  rw [hb] at hg
  cases hg
theorem MapIs.cell (h : MapIs w enc b l) {p : Addr} {v : Value} (hc : w.cell? p = some v) : b ≠ p.block := by
  rintro rfl
  obtain ⟨es, c, hb, _⟩ := h
  simp [World.cell?, hb] at hc
theorem MapIs.made (w : World) (enc : κ → Value) : MapIs (w.alloc (.map #[] 0)) enc w.heap.size ([] : List (κ × Value)) := ⟨#[], 0, blk_new w _, rfl⟩

theorem run_findAsking_is (hK : KeyOk P K enc) (x : κ) (w : World) : ∀ (es : List MapEntry) (l : List (κ × Value)) (i : Nat), es.map (fun e => (e.key, e.val)) = l.map (fun x => (enc x.1, x.2)) →
    (Instr.findAsking K (enc x) es i).run P w = .ok (mfind x l i) w
  | [], [], i, _ => by simp [Instr.findAsking, mfind]
  | [], _ :: _, i, h => by cases h
  | _ :: _, [], i, h => by cases h
  | e :: es, (k, v) :: l, i, h => by
    simp only [List.map_cons, List.cons.injEq, Prod.mk.injEq] at h
    obtain ⟨⟨h1, h2⟩, h3⟩ := h
    have ih := run_findAsking_is hK x w es l (i + 1) h3
    simp only [Instr.findAsking, h1, h2, Sem.run_bind, hK.eq, Result.andThen_ok, mfind]
    by_cases hx : x = k
    · simp [hx]
    · simp [hx, ih]

theorem findNow_is {d : TypeDesc} (hd : ∀ x y, Instr.sameNow d (enc x) (enc y) = none ∨ Instr.sameNow d (enc x) (enc y) = some (decide (x = y))) (x : κ) : ∀ (es : List MapEntry) (l : List (κ × Value)) (i : Nat), es.map (fun e => (e.key, e.val)) = l.map (fun x => (enc x.1, x.2)) →
    Instr.findNow d (enc x) es i = none ∨ Instr.findNow d (enc x) es i = some (mfind x l i)
  | [], [], i, _ => .inr (by simp [Instr.findNow, mfind])
  | [], _ :: _, i, h => by cases h
  | _ :: _, [], i, h => by cases h
  | e :: es, (k, v) :: l, i, h => by
    simp only [List.map_cons, List.cons.injEq, Prod.mk.injEq] at h
    obtain ⟨⟨h1, h2⟩, h3⟩ := h
    have ih := findNow_is hd x es l (i + 1) h3
    simp only [Instr.findNow, h1, h2, mfind]
    rcases hd x k with hk | hk
    · left; rw [hk]
    · by_cases hx : x = k
      · have : decide (x = k) = true := by simpa using hx
        right
        rw [hk, this, if_pos hx]
      · have : decide (x = k) = false := by simpa using hx
        rw [hk, this, if_neg hx]
        exact ih

theorem run_findKey_is (hK : KeyOk P K enc) (x : κ) (w : World) (es : List MapEntry) (l : List (κ × Value)) (h : es.map (fun e => (e.key, e.val)) = l.map (fun x => (enc x.1, x.2))) :
    (Instr.findKey K (enc x) es).run P w = .ok (mfind x l 0) w := by
  obtain ⟨d, hd, hn⟩ := hK.now
  unfold Instr.findKey
  simp only [Sem.run_bind, run_underlying hd, Result.andThen_ok]
  rcases findNow_is hn x es l 0 h with h1 | h1
  · rw [h1]
    exact run_findAsking_is hK x w es l 0 h
  · rw [h1]
    rfl

/-- The world behind a turn of block b. -/
def setB (w : World) (b : Nat) (o : Obj) : World := { w with heap := w.heap.setIfInBounds b o }
theorem setB_same (hb : b < w.heap.size) (o : Obj) : (setB w b o).heap[b]? = some o := by simp [setB, hb]
theorem setB_other (o : Obj) {i : Nat} (hi : i ≠ b) : (setB w b o).heap[i]? = w.heap[i]? := by
  simp only [setB, Array.getElem?_setIfInBounds]
  rw [if_neg (fun e => hi e.symm)]
theorem setB_upd (o : Obj) : Upd (fun k => k = b) w (setB w b o) := ⟨rfl, rfl, rfl, by simp [setB], fun _ _ hk => setB_other o hk⟩

theorem run_lookup_is (hK : KeyOk P K enc) (ht : P.underlying T = some (.map K E)) {z : Value} (hz : ∀ w, (zeroValue E).run P w = .ok z w) (h : MapIs w enc b l) (x : κ) :
    (Instr.lookup T (.map (some b)) (enc x) false).run P w = .ok (((mfind x l 0).map (·.2)).getD z) w := by
  obtain ⟨es, c, hb, hl⟩ := h
  have hf := run_findKey_is hK x w es.toList l hl
  cases hm : mfind x l 0 with
  | none => simp [Instr.lookup, run_underlying ht, MapKept.run_getObj_map hb, hK.check, hf, hm, Result.andThen, hz]
  | some p => simp [Instr.lookup, run_underlying ht, MapKept.run_getObj_map hb, hK.check, hf, hm, Result.andThen]
theorem run_lookup_ok_is (hK : KeyOk P K enc) (ht : P.underlying T = some (.map K E)) {z : Value} (hz : ∀ w, (zeroValue E).run P w = .ok z w) (h : MapIs w enc b l) (x : κ) :
    (Instr.lookup T (.map (some b)) (enc x) true).run P w = .ok (.tuple #[((mfind x l 0).map (·.2)).getD z, .bool (mfind x l 0).isSome]) w := by
  obtain ⟨es, c, hb, hl⟩ := h
  have hf := run_findKey_is hK x w es.toList l hl
  cases hm : mfind x l 0 with
  | none => simp [Instr.lookup, run_underlying ht, MapKept.run_getObj_map hb, hK.check, hf, hm, Result.andThen, hz]
  | some p => simp [Instr.lookup, run_underlying ht, MapKept.run_getObj_map hb, hK.check, hf, hm, Result.andThen]

/-- m[x] = v at a key that isn't there. -/
theorem run_mapUpdate_new (hK : KeyOk P K enc) (ht : P.underlying T = some (.map K E)) (h : MapIs w enc b l) (x : κ) (v : Value) (hx : mfind x l 0 = none) :
    ∃ w', (Instr.mapUpdate T (.map (some b)) (enc x) v).run P w = .ok () w' ∧ MapIs w' enc b (l ++ [(x, v)]) ∧ Upd (fun k => k = b) w w' := by
  obtain ⟨es, c, hb, hl⟩ := h
  have hf := run_findKey_is hK x w es.toList l hl
  refine ⟨setB w b (.map (es.push { key := enc x, val := v, born := c }) (c + 1)), ?_, ⟨_, _, setB_same (blk_lt hb) _, ?_⟩, setB_upd _⟩
  · simp [Instr.mapUpdate, run_underlying ht, MapKept.run_getObj_map hb, hK.check, hf, hx, MapKept.run_setObj_map _ hb, Result.andThen, setB]
  · simp [hl]

theorem mfind_some {x : κ} : ∀ {l : List (κ × Value)} {i j : Nat} {v : Value}, mfind x l i = some (j, v) → i ≤ j ∧ l[j - i]? = some (x, v)
  | [], i, j, v, h => by simp [mfind] at h
  | (k, u) :: l, i, j, v, h => by
    simp only [mfind] at h
    split at h
    · rename_i hk
      injection h with h
      injection h with h1 h2
      subst h1; subst h2; subst hk
      simp
    · obtain ⟨h1, h2⟩ := mfind_some h
      refine ⟨by omega, ?_⟩
      rw [show j - i = (j - (i + 1)) + 1 from by omega]
      simpa using h2
theorem mfind_none {x : κ} : ∀ {l : List (κ × Value)} {i : Nat}, mfind x l i = none ↔ ∀ p ∈ l, p.1 ≠ x
  | [], i => by simp [mfind]
  | (k, u) :: l, i => by
    simp only [mfind]
    by_cases hk : x = k
    · subst hk; simp
    · rw [if_neg hk, mfind_none]
      simp only [List.mem_cons, forall_eq_or_imp]
      exact ⟨fun h => ⟨fun e => hk e.symm, h⟩, fun h => h.2⟩

/-- m[x] = v at a key that is there. -/
theorem run_mapUpdate_old (hK : KeyOk P K enc) (ht : P.underlying T = some (.map K E)) (h : MapIs w enc b l) (x : κ) (v u : Value) (j : Nat) (hx : mfind x l 0 = some (j, u)) :
    ∃ w', (Instr.mapUpdate T (.map (some b)) (enc x) v).run P w = .ok () w' ∧ MapIs w' enc b (l.set j (x, v)) ∧ Upd (fun k => k = b) w w' := by
  obtain ⟨es, c, hb, hl⟩ := h
  have hf := run_findKey_is hK x w es.toList l hl
  have hj := (mfind_some hx).2
  simp only [Nat.sub_zero] at hj
  have hlen : es.size = l.length := by have := congrArg List.length hl; simpa using this
  have hjl : j < l.length := (List.getElem?_eq_some_iff.1 hj).1
  have he : (es.toList.map (fun e => (e.key, e.val)))[j]? = some (enc x, u) := by rw [hl, List.getElem?_map, hj]; rfl
  rw [List.getElem?_map, Option.map_eq_some_iff] at he
  obtain ⟨e0, he0, he1⟩ := he
  simp only [Prod.mk.injEq] at he1
  have hkey : ((es[j]?).map (·.key)).getD (enc x) = enc x := by
    rw [← Array.getElem?_toList, he0]
    simp [he1.1]
  refine ⟨setB w b (.map (es.modify j fun e => { e with key := enc x, val := v }) c), ?_, ⟨_, _, setB_same (blk_lt hb) _, ?_⟩, setB_upd _⟩
  · simp [Instr.mapUpdate, run_underlying ht, MapKept.run_getObj_map hb, hK.check, hf, hx, hkey, Instr.keyThatStays, hK.bits, MapKept.run_setObj_map _ hb, Result.andThen, setB]
  · apply List.ext_getElem?
    intro i
    have hi : (es.toList.map (fun e => (e.key, e.val)))[i]? = (l.map (fun x => (enc x.1, x.2)))[i]? := by rw [hl]
    simp only [List.getElem?_map, Array.getElem?_toList] at hi
    simp only [List.getElem?_map, Array.getElem?_toList, Array.getElem?_modify, List.getElem?_set]
    by_cases hij : j = i
    · subst hij
      rw [if_pos rfl, if_pos rfl, if_pos hjl]
      rw [Array.getElem?_toList] at he0
      rw [he0]
      rfl
    · rw [if_neg hij, if_neg hij]
      exact hi

theorem size_erase_list (es : Array MapEntry) (j : Nat) : (es.eraseIdxIfInBounds j).toList = es.toList.eraseIdx j := by
  unfold Array.eraseIdxIfInBounds
  split
  · simp
  · rename_i h
    rw [List.eraseIdx_of_length_le (by simpa using h)]
theorem map_eraseIdx_is {α β : Type} (f : α → β) : ∀ (l : List α) (j : Nat), (l.eraseIdx j).map f = (l.map f).eraseIdx j
  | [], _ => by simp
  | _ :: _, 0 => by simp
  | a :: l, j + 1 => by simp [map_eraseIdx_is f l j]

/-- delete(m, x): the first entry of the key is gone, if there is one. -/
def mdel (x : κ) (l : List (κ × Value)) : List (κ × Value) := match mfind x l 0 with | some (j, _) => l.eraseIdx j | none => l
theorem run_delete_is {ty : TypeId} (hK : KeyOk P K enc) (ht : P.underlying T = some (.map K E)) (h : MapIs w enc b l) (x : κ) :
    ∃ w', (Builtin.delete_ #[T, K] ty #[.map (some b), enc x]).run P w = .ok (.tuple #[]) w' ∧ MapIs w' enc b (mdel x l) ∧ Upd (fun k => k = b) w w' := by
  obtain ⟨es, c, hb, hl⟩ := h
  have hf := run_findKey_is hK x w es.toList l hl
  unfold mdel
  cases hx : mfind x l 0 with
  | none =>
    refine ⟨setB w b (.map es c), ?_, ⟨_, _, setB_same (blk_lt hb) _, hl⟩, setB_upd _⟩
    simp [Builtin.delete_, run_underlying ht, MapKept.run_getObj_map hb, hK.check, hf, hx, MapKept.run_setObj_map _ hb, Result.andThen, setB]
  | some p =>
    obtain ⟨j, u⟩ := p
    refine ⟨setB w b (.map (es.eraseIdxIfInBounds j) c), ?_, ⟨_, _, setB_same (blk_lt hb) _, ?_⟩, setB_upd _⟩
    · simp [Builtin.delete_, run_underlying ht, MapKept.run_getObj_map hb, hK.check, hf, hx, MapKept.run_setObj_map _ hb, Result.andThen, setB]
    · rw [size_erase_list, map_eraseIdx_is, hl, ← map_eraseIdx_is]
theorem run_clear_is {ty : TypeId} (ht : P.underlying T = some (.map K E)) (h : MapIs w enc b l) :
    ∃ w', (Builtin.clear_ #[T] ty #[.map (some b)]).run P w = .ok (.tuple #[]) w' ∧ MapIs w' enc b ([] : List (κ × Value)) ∧ Upd (fun k => k = b) w w' := by
  obtain ⟨es, c, hb, hl⟩ := h
  refine ⟨setB w b (.map #[] c), ?_, ⟨_, _, setB_same (blk_lt hb) _, rfl⟩, setB_upd _⟩
  simp [Builtin.clear_, run_underlying ht, MapKept.run_getObj_map hb, MapKept.run_setObj_map _ hb, Result.andThen, setB]

/-! ### at the operations, for the walk -/
variable {ops : Array Oper} {rest : List Oper} {o : Oper} {a : Act} {Q : Exit → Act → World → Prop}
theorem wpList_mapUpdate_new (hg : o.guard = none) (m x v : Operand) (T : TypeId) (hop : o.op = Op.mapUpdate T m x v) (K E : TypeId) (hK : KeyOk P K enc) (ht : P.underlying T = some (.map K E))
    (b : Nat) (hm : a.eval m = .map (some b)) (key : κ) (val : Value) (hx : a.eval x = enc key) (hv : a.eval v = val) (h : MapIs w enc b l) (hn : mfind key l 0 = none)
    (hk : ∀ w', MapIs w' enc b (l ++ [(key, val)]) → Upd (fun k => k = b) w w' → wpList P ops Q rest (a.put o.dst undef) w') : wpList P ops Q (o :: rest) a w := by
  refine wpList_plain hg fun K' hK' => ?_
  obtain ⟨w', hrun, r1, r2⟩ := run_mapUpdate_new hK ht h key val hn
  unfold Oper.wp
  simp [execOp, hop, hm, hx, hv, hrun, Result.andThen]
  exact hK' _ _ (hk w' r1 r2)
theorem wpList_mapUpdate_old (hg : o.guard = none) (m x v : Operand) (T : TypeId) (hop : o.op = Op.mapUpdate T m x v) (K E : TypeId) (hK : KeyOk P K enc) (ht : P.underlying T = some (.map K E))
    (b : Nat) (hm : a.eval m = .map (some b)) (key : κ) (val u : Value) (j : Nat) (hx : a.eval x = enc key) (hv : a.eval v = val) (h : MapIs w enc b l) (hn : mfind key l 0 = some (j, u))
    (hk : ∀ w', MapIs w' enc b (l.set j (key, val)) → Upd (fun k => k = b) w w' → wpList P ops Q rest (a.put o.dst undef) w') : wpList P ops Q (o :: rest) a w := by
  refine wpList_plain hg fun K' hK' => ?_
  obtain ⟨w', hrun, r1, r2⟩ := run_mapUpdate_old hK ht h key val u j hn
  unfold Oper.wp
  simp [execOp, hop, hm, hx, hv, hrun, Result.andThen]
  exact hK' _ _ (hk w' r1 r2)
theorem wpList_delete_is (hg : o.guard = none) (m x : Operand) (T K : TypeId) (hop : o.op = .call { callee := .builtin .delete, args := #[m, x], argTypes := #[T, K] }) (E : TypeId) (hK : KeyOk P K enc) (ht : P.underlying T = some (.map K E))
    (b : Nat) (hm : a.eval m = .map (some b)) (key : κ) (hx : a.eval x = enc key) (h : MapIs w enc b l)
    (hk : ∀ w', MapIs w' enc b (mdel key l) → Upd (fun k => k = b) w w' → wpList P ops Q rest (a.put o.dst (.tuple #[])) w') : wpList P ops Q (o :: rest) a w := by
  refine wpList_plain hg fun K' hK' => ?_
  obtain ⟨w', hrun, r1, r2⟩ := run_delete_is (ty := o.type) hK ht h key
  unfold Oper.wp execOp
  simp only [hop, resolve, invoke, builtin, Sem.run_bind, Sem.run_pure, Result.andThen_ok, List.map_toArray, List.map_cons, List.map_nil, hm, hx, hrun]
  exact hK' _ _ (hk w' r1 r2)
theorem step_delete_is {K' : Act → World → Prop} {E' : Prop} (hg : o.guard = none) (m x : Operand) (T K : TypeId) (hop : o.op = .call { callee := .builtin .delete, args := #[m, x], argTypes := #[T, K] }) (E : TypeId) (hK : KeyOk P K enc) (ht : P.underlying T = some (.map K E))
    (b : Nat) (hm : a.eval m = .map (some b)) (key : κ) (hx : a.eval x = enc key) (h : MapIs w enc b l)
    (hk : ∀ w', MapIs w' enc b (mdel key l) → Upd (fun k => k = b) w w' → K' (a.put o.dst (.tuple #[])) w') :
    if Region.wanted o (yielded ops a.tmps) = true then Oper.wp P o a w K' Q else E' := by
  have hw : Region.wanted o (yielded ops a.tmps) = true := by simp [Region.wanted, hg]
  rw [if_pos hw]
  obtain ⟨w', hrun, r1, r2⟩ := run_delete_is (ty := o.type) hK ht h key
  unfold Oper.wp execOp
  simp only [hop, resolve, invoke, builtin, Sem.run_bind, Sem.run_pure, Result.andThen_ok, List.map_toArray, List.map_cons, List.map_nil, hm, hx, hrun]
  exact hk w' r1 r2
theorem wpList_clear_is (hg : o.guard = none) (m : Operand) (T : TypeId) (hop : o.op = .call { callee := .builtin .clear, args := #[m], argTypes := #[T] }) (K E : TypeId) (ht : P.underlying T = some (.map K E))
    (b : Nat) (hm : a.eval m = .map (some b)) (h : MapIs w enc b l)
    (hk : ∀ w', MapIs w' enc b ([] : List (κ × Value)) → Upd (fun k => k = b) w w' → wpList P ops Q rest (a.put o.dst (.tuple #[])) w') : wpList P ops Q (o :: rest) a w := by
  refine wpList_plain hg fun K' hK' => ?_
  obtain ⟨w', hrun, r1, r2⟩ := run_clear_is (ty := o.type) ht h
  unfold Oper.wp execOp
  simp only [hop, resolve, invoke, builtin, Sem.run_bind, Sem.run_pure, Result.andThen_ok, List.map_toArray, List.map_cons, List.map_nil, hm, hrun]
  exact hK' _ _ (hk w' r1 r2)
end
end Go.Proofs.YtdeonehebbofiaaDoor
