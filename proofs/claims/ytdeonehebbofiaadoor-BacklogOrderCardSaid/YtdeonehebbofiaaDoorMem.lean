/-
  Words on memory, over any program: which blocks a call may have turned (Upd); a slice that may begin inside its block (Row), read, cut, written, appended to.
-/
import Derived.WalkKit
import Derived.WalkLawsBesides
import Derived.WalkSpells
import Derived.Deep.QuietTactic
import Derived.BigQuiet
import Derived.Deep.Draws
namespace Go.Proofs.YtdeonehebbofiaaDoor
open Go.RowKit

theorem hide {p : Prop} (h : p) : Hid p := h

/-! ### Upd: of what was there only the blocks of S may have turned -/
structure Upd (S : Nat → Prop) (w w' : World) : Prop where
  os : w'.os = w.os
  tape : w'.tape = w.tape
  output : w'.output = w.output
  size : w.heap.size ≤ w'.heap.size
  block : ∀ k, k < w.heap.size → ¬ S k → w'.heap[k]? = w.heap[k]?

theorem Upd.refl (S : Nat → Prop) (w : World) : Upd S w w := ⟨rfl, rfl, rfl, Nat.le_refl _, fun _ _ _ => rfl⟩
theorem Upd.trans {S S' : Nat → Prop} {a b c : World} (h : Upd S a b) (k : Upd S' b c) (hs : ∀ i, i < a.heap.size → S' i → S i) : Upd S a c :=
  ⟨k.os.trans h.os, k.tape.trans h.tape, k.output.trans h.output, Nat.le_trans h.size k.size,
    fun i hi hn => (k.block i (Nat.lt_of_lt_of_le hi h.size) (fun hS => hn (hs i hi hS))).trans (h.block i hi hn)⟩
theorem Upd.mono {S S' : Nat → Prop} {w w' : World} (h : Upd S w w') (hs : ∀ i, i < w.heap.size → S i → S' i) : Upd S' w w' :=
  ⟨h.os, h.tape, h.output, h.size, fun i hi hn => h.block i hi (fun hS => hn (hs i hi hS))⟩
theorem Upd.drew {S : Nat → Prop} {a w : World} (h : Upd S a w) : Upd S a w.drew := ⟨h.os, h.tape, h.output, h.size, h.block⟩
theorem Upd.drewN {S : Nat → Prop} {a w : World} (h : Upd S a w) (n : Nat) : Upd S a (w.drewN n) := ⟨h.os, h.tape, h.output, h.size, h.block⟩
theorem Upd.alloc {S : Nat → Prop} {a w : World} (h : Upd S a w) (o : Obj) : Upd S a (w.alloc o) :=
  ⟨h.os, h.tape, h.output, by have := h.size; simp; omega, fun i hi hn => (Below.heap_alloc w o i (Nat.lt_of_lt_of_le hi h.size)).trans (h.block i hi hn)⟩
theorem Upd.setCell {S : Nat → Prop} {a w : World} (h : Upd S a w) {p : Addr} (hp : S p.block ∨ a.heap.size ≤ p.block) (u : Value) : Upd S a (w.setCell p u) :=
  ⟨h.os, h.tape, h.output, by have := h.size; simpa [World.setCell] using this, fun i hi hn => (Below.heap_setCell w p u i (by
    rintro rfl
    rcases hp with hp | hp
    · exact hn hp
    · omega)).trans (h.block i hi hn)⟩
theorem Upd.of_grown {w w' : World} {row : Option Nat} (h : w.grownBy w' row) : Upd (fun k => some k = row) w w' := ⟨h.os, h.tape, h.output, h.size, fun i hi hn => h.block i hi hn⟩
theorem Upd.of_below {w w' : World} (h : Below w.heap.size w w') (S : Nat → Prop) : Upd S w w' := ⟨h.os, h.tape, h.output, h.size, fun i hi _ => h.block i hi⟩
theorem Upd.below {S : Nat → Prop} {B : Nat} {w w' : World} (h : Upd S w w') (hB : B ≤ w.heap.size) (hs : ∀ i, i < B → ¬ S i) : Below B w w' := ⟨h.os, h.tape, h.output, h.size, fun i hi => h.block i (by omega) (hs i hi)⟩
/-- A block that holds what it held. -/
theorem Upd.keeps {S : Nat → Prop} {w w' : World} {g : Nat} {o : Obj} (h : Upd S w w') (hb : w.heap[g]? = some o) (hn : ¬ S g) : w'.heap[g]? = some o :=
  (h.block g (Array.getElem?_eq_some_iff.1 hb).1 hn).trans hb

theorem blk_lt {w : World} {g : Nat} {o : Obj} (h : w.heap[g]? = some o) : g < w.heap.size := (Array.getElem?_eq_some_iff.1 h).1
theorem blk_cell {w : World} {g : Nat} {t : TypeId} {cs : Array Value} (h : w.heap[g]? = some (.cells cs t (0, 0))) (i : Nat) : w.cell? ⟨g, i, none⟩ = cs[i]? := cell_of_row w g i cs t (0, 0) h
theorem blk_frozen {w : World} {g : Nat} {t : TypeId} {cs : Array Value} (h : w.heap[g]? = some (.cells cs t (0, 0))) (i : Nat) : w.frozen? ⟨g, i, none⟩ = false := by simp [World.frozen?, h]
theorem blk_set {w : World} {g : Nat} {t : TypeId} {cs : Array Value} (h : w.heap[g]? = some (.cells cs t (0, 0))) (i : Nat) (u : Value) : (w.setCell ⟨g, i, none⟩ u).heap[g]? = some (.cells (cs.setIfInBounds i u) t (0, 0)) :=
  heap_setCell_same w g i cs t u h
theorem blk_far {w : World} {g : Nat} {o : Obj} (h : w.heap[g]? = some o) {p : Addr} (hp : g ≠ p.block) (u : Value) : (w.setCell p u).heap[g]? = some o := (Below.heap_setCell w p u g hp).trans h
theorem blk_alloc {w : World} {g : Nat} {o : Obj} (h : w.heap[g]? = some o) (o' : Obj) : (w.alloc o').heap[g]? = some o := (Below.heap_alloc w o' g (blk_lt h)).trans h
theorem blk_new (w : World) (o : Obj) : (w.alloc o).heap[w.heap.size]? = some o := heap_alloc_new w o
theorem blk_ne {w : World} {g g' : Nat} {t t' : TypeId} {cs cs' : Array Value} (h : w.heap[g]? = some (.cells cs t (0, 0))) (h' : w.heap[g']? = some (.cells cs' t' (0, 0))) (hne : t ≠ t') : g ≠ g' := by
  rintro rfl
  rw [h] at h'
  injection h' with h'
  injection h' with _ ht
  exact hne ht

theorem add_at (g o n : Nat) : (⟨g, o, none⟩ : Addr).add n = ⟨g, o + n, none⟩ := by
  unfold Addr.add
  split
  · rename_i h; subst h; rfl
  · rfl

/-! ### Row: the slice v has n elements of type e (sz cells each); their cells are cs -/
def Row (w : World) (e : TypeId) (sz : Nat) (v : Value) (n : Nat) (cs : List Value) : Prop :=
  cs.length = n * sz ∧
  ((v = .slice none 0 0 ∧ n = 0) ∨
   ∃ g off cap cur, v = .slice (some ⟨g, off, none⟩) n cap ∧ w.heap[g]? = some (.cells cur e (0, 0)) ∧ n ≤ cap ∧ cap ≤ maxLen ∧ off + cap * sz ≤ cur.size ∧ (cur.toList.drop off).take (n * sz) = cs)

section
variable {w w' : World} {e : TypeId} {sz n : Nat} {v : Value} {cs : List Value}

theorem Row.nil (w : World) (e : TypeId) (sz : Nat) : Row w e sz (.slice none 0 0) 0 [] := ⟨by simp, .inl ⟨rfl, rfl⟩⟩
theorem Row.form (h : Row w e sz v n cs) : ∃ a cap, v = .slice a n cap ∧ n ≤ cap ∧ cap ≤ maxLen := by
  rcases h.2 with ⟨rfl, rfl⟩ | ⟨g, off, cap, cur, rfl, _, h1, h2, _⟩
  · exact ⟨none, 0, rfl, Nat.le_refl _, Nat.zero_le _⟩
  · exact ⟨_, cap, rfl, h1, h2⟩
theorem Row.le (h : Row w e sz v n cs) : n ≤ maxLen := by
  obtain ⟨_, _, _, h1, h2⟩ := h.form
  omega
theorem Row.blk (h : Row w e sz v n cs) {k : Nat} (hk : v.ownBlock = some k) : ∃ cur, w.heap[k]? = some (.cells cur e (0, 0)) := by
  rcases h.2 with ⟨rfl, _⟩ | ⟨g, off, cap, cur, rfl, hb, _⟩
  · simp [Value.ownBlock] at hk
  · simp [Value.ownBlock] at hk
    subst hk
    exact ⟨cur, hb⟩
theorem Row.lt (h : Row w e sz v n cs) {k : Nat} (hk : v.ownBlock = some k) : k < w.heap.size := by
  obtain ⟨cur, hb⟩ := h.blk hk
  exact blk_lt hb
theorem Row.move (h : Row w e sz v n cs) (hm : ∀ k, v.ownBlock = some k → k < w.heap.size → w'.heap[k]? = w.heap[k]?) : Row w' e sz v n cs := by
  refine ⟨h.1, ?_⟩
  rcases h.2 with hn | ⟨g, off, cap, cur, rfl, hb, r⟩
  · exact .inl hn
  · exact .inr ⟨g, off, cap, cur, rfl, (hm g (by simp [Value.ownBlock]) (blk_lt hb)).trans hb, r⟩
theorem Row.upd {S : Nat → Prop} (h : Row w e sz v n cs) (hu : Upd S w w') (hn : ∀ k, v.ownBlock = some k → ¬ S k) : Row w' e sz v n cs :=
  h.move fun k hk hl => hu.block k hl (hn k hk)
theorem Row.below (h : Row w e sz v n cs) (hu : Below w.heap.size w w') : Row w' e sz v n cs := h.move fun k _ hl => hu.block k hl
theorem Row.alloc (h : Row w e sz v n cs) (o : Obj) : Row (w.alloc o) e sz v n cs := h.move fun k _ hl => Below.heap_alloc w o k hl
theorem Row.far (h : Row w e sz v n cs) {p : Addr} (hp : v.ownBlock ≠ some p.block) (u : Value) : Row (w.setCell p u) e sz v n cs :=
  h.move fun k hk _ => Below.heap_setCell w p u k (fun e => hp (by rw [hk, e]))
theorem Row.drew (h : Row w e sz v n cs) : Row w.drew e sz v n cs := h
theorem Row.drewN (h : Row w e sz v n cs) (m : Nat) : Row (w.drewN m) e sz v n cs := h
theorem Row.ne (h : Row w e sz v n cs) {g : Nat} {t : TypeId} {cells : Array Value} (hb : w.heap[g]? = some (.cells cells t (0, 0))) (hne : e ≠ t) : v.ownBlock ≠ some g := by
  intro hk
  obtain ⟨cur, h2⟩ := h.blk hk
  exact blk_ne h2 hb hne rfl
/-- A block that is no row of cells is not the slice's. -/
theorem Row.ne_obj (h : Row w e sz v n cs) {g : Nat} {o : Obj} (hb : w.heap[g]? = some o) (hne : ∀ c t f, o ≠ .cells c t f) : v.ownBlock ≠ some g := by
  intro hk
  obtain ⟨cur, h2⟩ := h.blk hk
  rw [hb] at h2
  injection h2 with h2
  exact hne _ _ _ h2
theorem Row.ne_lt (h : Row w e sz v n cs) {g : Nat} (hg : w.heap.size ≤ g) : v.ownBlock ≠ some g := fun hk => by have := h.lt hk; omega

/-- A row with an element begins somewhere. -/
theorem Row.begins (h : Row w e sz v n cs) (hp : 0 < n) : ∃ g off cap, v = .slice (some ⟨g, off, none⟩) n cap ∧ n ≤ cap ∧ cap ≤ maxLen ∧ v.ownBlock = some g ∧ g < w.heap.size := by
  rcases h.2 with ⟨_, rfl⟩ | ⟨g, off, cap, cur, rfl, hb, h1, h2, _⟩
  · omega
  · exact ⟨g, off, cap, rfl, h1, h2, rfl, blk_lt hb⟩
theorem Row.cell {g off cap : Nat} (h : Row w e sz (.slice (some ⟨g, off, none⟩) n cap) n cs) {i : Nat} (hi : i < n * sz) : w.cell? ⟨g, off + i, none⟩ = cs[i]? := by
  rcases h.2 with ⟨h0, _⟩ | ⟨g', off', cap', cur, hv, hb, h1, h2, h3, h4⟩
  · cases h0
  · injection hv with ha _ hc
    injection ha with ha
    injection ha with hg ho
    subst hg; subst ho
    rw [blk_cell hb, ← h4, List.getElem?_take, if_pos hi, List.getElem?_drop, Array.getElem?_toList]
theorem Row.frozen {g off cap m : Nat} (h : Row w e sz (.slice (some ⟨g, off, none⟩) m cap) n cs) (i : Nat) : w.frozen? ⟨g, i, none⟩ = false := by
  obtain ⟨cur, hb⟩ := h.blk (k := g) rfl
  exact blk_frozen hb i
/-- s[lo:hi] -/
theorem Row.sub {g off cap : Nat} (h : Row w e sz (.slice (some ⟨g, off, none⟩) n cap) n cs) {lo hi cap' off' : Nat} (hlh : lo ≤ hi) (hhn : hi ≤ n) (hc : cap' + lo ≤ cap) (hc' : hi - lo ≤ cap') (ho : off' = off + lo * sz) :
    Row w e sz (.slice (some ⟨g, off', none⟩) (hi - lo) cap') (hi - lo) ((cs.drop (lo * sz)).take ((hi - lo) * sz)) := by
  subst ho
  rcases h.2 with ⟨h0, _⟩ | ⟨g', off', cap'', cur, hv, hb, h1, h2, h3, h4⟩
  · cases h0
  · injection hv with ha _ hcc
    injection ha with ha
    injection ha with hg ho
    subst hg; subst ho; subst hcc
    have e1 : (cap' + lo) * sz ≤ cap * sz := Nat.mul_le_mul_right _ hc
    have e2 : (hi - lo) * sz + lo * sz ≤ n * sz := by rw [← Nat.add_mul]; exact Nat.mul_le_mul_right _ (by omega)
    rw [Nat.add_mul] at e1
    refine ⟨by rw [List.length_take, List.length_drop, h.1]; omega, .inr ⟨g, _, cap', cur, rfl, hb, hc', by omega, by omega, ?_⟩⟩
    rw [← h4]
    apply List.ext_getElem?
    intro i
    simp only [List.getElem?_take, List.getElem?_drop]
    split
    · rw [if_pos (by omega), Nat.add_assoc]
    · rfl
/-- s[k:] as the model writes it: at k = cap the old address stays. -/
theorem Row.tail {g off cap : Nat} (h : Row w e sz (.slice (some ⟨g, off, none⟩) n cap) n cs) {k : Nat} (hk : k ≤ n) {a : Addr} (ha : a = if cap = k then ⟨g, off, none⟩ else ⟨g, off + k * sz, none⟩) :
    Row w e sz (.slice (some a) (n - k) (cap - k)) (n - k) (cs.drop (k * sz)) ∧ a.block = g := by
  have hnc : n ≤ cap := by
    obtain ⟨_, _, hv, h1, _⟩ := h.form
    injection hv with _ _ hc
    omega
  have hlen := h.1
  have e2 : (n - k) * sz + k * sz = n * sz := by rw [← Nat.add_mul]; congr 1; omega
  split at ha
  · subst ha
    rename_i hck
    have hn : n = k := by omega
    subst hn
    have := h.sub (lo := 0) (hi := 0) (cap' := 0) (off' := off) (Nat.le_refl _) (Nat.zero_le _) (by omega) (by omega) (by simp)
    rw [hck, Nat.sub_self]
    simp only [Nat.sub_self, Nat.zero_mul, List.take_zero] at this
    rw [List.drop_eq_nil_of_le (by omega)]
    exact ⟨this, rfl⟩
  · subst ha
    have := h.sub (lo := k) (hi := n) (cap' := cap - k) hk (Nat.le_refl _) (by omega) (by omega) rfl
    rw [List.take_of_length_le (by rw [List.length_drop]; omega)] at this
    exact ⟨this, rfl⟩
/-- One cell is written. -/
theorem Row.set {g off cap : Nat} (h : Row w e sz (.slice (some ⟨g, off, none⟩) n cap) n cs) {i : Nat} (hi : i < n * sz) (u : Value) :
    Row (w.setCell ⟨g, off + i, none⟩ u) e sz (.slice (some ⟨g, off, none⟩) n cap) n (cs.set i u) := by
  rcases h.2 with ⟨h0, _⟩ | ⟨g', off', cap', cur, hv, hb, h1, h2, h3, h4⟩
  · cases h0
  · injection hv with ha _ hc
    injection ha with ha
    injection ha with hg ho
    subst hg; subst ho; subst hc
    refine ⟨by rw [List.length_set]; exact h.1, .inr ⟨g, off, cap, _, rfl, blk_set hb _ u, h1, h2, by simpa using h3, ?_⟩⟩
    rw [← h4]
    apply List.ext_getElem?
    intro j
    simp only [List.getElem?_take, List.getElem?_drop, Array.toList_setIfInBounds, List.getElem?_set, List.length_take, List.length_drop, Array.length_toList]
    have : n * sz ≤ cap * sz := Nat.mul_le_mul_right _ h1
    by_cases hj : j < n * sz
    · rw [if_pos hj]
      by_cases hji : i = j
      · subst hji
        rw [if_pos rfl, if_pos rfl, if_pos (by omega), if_pos (by omega)]
      · rw [if_neg (by omega), if_neg hji, if_pos hj]
    · rw [if_neg hj]
      by_cases hji : i = j
      · omega
      · rw [if_neg hji, if_neg hj]
/-- A new block that holds just the elements. -/
theorem Row.lit (w : World) (e : TypeId) (sz n : Nat) (cs : Array Value) (hl : cs.size = n * sz) (hm : n ≤ maxLen) :
    Row (w.alloc (.cells cs e)) e sz (.slice (some ⟨w.heap.size, 0, none⟩) n n) n cs.toList :=
  ⟨by simpa using hl, .inr ⟨w.heap.size, 0, n, cs, rfl, blk_new w _, Nat.le_refl _, hm, by omega, by rw [List.drop_zero, List.take_of_length_le (by simp; omega)]⟩⟩
/-- A new block with room for more. -/
theorem Row.made (w : World) (e : TypeId) (sz n cap : Nat) (cs : Array Value) (hn : n ≤ cap) (hl : cap * sz ≤ cs.size) (hm : cap ≤ maxLen) :
    Row (w.alloc (.cells cs e)) e sz (.slice (some ⟨w.heap.size, 0, none⟩) n cap) n (cs.toList.take (n * sz)) := by
  have : n * sz ≤ cap * sz := Nat.mul_le_mul_right _ hn
  exact ⟨by simp; omega, .inr ⟨w.heap.size, 0, cap, cs, rfl, blk_new w _, hn, hm, by omega, by rw [List.drop_zero]⟩⟩
end

/-! ### append -/
section
variable {P : Program} (w : World)

theorem run_append_at (t ty e : TypeId) (i : TypeInfo) (ht : P.underlying t = some (.slice e)) (hi : P.info? e = some i)
    (g off sLen sCap : Nat) (cur : Array Value) (hg : w.heap[g]? = some (.cells cur e (0, 0)))
    (x : Value) (m c : Nat) (a : Option Addr) (hx : x = .slice a m c) (news : List Value) (hl : news.length = m * i.size) (hnews : ∀ ad, a = some ad → ∀ j u, news[j]? = some u → w.cell? (ad.add j) = some u) (ha : a = none → m = 0) (h1 : ∀ u ∈ news, u.oneCell' = true)
    (hroom : sLen + m ≤ sCap) (hfit : off + sLen * i.size + news.length ≤ cur.size) :
    (Builtin.append_ #[t, t] ty #[.slice (some ⟨g, off, none⟩) sLen sCap, x]).run P w =
      .ok (.slice (some ⟨g, off, none⟩) (sLen + m) sCap) (w.setRow g (cur.toList.take (off + sLen * i.size) ++ news ++ cur.toList.drop (off + sLen * i.size + news.length)).toArray) := by
  subst hx
  have hf : (Builtin.firstCells i.size m (.slice a m c)).run P w = .ok news.toArray w := by
    cases a with
    | none =>
      have := ha rfl
      subst this
      have hn : news = [] := List.eq_nil_of_length_eq_zero (by simpa using hl)
      subst hn
      exact run_firstCells_none w i.size 0 0 c
    | some ad => exact run_firstCells_some (P := P) w i.size m ad m c news hl (hnews ad rfl)
  have hst := run_storeCells_at P g (off + sLen * i.size) e news 0 cur w hg (by simpa using hfit) h1
  simp only [Nat.add_zero] at hst
  simp [Builtin.append_, run_underlying ht, sizeOf, typeInfo, hi, Builtin.lenOf, hroom, hf, add_at, hst]

/-- append(s, x...): the row's cells with the new ones behind; only the row's own block may have turned; the new slice lies in it, or in a new block. -/
theorem run_append_row (t ty e : TypeId) (i : TypeInfo) (z : Value) (sz bytes : Nat) (ht : P.underlying t = some (.slice e)) (hi : P.info? e = some i) (hz : i.zero = some z)
    (hsize : i.size = sz) (hby : i.bytes = bytes) (hzs : z.cells.size = sz) (hsz : 0 < sz)
    (v : Value) (n : Nat) (cs : List Value) (hr : Row w e sz v n cs)
    (x : Value) (m : Nat) (news : List Value) (hx : Row w e sz x m news) (h1 : ∀ u ∈ news, u.oneCell' = true)
    (h63 : n + m ≤ maxLen) (hbytes : (n + m) * bytes ≤ 140737488355328) :
    ∃ v' w', (Builtin.append_ #[t, t] ty #[v, x]).run P w = .ok v' w' ∧ Row w' e sz v' (n + m) (cs ++ news) ∧ Upd (fun k => some k = v.ownBlock) w w' ∧
      (v'.ownBlock = v.ownBlock ∨ v'.ownBlock = some w.heap.size) ∧ w.heap.size ≤ w'.heap.size ∧ (∀ k, v'.ownBlock = some k → k < w'.heap.size) := by
  subst hsize
  subst hby
  have hsmall : n + m ≤ 9223372036854775807 := by simp only [maxLen] at h63; omega
  have hlen : (cs ++ news).length = (n + m) * i.size := by rw [List.length_append, hr.1, hx.1, Nat.add_mul]
  have hxf : ∃ a c, x = .slice a m c ∧ (∀ ad, a = some ad → ∀ j u, news[j]? = some u → w.cell? (ad.add j) = some u) ∧ (a = none → m = 0) := by
    rcases hx.2 with ⟨rfl, rfl⟩ | ⟨g, off, cap, cur, rfl, hb, r⟩
    · exact ⟨none, 0, rfl, (fun ad h => by cases h), fun _ => rfl⟩
    · refine ⟨_, cap, rfl, fun ad h j u hu => ?_, (fun h => by cases h)⟩
      injection h with h
      subst h
      have hj : j < m * i.size := by
        have := (List.getElem?_eq_some_iff.1 hu).1
        rw [hx.1] at this
        exact this
      rw [add_at, hx.cell hj]
      exact hu
  obtain ⟨a, c, rfl, hxc, hxn⟩ := hxf
  have grown : ∀ (old : Nat), old < n + m →
      Row (w.drew.alloc (.cells (cs.toArray ++ news.toArray ++ Builtin.zeroCells z.cells (grownCap w (n + m) old e - (n + m))) e)) e i.size
        (.slice (some ⟨w.heap.size, 0, none⟩) (n + m) (grownCap w (n + m) old e)) (n + m) (cs ++ news) := by
    intro old ho
    have hge := grownCap_ge w (n + m) old e
    have hcm : grownCap w (n + m) old e ≤ maxLen := grownCap_le_maxLen w (n + m) old e h63
    refine ⟨hlen, .inr ⟨w.heap.size, 0, _, _, rfl, heap_alloc_new w.drew _, hge, hcm, ?_, ?_⟩⟩
    · simp only [Array.size_append, List.size_toArray, size_zeroCells, hzs, hr.1, hx.1, ← Nat.add_mul, Nat.zero_add]
      apply Nat.mul_le_mul_right
      omega
    · simp only [Array.toList_append, List.append_assoc, List.drop_zero]
      rw [← List.append_assoc, ← hlen]
      exact List.take_left
  have hnew : ∀ o : Obj, Upd (fun k => some k = v.ownBlock) w (w.drew.alloc o) := fun o => ((Upd.refl _ w).drew).alloc o
  cases a with
  | none =>
    have hm := hxn rfl
    subst hm
    have hnn : news = [] := List.eq_nil_of_length_eq_zero (by simpa using hx.1)
    subst hnn
    simp only [Nat.add_zero, List.append_nil]
    rcases hr.2 with ⟨rfl, rfl⟩ | ⟨g, off, cap, cur, rfl, hb, h2, h3, h4, h5⟩
    · refine ⟨.slice none 0 0, w, ?_, hr, Upd.refl _ _, .inl rfl, Nat.le_refl _, fun k hk => by simp [Value.ownBlock] at hk⟩
      simp [Builtin.append_, run_underlying ht, sizeOf, typeInfo, hi, Builtin.lenOf, Builtin.firstCells]
    · have hrun := run_append_at (P := P) w t ty e i ht hi g off n cap cur hb (.slice none 0 c) 0 c none rfl [] (by simp) (fun ad h => by cases h) (fun _ => rfl) (fun u hu => by cases hu) (by omega) (by
        have : n * i.size ≤ cap * i.size := Nat.mul_le_mul_right _ h2
        simp; omega)
      have e1 : (cur.toList.take (off + n * i.size) ++ [] ++ cur.toList.drop (off + n * i.size + ([] : List Value).length)).toArray = cur := by simp
      rw [e1, setRow_self w g cur e (0, 0) hb] at hrun
      exact ⟨_, _, hrun, hr, Upd.refl _ _, .inl rfl, Nat.le_refl _, fun k hk => hr.lt hk⟩
  | some ad =>
    have hnews := hxc ad rfl
    rcases hr.2 with ⟨rfl, rfl⟩ | ⟨g, off, cap, cur, rfl, hb, h2, h3, h4, h5⟩
    · have hc : cs = [] := List.eq_nil_of_length_eq_zero (by simpa using hr.1)
      subst hc
      by_cases hm : m = 0
      · subst hm
        have hnn : news = [] := List.eq_nil_of_length_eq_zero (by simpa using hx.1)
        subst hnn
        refine ⟨.slice none 0 0, w, ?_, hr, Upd.refl _ _, .inl rfl, Nat.le_refl _, fun k hk => by simp [Value.ownBlock] at hk⟩
        simp [Builtin.append_, run_underlying ht, sizeOf, typeInfo, hi, Builtin.lenOf, Builtin.firstCells, loadCells, loadCellsFrom]
      · have hrun := run_append_nil (P := P) w t ty e i z ht hi hz ad m c news hx.1 hnews (by omega) (by omega) (by have hb := hbytes; simp only [Nat.zero_add] at hb; omega)
        have hgr := grown 0 (by omega)
        simp only [Nat.zero_add, List.nil_append, Array.empty_append] at hgr ⊢
        exact ⟨_, _, hrun, hgr, hnew _, .inr rfl, by simp, fun k hk => hgr.lt hk⟩
    · have hnc : n * i.size ≤ cap * i.size := Nat.mul_le_mul_right _ h2
      by_cases hroom : n + m ≤ cap
      · have hnm : (n + m) * i.size ≤ cap * i.size := Nat.mul_le_mul_right _ hroom
        rw [Nat.add_mul] at hnm
        have hfit : off + n * i.size + news.length ≤ cur.size := by rw [hx.1]; omega
        have hrun := run_append_at (P := P) w t ty e i ht hi g off n cap cur hb (.slice (some ad) m c) m c (some ad) rfl news hx.1 hxc hxn h1 hroom hfit
        have hrow : Row (w.setRow g (cur.toList.take (off + n * i.size) ++ news ++ cur.toList.drop (off + n * i.size + news.length)).toArray) e i.size (.slice (some ⟨g, off, none⟩) (n + m) cap) (n + m) (cs ++ news) := by
          refine ⟨hlen, .inr ⟨g, off, cap, _, rfl, setRow_heap w g cur _ e _ hb, hroom, h3, ?_, ?_⟩⟩
          · simp only [List.size_toArray, List.length_append, List.length_take, List.length_drop, Array.length_toList]
            omega
          · rw [← h5]
            apply List.ext_getElem?
            intro q
            have hcl : cur.toList.length = cur.size := Array.length_toList
            simp only [List.getElem?_take, List.getElem?_drop, List.getElem?_append, List.length_append, List.length_take, List.length_drop, hcl]
            rw [hx.1] at hfit ⊢
            rw [Nat.add_mul]
            by_cases hq : q < n * i.size
            · rw [if_pos (by omega), if_pos (by omega), if_pos (by omega), if_pos (by omega), if_pos (by omega), if_pos (by omega)]
            · by_cases hq2 : q < n * i.size + m * i.size
              · rw [if_pos (by omega), if_pos (by omega), if_neg (by omega), if_neg (by omega)]
                congr 1
                omega
              · rw [if_neg (by omega), if_neg (by omega)]
                rw [List.getElem?_eq_none (by rw [hx.1]; omega)]
        exact ⟨_, _, hrun, hrow, ⟨rfl, rfl, rfl, by simp, fun k _ hk => setRow_other w g k _ (fun e => hk (by simp [Value.ownBlock, e]))⟩, .inl rfl, by simp, fun k hk => hrow.lt hk⟩
      · have holds : ∀ j u, cs[j]? = some u → w.cell? ((⟨g, off, none⟩ : Addr).add j) = some u := fun j u hu => by
          have hj : j < n * i.size := by
            have := (List.getElem?_eq_some_iff.1 hu).1
            rwa [hr.1] at this
          rw [add_at, hr.cell hj]
          exact hu
        have hrun := run_append_grow (P := P) w t ty e i z ht hi hz ⟨g, off, none⟩ n cap cs hr.1 holds ad m c news hx.1 hnews (by omega) (by omega) (growslice_fits (by omega) hbytes)
        have hgr := grown cap (by omega)
        exact ⟨_, _, hrun, hgr, hnew _, .inr rfl, by simp, fun k hk => hgr.lt hk⟩

/-- The same at the operation, for the walk: 'refine wpList_append_row _ rfl _ _ T rfl E i z SZ BYTES A.underlyingT hi hz0 hz1 hz2 rfl (by decide) _ n cs rfl hrow _ m news rfl hnew h1 h63 hbytes ?_; intro v1 w1 hrow1 hupd1 hown1 hsz1 hlt1'. -/
theorem wpList_append_row {ops : Array Oper} {rest : List Oper} {o : Oper} {a : Act} {Q : Exit → Act → World → Prop} (hgd : o.guard = none) (s x : Operand) (t : TypeId)
    (ho : o.op = .call { callee := .builtin .append, args := #[s, x], argTypes := #[t, t] })
    (e : TypeId) (i : TypeInfo) (z : Value) (sz bytes : Nat) (ht : P.underlying t = some (.slice e)) (hi : P.info? e = some i) (hz : i.zero = some z)
    (hsize : i.size = sz) (hby : i.bytes = bytes) (hzs : z.cells.size = sz) (hsz : 0 < sz)
    (v : Value) (n : Nat) (cs : List Value) (hs : a.eval s = v) (hr : Row w e sz v n cs)
    (xv : Value) (m : Nat) (news : List Value) (hxv : a.eval x = xv) (hx : Row w e sz xv m news) (h1 : ∀ u ∈ news, u.oneCell' = true)
    (h63 : n + m ≤ maxLen) (hbytes : (n + m) * bytes ≤ 140737488355328)
    (h : ∀ v' w', Row w' e sz v' (n + m) (cs ++ news) → Upd (fun k => some k = v.ownBlock) w w' → (v'.ownBlock = v.ownBlock ∨ v'.ownBlock = some w.heap.size) → w.heap.size ≤ w'.heap.size → (∀ k, v'.ownBlock = some k → k < w'.heap.size) → wpList P ops Q rest (a.put o.dst v') w') :
    wpList P ops Q (o :: rest) a w :=
  wpList_plain hgd fun _ hK => by
    obtain ⟨v', w', hrun, h2, h3, h4, h5, h6⟩ := run_append_row (P := P) w t o.type e i z sz bytes ht hi hz hsize hby hzs hsz v n cs hr xv m news hx h1 h63 hbytes
    unfold Oper.wp execOp
    simp only [ho, resolve, invoke, builtin, Sem.run_bind, Sem.run_pure, Result.andThen_ok, List.map_toArray, List.map_cons, List.map_nil, hs, hxv, hrun]
    exact hK _ _ (h v' w' h2 h3 h4 h5 h6)
end

theorem bcell {W w1 : World} (hb : Below W.heap.size W w1) : (∀ b o, b < W.heap.size → w1.cell? ⟨b, o, none⟩ = W.cell? ⟨b, o, none⟩) ∧ (∀ b o, b < W.heap.size → w1.frozen? ⟨b, o, none⟩ = W.frozen? ⟨b, o, none⟩) :=
  ⟨fun b o h => hb.cell (p := ⟨b, o, none⟩) h, fun b o h => hb.frozen (p := ⟨b, o, none⟩) h⟩
theorem below_drew {B : Nat} {w W : World} (h : Below B w W) : Below B w W.drew := ⟨h.os, h.tape, h.output, h.size, h.block⟩
theorem below_drewN {B : Nat} {w W : World} (h : Below B w W) (n : Nat) : Below B w (W.drewN n) := ⟨h.os, h.tape, h.output, h.size, h.block⟩
theorem below_then {B : Nat} {w w1 w2 : World} (h : Below B w w1) (hB : B ≤ w1.heap.size) (k : Below w1.heap.size w1 w2) : Below B w w2 := h.trans (k.mono hB)
theorem below_alloc {w W : World} (h : Below w.heap.size w W) (o : Obj) : Below w.heap.size w (W.alloc o) := h.alloc h.size o
theorem ret_int {k : IntKind} {a b : Int} (h : a = b) : Ending.returned (.int k a) = .returned (.int k b) := by rw [h]
theorem ret_bool {a b : Bool} (h : a = b) : Ending.returned (.bool a) = .returned (.bool b) := by rw [h]

end Go.Proofs.YtdeonehebbofiaaDoor
