/-
  Arguments opened: a script of backlog operations; a slice of numbers. What a row's list of sentinels gives; a world that fits such a row.
-/
import Derived.Test.YtdeonehebbofiaaDoorPlay3
import Derived.Test.YtdeonehebbofiaaDoorLaid
import Derived.Deep.Slices
import Derived.OpenShut
namespace Go.Proofs.YtdeonehebbofiaaDoor
open Go.RowKit Go.ChangeShapes Go.WideShapes Go.Deep

theorem cellsOp6 : Tryd.prog.cellsOf 36 = 3 ∧ Tryd.prog.cellsOf 3 = 1 ∧ Tryd.prog.cellsOf 34 = 1 := by
  refine ⟨?_, ?_, ?_⟩ <;> kernel_rfl

section
variable {H : Type} {enc : TypeId × Value → H} {W : World} {base : Nat} {sp : Nat → Bool} {held : Bool}

theorem int_open6 {P : Program} {n : Nat} {t : TypeId} {k : IntKind} {cs : List Value} {o : Nat} {x : DataW H × List MemPlace} (ht : P.underlying t = some (.int k))
    (h : DataW.trod enc P W base sp held n t ((cs.drop o).take 1) = some x) : ∃ z, cs[o]? = some (.int k z) ∧ (Lit.int k z).wf = true := by
  obtain ⟨z, hc, _, hw⟩ := DataW.trod_int ht h
  exact ⟨z, first_of hc, hw⟩
theorem field_open6 {P : Program} {n : Nat} {t : TypeId} {fs : Array Field} {cs : List Value} {x : DataW H × List MemPlace} (ht : P.underlying t = some (.struct fs)) (h : DataW.trod enc P W base sp held n t cs = some x) {j : Nat} {f : Field} (hf : fs[j]? = some f) :
    ∃ m y, DataW.trod enc P W base sp held m f.type ((cs.drop f.offset).take (P.cellsOf f.type)) = some y := by
  obtain ⟨xs, m, rfl, hx, hl, hxl, hall⟩ := DataW.trod_struct ht h
  have h1 := hall j f hf
  have hj : j < fs.size := (Array.getElem?_eq_some_iff.1 hf).1
  exact ⟨m, xs[j]'(by omega), h1.trans (List.getElem?_eq_getElem (by omega))⟩

set_option maxRecDepth 100000 in
theorem op6_open {n : Nat} {cs : List Value} {x : DataW H × List MemPlace} (h : DataW.trod enc Tryd.prog W base sp held n 36 cs = some x) :
    ∃ o : Op6, cs[0]? = some (.int .i64 o.kd) ∧ cs[1]? = some (.int .i64 o.n) ∧ cs[2]? = some (.int .u32 o.id) := by
  obtain ⟨_, c3, c34⟩ := cellsOp6
  obtain ⟨m0, y0, h0⟩ := field_open6 Tryd.underlying36 h (j := 0) rfl
  obtain ⟨m1, y1, h1⟩ := field_open6 Tryd.underlying36 h (j := 1) rfl
  obtain ⟨m2, y2, h2⟩ := field_open6 Tryd.underlying36 h (j := 2) rfl
  obtain ⟨kd, e0, _⟩ := int_open6 (cs := cs) (o := 0) Tryd.underlying3 (by rw [← c3]; exact h0)
  obtain ⟨k, e1, _⟩ := int_open6 (cs := cs) (o := 1) Tryd.underlying3 (by rw [← c3]; exact h1)
  obtain ⟨id, e2, _⟩ := int_open6 (cs := cs) (o := 2) Tryd.underlying34 (by rw [← c34]; exact h2)
  exact ⟨⟨kd, k, id⟩, e0, e1, e2⟩

/-- A slice of elements of sz cells, opened: where its cells lie. -/
theorem slice_open {P : Program} {t e : TypeId} {sz : Nat} (ht : P.underlying t = some (.slice e)) (hsz : P.cellsOf e = sz) (hpos : 0 < sz) {α : Type} (R : α → List Value → Prop)
    (hR : ∀ (m : Nat) (cs : List Value) (x : DataW H × List MemPlace), DataW.trod enc P W 0 (fun _ => true) true m e cs = some x → ∃ y : α, R y cs ∧ cs[0]?.isSome) {n : Nat} {a : Option Addr} {len cap : Nat} {d : DataW H} {p : List MemPlace}
    (h : DataW.trod enc P W 0 (fun _ => true) true n t [.slice a len cap] = some (d, p)) :
    ∃ ys : List α, ys.length = len ∧ len ≤ cap ∧ cap ≤ maxLen ∧ (0 < len → ∃ lb off, a = some ⟨lb, off, none⟩ ∧ lb < W.heap.size) ∧
      (∀ lb off, a = some ⟨lb, off, none⟩ → ∀ i y, ys[i]? = some y → ∃ cs : List Value, cs.length = sz ∧ R y cs ∧ ∀ j, j < sz → W.cell? ⟨lb, off + i * sz + j, none⟩ = cs[j]?) ∧ (len = 0 ∨ ∃ es spare, d = .slice es spare ∧ es.length = len) := by
  rcases open_slice ht h with ⟨h0, _⟩ | ⟨a', len', cap', m, n', D, Pl, hcs, _, hl, hm, hmm, hx, hall⟩
  · simp at h0
    obtain ⟨rfl, rfl, rfl⟩ := h0
    exact ⟨[], rfl, Nat.le_refl _, Nat.zero_le _, fun hp => absurd hp (by omega), (fun _ _ e => by cases e), .inl rfl⟩
  · simp at hcs
    obtain ⟨rfl, rfl, rfl⟩ := hcs
    simp only [if_true] at hmm
    subst hmm
    rcases Nat.eq_zero_or_pos len with rfl | hp0
    · exact ⟨[], rfl, Nat.zero_le _, hm, fun hp => absurd hp (by omega), (fun _ _ _ i o ho => by simp at ho), .inl rfl⟩
    have one' : ∀ i, i < len → ∃ (y : α) (cs : List Value), cs.length = sz ∧ R y cs ∧ ∀ j, j < sz → W.cell? ((a'.add (i * sz)).add j) = cs[j]? := by
      intro i hi
      obtain ⟨cs', hc, ht'⟩ := hall i (by omega)
      rw [hsz] at hc
      obtain ⟨_, hlen, hcell⟩ := World.cells?_some hc
      obtain ⟨y, hy, _⟩ := hR _ _ _ ht'
      exact ⟨y, cs', by omega, hy, fun j hj => hcell j (by omega)⟩
    have hspot : ∃ lb off, a' = ⟨lb, off, none⟩ ∧ lb < W.heap.size := by
      obtain ⟨cs', hc, ht'⟩ := hall 0 (by omega)
      rw [hsz] at hc
      obtain ⟨_, hlen, hcell⟩ := World.cells?_some hc
      obtain ⟨y, hy, hs⟩ := hR _ _ _ ht'
      obtain ⟨v, hv⟩ := Option.isSome_iff_exists.1 hs
      have h0 := (hcell 0 (by omega)).trans hv
      have ha0 : (a'.add (0 * sz)).add 0 = a' := by simp [Addr.add]
      rw [ha0] at h0
      obtain ⟨lb, off, spt⟩ := a'
      have := cell_spot h0
      subst this
      exact ⟨lb, off, rfl, World.block_lt_of_cell? W _ h0⟩
    obtain ⟨lb, off, rfl, hlb⟩ := hspot
    have hne : Nonempty α := ⟨(one' 0 hp0).choose⟩
    obtain ⟨F, hF⟩ : ∃ F : Nat → α, ∀ i, i < len → ∃ cs : List Value, cs.length = sz ∧ R (F i) cs ∧ ∀ j, j < sz → W.cell? ⟨lb, off + i * sz + j, none⟩ = cs[j]? := by
      refine ⟨fun i => if hi : i < len then (one' i hi).choose else Classical.choice hne, fun i hi => ?_⟩
      simp only [dif_pos hi]
      obtain ⟨cs, h1, h2, h3⟩ := (one' i hi).choose_spec
      exact ⟨cs, h1, h2, fun j hj => by rw [← h3 j hj, add_at, add_at]⟩
    refine ⟨(List.range len).map F, by simp, hl, hm, fun _ => ⟨lb, off, rfl, hlb⟩, fun lb' off' e i y hy => ?_, .inr ⟨_, _, (Prod.mk.inj hx).1, by simp⟩⟩
    injection e with e
    injection e with e1 e2
    subst e1; subst e2
    have hi : i < len := by
      have := (List.getElem?_eq_some_iff.1 hy).1
      simpa using this
    rw [List.getElem?_map, List.getElem?_range hi] at hy
    simp at hy
    subst hy
    exact hF i hi

set_option maxRecDepth 100000 in
/-- A script, opened. -/
theorem ops6_open {n : Nat} {a : Option Addr} {len cap : Nat} {d : DataW H} {p : List MemPlace} (h : DataW.trod enc Tryd.prog W 0 (fun _ => true) true n 22 [.slice a len cap] = some (d, p)) :
    ∃ os : List Op6, os.length = len ∧ OpAt6 W a cap os := by
  obtain ⟨os, h1, h2, h3, h4, h5, _⟩ := slice_open Tryd.underlying22 cellsOp6.1 (by decide) (fun (o : Op6) cs => cs[0]? = some (.int .i64 o.kd) ∧ cs[1]? = some (.int .i64 o.n) ∧ cs[2]? = some (.int .u32 o.id)) (fun m cs x hx => by
    obtain ⟨o, e0, e1, e2⟩ := op6_open hx
    exact ⟨o, ⟨e0, e1, e2⟩, by rw [e0]; rfl⟩) h
  subst h1
  refine ⟨os, rfl, ⟨h2, h3, h4, fun lb off e i o ho => ?_⟩⟩
  obtain ⟨cs, hl, ⟨e0, e1, e2⟩, hc⟩ := h5 lb off e i o ho
  exact ⟨(hc 0 (by decide)).trans e0, (hc 1 (by decide)).trans e1, (hc 2 (by decide)).trans e2⟩

/-- Where a slice of numbers lies. -/
structure NumAt (w : World) (a : Option Addr) (cap : Nat) (ids : List Int) : Prop where
  le : ids.length ≤ cap
  mx : cap ≤ maxLen
  pos : 0 < ids.length → ∃ lb off, a = some ⟨lb, off, none⟩ ∧ lb < w.heap.size
  cells : ∀ lb off, a = some ⟨lb, off, none⟩ → ∀ i x, ids[i]? = some x → w.cell? ⟨lb, off + i, none⟩ = some (.int .u32 x)
set_option maxRecDepth 100000 in
theorem nums_open {n : Nat} {a : Option Addr} {len cap : Nat} {d : DataW H} {p : List MemPlace} (h : DataW.trod enc Tryd.prog W 0 (fun _ => true) true n 29 [.slice a len cap] = some (d, p)) :
    ∃ ids : List Int, ids.length = len ∧ NumAt W a cap ids := by
  obtain ⟨ids, h1, h2, h3, h4, h5, _⟩ := slice_open Tryd.underlying29 cellsOp6.2.2 (by decide) (fun (x : Int) cs => cs[0]? = some (.int .u32 x)) (fun m cs x hx => by
    have hx' : DataW.trod enc Tryd.prog W 0 (fun _ => true) true m 34 cs = some x := hx
    obtain ⟨z, hc, _, _⟩ := DataW.trod_int Tryd.underlying34 hx'
    subst hc
    exact ⟨z, rfl, rfl⟩) h
  subst h1
  refine ⟨ids, rfl, ⟨h2, h3, h4, fun lb off e i o ho => ?_⟩⟩
  obtain ⟨cs, hl, e0, hc⟩ := h5 lb off e i o ho
  have := hc 0 (by decide)
  rw [Nat.mul_one, Nat.add_zero] at this
  exact this.trans e0
end
theorem NumAt.below' {w w' : World} {a : Option Addr} {cap : Nat} {ids : List Int} (h : NumAt w a cap ids) (hb : Below w.heap.size w w') : NumAt w' a cap ids where
  le := h.le
  mx := h.mx
  pos := fun hp => by
    obtain ⟨lb, off, e, hl⟩ := h.pos hp
    exact ⟨lb, off, e, Nat.lt_of_lt_of_le hl hb.size⟩
  cells := fun lb off e i o ho => by
    have hp : 0 < ids.length := Nat.lt_of_le_of_lt (Nat.zero_le i) (List.getElem?_eq_some_iff.1 ho).1
    obtain ⟨lb', off', e', hl⟩ := h.pos hp
    rw [e] at e'
    injection e' with e'
    injection e' with e1 e2
    subst e1
    exact (hb.cell (p := ⟨lb, off + i, none⟩) hl).trans (h.cells lb off e i o ho)

/-! ### what a list of sentinels gives, and a world that fits it -/
theorem row_own : ownKnob Tryd.prog.godebug = none := by kernel_rfl
theorem row_laidOut : laidOutB Tryd.prog = true := by kernel_rfl
def sentL (l : List (String × DataW Unit)) : List (String × List UInt8) := (l.take 42).map fun x => (x.1, textOf x.2)
theorem sentL_row {laid : List (String × DataW Unit)} {W : World} (hl : laid = (sentL laid).map mkS ++ laid.drop 42) (hlen : (sentL laid).length = 42)
    (hn : ((List.range 42).all fun i => match (sentL laid)[i]? with | some x => decide (Tryd.prog.globalNamed x.1 = some (gid (i + 1))) | none => false) = true)
    (h : laidMet Tryd.prog laid W) : ∃ E, Sent W E := sent_of (sentL laid) hl hlen hn (by kernel_rfl) h
noncomputable def lowS : Nat := (World.holding Tryd.prog default ⟨#[], #[], []⟩).heap.size
noncomputable def worldS (laid : List (String × DataW Unit)) (os : Os) : World :=
  let w0 := World.holding Tryd.prog os ⟨((laid.take 42).map fun x => Obj.cells #[.string ⟨(textOf x.2).toArray⟩] 229).toArray, #[], []⟩
  let put (h : Array Obj) (g : Nat) (cs : Array Value) : Array Obj := h.modify g fun
    | .cells _ t frozen => .cells cs t frozen
    | o => o
  { w0 with heap := (List.range 42).foldl (fun h i => put h (gid (i + 1)) #[.iface 205 (.pointer (some ⟨lowS + i, 0, none⟩))]) w0.heap }
end Go.Proofs.YtdeonehebbofiaaDoor
