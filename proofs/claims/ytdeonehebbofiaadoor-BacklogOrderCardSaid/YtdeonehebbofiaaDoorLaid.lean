/-
  What a row's list of variables gives: the sentinels, and the lane's forms.
-/
import Derived.Test.YtdeonehebbofiaaDoorLane1
import Derived.Lib.LaidU8
import Derived.Stop.LaidErr
namespace Go.Proofs.YtdeonehebbofiaaDoor
open Go.RowKit

section
variable {P : Program} {w : World}
def mkS (x : String × List UInt8) : String × DataW Unit := (x.1, .iface "*errors.errorString" (.ptr (.agg [.lit (.string x.2)])))
def textOf : DataW Unit → List UInt8
  | .iface _ (.ptr (.agg [.lit (.string t)])) => t
  | _ => []

/-- The first variables of a list are sentinels: their pointers, no two alike. -/
theorem sents_of_vars {ti tp te ts : TypeId} {ms : Array (String × TypeId)} {f : Field} (hi : P.underlying ti = some (.interface ms)) (hrow : ∀ u, P.typeName? 3 u = some "*errors.errorString" → u = tp)
    (hp : P.underlying tp = some (.pointer te)) (he : P.underlying te = some (.struct #[f])) (hft : f.type = ts) (hfo : f.offset = 0) (hs : P.underlying ts = some .string) (hc : P.cellsOf te = 1) (hcs : P.cellsOf ts = 1) :
    ∀ (l : List (String × List UInt8)) (rest : List (String × DataW Unit)) (ps : List MemPlace), (∀ x ∈ l, ∃ g, P.globalNamed x.1 = some g ∧ (P.globals[g]?).map (·.type) = some ti) →
      DataW.LaidVars P w (l.map mkS ++ rest) ps → (∀ b off, MemPlace.cell b off ∈ ps → (∃ c t, w.heap[b]? = some (.cells c t (0, 0))) ∧ ∀ u v, w.cell? ⟨b, off, none⟩ = some (.iface u v) → Value.okWide P w .any 0 u v) →
      ∃ (adrs : List Addr) (qs rs : List MemPlace), adrs.length = l.length ∧ ps = qs ++ rs ∧ (adrs.map fun a => MemPlace.cell a.block a.off).Sublist qs ∧
        ∀ (i : Nat) (x : String × List UInt8), l[i]? = some x → ∃ a g, adrs[i]? = some a ∧ P.globalNamed x.1 = some g ∧ w.cell? ⟨g, 0, none⟩ = some (.iface tp (.pointer (some a))) ∧ ∃ c t, w.heap[a.block]? = some (.cells c t (0, 0))
  | [], rest, ps, _, _, _ => ⟨[], [], ps, rfl, rfl, List.Sublist.refl _, fun i x h => by simp at h⟩
  | (n, text) :: l, rest, ps, hg, hv, hrows => by
    obtain ⟨g, t, cs, fl, p, q, hgn, hgt, hvar, hd, hr, rfl⟩ := hv
    obtain ⟨g', hgn', hgt'⟩ := hg _ List.mem_cons_self
    obtain rfl := Option.some.inj (hgn.symm.trans hgn')
    obtain rfl := Option.some.inj (hgt.symm.trans hgt')
    obtain ⟨adrs, qs, rs, h1, h2, h3, h4⟩ := sents_of_vars hi hrow hp he hft hfo hs hc hcs l rest q (fun x hx => hg x (List.mem_cons_of_mem _ hx)) hr (fun b off hm => hrows b off (List.mem_append_right _ hm))
    have ok0 : ∀ u v, cs.toList = [.iface u v] → Value.okWide P w .any 0 u v := fun u v e => by
      have hcell := World.var?_cell hgn hvar 0
      have hcs0 : cs[0]? = some (.iface u v) := by rw [← Array.getElem?_toList, e]; rfl
      have hsz : cs.size = 1 := by rw [← Array.length_toList, e]; rfl
      exact (hrows g 0 (by rw [hsz]; simp [MemPlace.row])).2 u v (by rw [hcell, hcs0])
    obtain ⟨a, s, hcs', hca, _, _, rfl⟩ := errorString_of_trod hi hrow hp he hft hfo hs hc hcs hd ok0
    have hcell := World.var?_cell hgn hvar 0
    have hcs0 : cs[0]? = some (.iface tp (.pointer (some a))) := by rw [← Array.getElem?_toList, hcs']; rfl
    have hblk := (hrows a.block a.off (List.mem_append_left _ (List.mem_append_right _ (by simp [MemPlace.row])))).1
    refine ⟨a :: adrs, MemPlace.row ⟨g, 0, none⟩ cs.size ++ MemPlace.row a 1 ++ qs, rs, by simp [h1], by rw [h2]; simp, ?_, ?_⟩
    · rw [List.map_cons]
      refine List.Sublist.trans ?_ (List.append_sublist_append_right (l := qs) |>.2 (List.sublist_append_right _ _))
      have : MemPlace.row a 1 = [MemPlace.cell a.block a.off] := by simp [MemPlace.row]
      rw [this, List.singleton_append]
      exact h3.cons_cons _
    · intro i x hx
      cases i with
      | zero =>
        simp at hx
        subst hx
        exact ⟨a, g, rfl, hgn, by rw [hcell, hcs0], hblk⟩
      | succ i =>
        obtain ⟨a', g', e1, e2⟩ := h4 i x (by simpa using hx)
        exact ⟨a', g', by simpa using e1, e2⟩

/-- A struct's field, as it reads. -/
theorem field_at {H : Type} {enc : TypeId × Value → H} {base : Nat} {sp : Nat → Bool} {held : Bool} {fuel : Nat} {t : TypeId} {fs : Array Field} {cs : List Value} {ds : List (DataW H)} {p : List MemPlace} (ht : P.underlying t = some (.struct fs))
    (h : DataW.trod enc P w base sp held fuel t cs = some (.agg ds, p)) {j : Nat} {f : Field} (hf : fs[j]? = some f) :
    ∃ n d q, ds[j]? = some d ∧ DataW.trod enc P w base sp held n f.type ((cs.drop f.offset).take (P.cellsOf f.type)) = some (d, q) := by
  obtain ⟨xs, n, rfl, hx, hl, hxl, hall⟩ := DataW.trod_struct ht h
  have h1 := hall j f hf
  have hj : j < fs.size := (Array.getElem?_eq_some_iff.1 hf).1
  obtain ⟨b, hb⟩ : ∃ b, xs[j]? = some b := ⟨xs[j]'(by omega), List.getElem?_eq_getElem (by omega)⟩
  rw [hb] at h1
  have hds : xs.map (·.1) = ds := by
    have := congrArg Prod.fst hx
    simpa using this.symm
  exact ⟨n, b.1, b.2, by rw [← hds]; simp [hb], h1⟩
theorem first_of {cs : List Value} {o : Nat} {v : Value} (h : (cs.drop o).take 1 = [v]) : cs[o]? = some v := by
  have := congrArg (·[0]?) h
  simpa [List.getElem?_take, List.getElem?_drop] using this
theorem int_at {H : Type} {enc : TypeId × Value → H} {base : Nat} {sp : Nat → Bool} {held : Bool} {fuel : Nat} {t : TypeId} {k : IntKind} {z : Int} {cs : List Value} {o : Nat} {q : List MemPlace} (ht : P.underlying t = some (.int k))
    (h : DataW.trod enc P w base sp held fuel t ((cs.drop o).take 1) = some (.lit (.int k z), q)) : cs[o]? = some (.int k z) := by
  obtain ⟨n, hc, hx, _⟩ := DataW.trod_int ht h
  injection hx with hx _
  injection hx with hx
  injection hx with _ hx
  subst hx
  exact first_of hc
theorem bool_at {H : Type} {enc : TypeId × Value → H} {base : Nat} {sp : Nat → Bool} {held : Bool} {fuel : Nat} {t : TypeId} {z : Bool} {cs : List Value} {o : Nat} {q : List MemPlace} (ht : P.underlying t = some .bool)
    (h : DataW.trod enc P w base sp held fuel t ((cs.drop o).take 1) = some (.lit (.bool z), q)) : cs[o]? = some (.bool z) := by
  obtain ⟨n, hc, hx⟩ := DataW.trod_bool ht h
  injection hx with hx _
  injection hx with hx
  injection hx with hx
  subst hx
  exact first_of hc
end

/-! ### the forms -/
def rowD (k : Int) : DataW Unit := .agg [.lit (.int .i64 (fStream k)), .lit (.int .i64 (fValue k)), .lit (.bool (fOnce k)), .lit (.int .u8 (fTyp k)), .lit (.int .u16 (fFlags k))]
set_option maxRecDepth 100000 in
theorem cells1 : Tryd.prog.cellsOf 3 = 1 ∧ Tryd.prog.cellsOf 4 = 1 ∧ Tryd.prog.cellsOf 5 = 1 ∧ Tryd.prog.cellsOf 70 = 1 ∧ Tryd.prog.cellsOf 149 = 5 := by
  refine ⟨?_, ?_, ?_, ?_, ?_⟩ <;> kernel_rfl
theorem formsNamed : Tryd.prog.globalNamed "culvert/lane.forms" = some 3 := by kernel_rfl
theorem formsType : (Tryd.prog.globals[3]?).map (·.type) = some 150 := by kernel_rfl
set_option maxRecDepth 100000 in
theorem row_at {enc : TypeId × Value → Unit} {W : World} {base : Nat} {sp : Nat → Bool} {held : Bool} {fuel : Nat} {k : Int} {cs : List Value} {q : List MemPlace}
    (h : DataW.trod enc Tryd.prog W base sp held fuel 149 cs = some (rowD k, q)) :
    cs[0]? = some (.int .i64 (fStream k)) ∧ cs[1]? = some (.int .i64 (fValue k)) ∧ cs[2]? = some (.bool (fOnce k)) ∧ cs[3]? = some (.int .u8 (fTyp k)) ∧ cs[4]? = some (.int .u16 (fFlags k)) := by
  obtain ⟨c3, c4, c5, c70, _⟩ := cells1
  refine ⟨?_, ?_, ?_, ?_, ?_⟩
  · obtain ⟨n, d, q', hd, h'⟩ := field_at Tryd.underlying149 h (j := 0) rfl
    simp at hd
    subst hd
    exact int_at Tryd.underlying3 (by rw [← c3]; exact h')
  · obtain ⟨n, d, q', hd, h'⟩ := field_at Tryd.underlying149 h (j := 1) rfl
    simp at hd
    subst hd
    exact int_at Tryd.underlying3 (by rw [← c3]; exact h')
  · obtain ⟨n, d, q', hd, h'⟩ := field_at Tryd.underlying149 h (j := 2) rfl
    simp at hd
    subst hd
    exact bool_at Tryd.underlying4 (by rw [← c4]; exact h')
  · obtain ⟨n, d, q', hd, h'⟩ := field_at Tryd.underlying149 h (j := 3) rfl
    simp at hd
    subst hd
    exact int_at Tryd.underlying5 (by rw [← c5]; exact h')
  · obtain ⟨n, d, q', hd, h'⟩ := field_at Tryd.underlying149 h (j := 4) rfl
    simp at hd
    subst hd
    exact int_at Tryd.underlying70 (by rw [← c70]; exact h')
theorem forms_of {W : World} (h : Lib.VarReads Tryd.prog W "culvert/lane.forms" (.agg ((List.range 8).map fun k : Nat => rowD (k : Int)))) : Forms W := by
  obtain ⟨g, t, cs, fuel, p, hg, ht, hv, hd⟩ := h
  obtain rfl := Option.some.inj (formsNamed.symm.trans hg)
  obtain rfl := Option.some.inj (formsType.symm.trans ht)
  have key : ∀ k : Int, 0 ≤ k → k ≤ 7 → ∀ j v, ((cs.toList.drop (k.toNat * 5)).take 5)[j]? = some v → j < 5 → W.cell? ⟨3, k.toNat * 5 + j, none⟩ = some v := by
    intro k h0 h7 j v hj hj5
    rw [World.var?_cell hg hv, ← Array.getElem?_toList]
    rw [List.getElem?_take, if_pos hj5, List.getElem?_drop] at hj
    exact hj
  have all : ∀ k : Int, 0 ≤ k → k ≤ 7 → ∃ n q, DataW.trod (fun _ => ()) Tryd.prog W 0 (fun _ => true) false n 149 ((cs.toList.drop (k.toNat * 5)).take 5) = some (rowD k, q) := by
    intro k h0 h7
    obtain ⟨n, d, q, hds, h'⟩ := Lib.array_elem Tryd.underlying150 hd k.toNat (by omega)
    rw [cells1.2.2.2.2] at h'
    rw [List.getElem?_map, List.getElem?_range (by omega)] at hds
    simp only [Option.map_some, Option.some.injEq] at hds
    rw [show ((k.toNat : Nat) : Int) = k from by omega] at hds
    subst hds
    exact ⟨n, q, h'⟩
  refine ⟨fun k h0 h7 => ?_, fun k h0 h7 => ?_, fun k h0 h7 => ?_, fun k h0 h7 => ?_, fun k h0 h7 => ?_⟩
  all_goals obtain ⟨n, q, h'⟩ := all k h0 h7
  all_goals obtain ⟨r0, r1, r2, r3, r4⟩ := row_at h'
  · exact key k h0 h7 0 _ r0 (by decide)
  · exact key k h0 h7 1 _ r1 (by decide)
  · exact key k h0 h7 2 _ r2 (by decide)
  · exact key k h0 h7 3 _ r3 (by decide)
  · exact key k h0 h7 4 _ r4 (by decide)

/-! ### the sentinels -/
theorem errName : Tryd.prog.typeName? 3 205 = some "*errors.errorString" := by kernel_rfl
theorem errRow (u : TypeId) (h : Tryd.prog.typeName? 3 u = some "*errors.errorString") : u = 205 :=
  typeName_ptr_named (nm := "errors.errorString") (by rw [show "*" ++ "errors.errorString" = "*errors.errorString" by decide]; kernel_rfl) (by kernel_rfl) (by decide) u (by rw [show "*" ++ "errors.errorString" = "*errors.errorString" by decide]; exact h)
set_option maxRecDepth 100000 in
theorem errCells : Tryd.prog.cellsOf 229 = 1 ∧ Tryd.prog.cellsOf 9 = 1 := ⟨by kernel_rfl, by kernel_rfl⟩

/-- The list begins with the forty-two sentinels, in their order. -/
theorem sent_of {W : World} {laid rest : List (String × DataW Unit)} (l : List (String × List UInt8)) (hl : laid = l.map mkS ++ rest) (hlen : l.length = 42)
    (hn : ((List.range 42).all fun i => match l[i]? with | some x => decide (Tryd.prog.globalNamed x.1 = some (gid (i + 1))) | none => false) = true)
    (ht : ((List.range 42).all fun i => decide ((Tryd.prog.globals[gid (i + 1)]?).map (·.type) = some 26)) = true)
    (h : laidMet Tryd.prog laid W) : ∃ E, Sent W E := by
  have hname : ∀ i x, l[i]? = some x → Tryd.prog.globalNamed x.1 = some (gid (i + 1)) := by
    intro i x hx
    have hi : i < 42 := by rw [← hlen]; exact (List.getElem?_eq_some_iff.1 hx).1
    have := List.all_eq_true.1 hn i (List.mem_range.2 hi)
    rw [hx] at this
    simpa using this
  subst hl
  obtain ⟨ps, hv, hnd, hrows⟩ := h
  obtain ⟨adrs, qs, rs, h1, h2, h3, h4⟩ := sents_of_vars (P := Tryd.prog) (w := W) Tryd.underlying26 errRow Tryd.underlying205 Tryd.underlying229 rfl rfl Tryd.underlying9 errCells.1 errCells.2 l rest ps (by
    intro x hx
    obtain ⟨i, hi⟩ := List.mem_iff_getElem?.1 hx
    have hi42 : i < 42 := by rw [← hlen]; exact (List.getElem?_eq_some_iff.1 hi).1
    exact ⟨_, hname i x hi, by simpa using List.all_eq_true.1 ht i (List.mem_range.2 hi42)⟩) hv hrows
  have hnd2 : (adrs.map fun a => MemPlace.cell a.block a.off).Nodup := by
    rw [h2] at hnd
    exact h3.nodup (hnd.sublist (List.sublist_append_left _ _))
  have at' : ∀ n, 1 ≤ n → n ≤ 42 → ∃ a, adrs[n - 1]? = some a ∧ W.cell? ⟨gid n, 0, none⟩ = some (errv a) ∧ ∃ c t, W.heap[a.block]? = some (.cells c t (0, 0)) := by
    intro n h1' h2'
    obtain ⟨x, hx⟩ : ∃ x, l[n - 1]? = some x := ⟨l[n - 1]'(by omega), List.getElem?_eq_getElem (by omega)⟩
    obtain ⟨a, g, ha, hg, hc, hb⟩ := h4 (n - 1) x hx
    have := (hname (n - 1) x hx).symm.trans hg
    injection this with this
    subst this
    rw [show n - 1 + 1 = n from by omega] at hc
    exact ⟨a, ha, hc, hb⟩
  refine ⟨fun n => (adrs[n - 1]?).getD ⟨0, 0, none⟩, fun n a b => ?_, fun n a b => ?_, fun m n a b c d hmn he => ?_⟩
  · obtain ⟨x, hx, hc, _⟩ := at' n a b
    rw [hc, hx]
    rfl
  · obtain ⟨x, hx, _, hb⟩ := at' n a b
    rw [hx]
    exact hb
  · obtain ⟨x, hx, _⟩ := at' m a b
    obtain ⟨y, hy, _⟩ := at' n c d
    simp only [hx, hy, Option.getD_some] at he
    subst he
    have hm : m - 1 < (adrs.map fun a => MemPlace.cell a.block a.off).length := by rw [List.length_map, h1, hlen]; omega
    have hn' : n - 1 < (adrs.map fun a => MemPlace.cell a.block a.off).length := by rw [List.length_map, h1, hlen]; omega
    have hpw := List.pairwise_iff_getElem.1 (List.nodup_iff_pairwise_ne.1 hnd2)
    have heq : (adrs.map fun a => MemPlace.cell a.block a.off)[m - 1] = (adrs.map fun a => MemPlace.cell a.block a.off)[n - 1] := by
      simp only [List.getElem_map]
      obtain ⟨_, e1⟩ := List.getElem?_eq_some_iff.1 hx
      obtain ⟨_, e2⟩ := List.getElem?_eq_some_iff.1 hy
      rw [e1, e2]
    rcases Nat.lt_or_ge (m - 1) (n - 1) with hlt | hge
    · exact hpw _ _ hm hn' hlt heq
    · exact hpw _ _ hn' hm (by omega) heq.symm
end Go.Proofs.YtdeonehebbofiaaDoor
