/-
  culvertlaw16.BacklogOwn: the walk.
-/
import Derived.Test.YtdeonehebbofiaaDoorOrd1
set_option linter.unusedVariables false
namespace Go.Proofs.YtdeonehebbofiaaDoor
open Go.RowKit

/-- Two backlogs (of ids, and an empty one) and rows of numbers. -/
structure FS (w0 w : World) (own ownc : Nat → Prop) (b c : Nat) (ids : List Int) (rs : List (Value × List Int)) : Prop where
  ob : OB w0 w own b ids
  oc : IsBack w ownc c 1024 []
  dis : ∀ k, own k → ¬ ownc k
  farc : ∀ k, ownc k → w0.heap.size ≤ k
  rows : ∀ p ∈ rs, NumRow w p.1 p.2
/-- A block that is none of theirs. -/
structure Safe (w0 : World) (own ownc : Nat → Prop) (rs : List (Value × List Int)) (k : Nat) : Prop where
  o : ¬ own k
  c : ¬ ownc k
  z : w0.heap.size ≤ k
  r : ∀ p ∈ rs, p.1.ownBlock ≠ some k
section
variable {w0 w w' : World} {own ownc S : Nat → Prop} {b c : Nat} {ids : List Int} {rs : List (Value × List Int)}
theorem FS.upd (h : FS w0 w own ownc b c ids rs) (hu : Upd S w w') (hS : ∀ k, S k → Safe w0 own ownc rs k) : FS w0 w' own ownc b c ids rs where
  ob := ⟨h.ob.back.upd hu (fun k hk _ e => (hS k e).o hk), h.ob.low.trans (hu.below h.ob.low.size (fun i hi e => by have := (hS i e).z; omega)), h.ob.far⟩
  oc := h.oc.upd hu (fun k hk _ e => (hS k e).c hk)
  dis := h.dis
  farc := h.farc
  rows := fun p hp => Row.upd (h.rows p hp) hu (fun k hk e => (hS k e).r p hp hk)
theorem FS.same (h : FS w0 w own ownc b c ids rs) (hb : Below w.heap.size w w') : FS w0 w' own ownc b c ids rs := h.upd (Upd.of_below hb (fun _ => False)) (fun _ e => e.elim)
theorem FS.fresh (h : FS w0 w own ownc b c ids rs) {k : Nat} (hk : w.heap.size ≤ k) : Safe w0 own ownc rs k where
  o := fun ho => by have := h.ob.back.lt k ho; omega
  c := fun ho => by have := h.oc.lt k ho; omega
  z := Nat.le_trans h.ob.low.size hk
  r := fun p hp e => by have := Row.lt (h.rows p hp) e; omega
theorem FS.add (h : FS w0 w own ownc b c ids rs) {v : Value} {js : List Int} (hr : NumRow w v js) : FS w0 w own ownc b c ids ((v, js) :: rs) :=
  ⟨h.ob, h.oc, h.dis, h.farc, fun p hp => by
    rcases List.mem_cons.1 hp with rfl | hp
    · exact hr
    · exact h.rows p hp⟩
theorem FS.tail {p : Value × List Int} (h : FS w0 w own ownc b c ids (p :: rs)) : FS w0 w own ownc b c ids rs := ⟨h.ob, h.oc, h.dis, h.farc, fun p hp => h.rows p (List.mem_cons_of_mem _ hp)⟩
theorem FS.head {p : Value × List Int} (h : FS w0 w own ownc b c ids (p :: rs)) : NumRow w p.1 p.2 := h.rows p List.mem_cons_self
/-- The first backlog moves on. -/
theorem FS.to {ids' : List Int} (h : FS w0 w own ownc b c ids []) (hto : BackTo w own b 1024 ids' w') : ∃ own', FS w0 w' own' ownc b c ids' [] := by
  obtain ⟨own', h1, hU, hO⟩ := h.ob.to hto
  refine ⟨own', h1, h.oc.upd hU (fun k hk _ e => h.dis k e hk), fun k hk hc => ?_, h.farc, fun p hp => by cases hp⟩
  rcases hO k hk with h2 | h2
  · exact h.dis k h2 hc
  · have := h.oc.lt k hc
    omega
/-- A row apart from the others grows. -/
theorem FS.grow {W w1 : World} {v v1 : Value} (h : FS w0 W own ownc b c ids rs) (hg : Grew W w1 v v1) (hs : ∀ k, v.ownBlock = some k → Safe w0 own ownc rs k) : FS w0 w1 own ownc b c ids rs ∧ ∀ k, v1.ownBlock = some k → Safe w0 own ownc rs k := by
  refine ⟨h.upd hg.upd (fun k hk => hs k hk.symm), fun k hk => ?_⟩
  rcases hg.own with ho | ho
  · exact hs k (by rw [← ho, hk])
  · rw [hk] at ho
    injection ho with ho
    exact h.fresh (by omega)
end
def ups (z : Int) (k : Nat) : List Int := (List.range k).map fun i : Nat => z + (i : Int)
theorem ups_succ (z : Int) (k : Nat) : ups z (k + 1) = ups z k ++ [z + (k : Int)] := by simp [ups, List.range_succ]
theorem ups_len (z : Int) (k : Nat) : (ups z k).length = k := by simp [ups]
theorem ups_at (z : Int) (k i : Nat) (h : i < k) : (ups z k)[i]? = some (z + (i : Int)) := by simp [ups, h]

theorem NumRow.set' {w : World} {g off cap n i : Nat} {xs : List Int} (h : NumRow w (.slice (some ⟨g, off, none⟩) n cap) xs) (hn : xs.length = n) (hi : i < n) (z : Int) :
    NumRow (w.setCell ⟨g, off + i, none⟩ (.int .u32 z)) (.slice (some ⟨g, off, none⟩) n cap) (xs.set i z) := by
  subst hn
  have := Row.set h (i := i) (by omega) (.int .u32 z)
  unfold NumRow
  rw [List.length_set, ncells, List.map_set]
  exact this

set_option maxRecDepth 100000 in
set_option maxHeartbeats 4000000 in
theorem own_walk (E : Nat → Addr) (w : World) (hS : Sent w E) (a : Option Addr) (cap : Nat) (is : List Int) (h : NumAt w a cap is) :
    Calls Tryd.prog 5 #[.slice a is.length cap] w fun e w' => e = .returned (.bool true) ∧ Below w.heap.size w w' := by
  have hcap := h.le
  have hcm := h.mx
  have hle : is.length ≤ 9223372036854775807 := by unfold maxLen at hcm; omega
  have HA := hide h
  have HS := hide hS
  clear h hS
  go_enter Tryd.func5, Tryd.ntmps5
  go_wp2_with fail
  refine (law16_awake E w HS.out).mono ?_
  rintro e1 w1 ⟨rfl, b1⟩
  have B1 := hide b1
  clear b1
  go_wp2_with fail
  refine (back_new 1024 w1 (by decide) (by decide)).mono ?_
  rintro e2 w2 ⟨own2, b, rfl, h2, f2, b2⟩
  have OB2 := hide (show OB w w2 own2 b [] from ⟨h2, below_then B1.out B1.out.size b2, fun k hk => Nat.le_trans B1.out.size (f2 k hk)⟩)
  clear h2 f2 b2
  go_wp2_with fail
  refine (back_new 1024 w2 (by decide) (by decide)).mono ?_
  rintro e3 w3 ⟨ownc, c, rfl, h3, f3, b3⟩
  have F3 := hide (show FS w w3 own2 ownc b c [] [] from ⟨OB2.out.same b3, h3, fun k hk hc => by have := OB2.out.back.lt k hk; have := f3 k hc; omega, fun k hk => Nat.le_trans OB2.out.low.size (f3 k hk), fun p hp => by cases hp⟩)
  clear h3 f3 b3
  go_wp2
  go_loopw [8] (fun i wr => ∃ (j : Nat) (own : Nat → Prop) (ids : List Int), j ≤ is.length ∧ i = .int .i64 j ∧ FS w wr own ownc b c ids []) (fun i _ => is.length - (intOf i).toNat)
  case atStart => exact ⟨0, own2, [], Nat.zero_le _, rfl, F3.out⟩
  case round =>
    obtain ⟨j, own, ids, hj, rfl, hI⟩ := hrel
    by_cases hlt : j < is.length
    · obtain ⟨lb, off, ha, hlb⟩ := HA.out.pos (by omega)
      subst ha
      obtain ⟨x, hx⟩ : ∃ x, is[j]? = some x := ⟨_, List.getElem?_eq_getElem hlt⟩
      have c0 := (HA.out.below' hI.ob.low).cells lb off rfl j x hx
      have i0 : (0 : Int) ≤ (j : Int) := by omega
      have i1 : (j : Int) < (is.length : Int) := by omega
      have HX := hide hx
      have HI := hide hI
      clear hx hI
      go_wp2_with fail
      refine (back_put HI.out.ob.back (HS.out.belows HI.out.ob.low) x).mono ?_
      rintro e4 w4 ⟨rfl, hto⟩
      obtain ⟨own4, h4⟩ := HI.out.to hto
      have c4 := (HA.out.below' h4.ob.low).cells lb off rfl j x HX.out
      have H4 := hide h4
      clear hto h4
      generalize errOf E (bput 1024 ids x).2 = er
      go_wp2_with fail
      refine (back_put_nil x w4 (HS.out.belows H4.out.ob.low)).mono ?_
      rintro e5 w5 ⟨rfl, rfl⟩
      go_wp2_with fail
      refine (code_le E w4 (HS.out.belows H4.out.ob.low) 1 (by decide)).mono ?_
      rintro e6 w6 ⟨rfl, rfl⟩
      go_wp2_with fail
      refine (back_has_nil x w4).mono ?_
      rintro e7 w7 ⟨rfl, b7⟩
      have h7 := H4.out.same b7
      have c7 := (HA.out.below' h7.ob.low).cells lb off rfl j x HX.out
      have H7 := hide h7
      clear b7 h7
      go_wp2_with fail
      refine (back_remove_nil x w7).mono ?_
      rintro e8 w8 ⟨rfl, b8⟩
      have H8 := hide (H7.out.same b8)
      clear b8
      go_wp2
      go_roundw
      case rel => exact ⟨j + 1, own4, _, by omega, by go_num, H8.out⟩
      case measure => simp [intOf]; omega
    · obtain rfl : j = is.length := by omega
      have hn : ids.length ≤ 1024 := hI.ob.le
      have HI := hide hI
      clear hI hlt
      go_wp2_with fail
      refine (back_list HI.out.ob.back).mono ?_
      rintro e4 w4 ⟨v4, rfl, r4, f4, b4⟩
      obtain ⟨xa, xc, hv4, hx1, hx2⟩ := Row.form r4
      subst hv4
      have H4 := hide ((HI.out.same b4).add r4)
      have S4 := hide (show ∀ k, (Value.slice xa ids.length xc).ownBlock = some k → Safe w own ownc [] k from fun k hk => HI.out.fresh (f4 k hk))
      clear r4 f4 b4
      go_wp2_with fail
      refine (back_list H4.out.ob.back).mono ?_
      rintro e5 w5 ⟨v5, rfl, r5, f5, b5⟩
      obtain ⟨ya, yc, hv5, hy1, hy2⟩ := Row.form r5
      subst hv5
      have H5 := hide ((H4.out.same b5).add r5)
      have S5 := hide (show ∀ k, (Value.slice ya ids.length yc).ownBlock = some k → Safe w own ownc [(.slice xa ids.length xc, ids)] k from fun k hk => H4.out.fresh (f5 k hk))
      clear r5 f5 b5
      go_wp2_with fail
      refine (back_len H5.out.ob.back).mono ?_
      rintro e6 w6 ⟨rfl, rfl⟩
      go_wp2_with (at_builtin; refine wait ?_)
      unfold Wait
      refine wpList_app_nums rfl _ _ rfl (.slice (some ⟨w5.heap.size, 0, none⟩) 0 0) (.slice xa ids.length xc) [] ids rfl (NumRow.of0 (new1 w5 _)) rfl ((H5.out.tail.head).alloc _) (by simp; omega) ?_
      intro za zc w6 hr6 hg6
      rw [List.length_nil, Nat.zero_add] at *
      rw [List.nil_append] at hr6
      have hf6 := hg6.fresh (w0 := w5) (below_alloc (Below.refl _ w5) _) (fun b hb => by simp [Value.ownBlock] at hb; omega)
      have H6 := hide ((H5.out.same hf6.1).add hr6)
      have S6 := hide (show ∀ k, (Value.slice za ids.length zc).ownBlock = some k → Safe w own ownc [(.slice ya ids.length yc, ids), (.slice xa ids.length xc, ids)] k from fun k hk => H5.out.fresh (hf6.2 k hk))
      clear hr6 hg6 hf6
      go_wp2_with fail
      refine (same_numbers H6.out.tail.tail.head H6.out.tail.head).mono ?_
      rintro e7 w7 ⟨rfl, b7⟩
      rw [decide_eq_true rfl]
      have H7 := hide (H6.out.same b7)
      clear b7
      go_wp2
      have H8 := hide (show FS w w7 own ownc b c ids [(.slice za ids.length zc, ids), (.slice ya ids.length yc, ids)] from ⟨H7.out.ob, H7.out.oc, H7.out.dis, H7.out.farc, fun p hp => H7.out.rows p (by simp at hp ⊢; rcases hp with h | h <;> simp [h])⟩)
      have RX := hide H7.out.tail.tail.head
      have SX := hide (show ∀ k, (Value.slice xa ids.length xc).ownBlock = some k → Safe w own ownc [(.slice za ids.length zc, ids), (.slice ya ids.length yc, ids)] k from fun k hk => ⟨(S4.out k hk).o, (S4.out k hk).c, (S4.out k hk).z, fun p hp e => by
        simp at hp
        rcases hp with rfl | rfl
        · exact (S6.out k e).r (.slice xa ids.length xc, ids) (by simp) hk
        · exact (S5.out k e).r (.slice xa ids.length xc, ids) (by simp) hk⟩)
      have SY := hide (show ∀ k, (Value.slice ya ids.length yc).ownBlock = some k → Safe w own ownc [(.slice za ids.length zc, ids)] k from fun k hk => ⟨(S5.out k hk).o, (S5.out k hk).c, (S5.out k hk).z, fun p hp e => by
        simp at hp
        subst hp
        exact (S6.out k e).r (.slice ya ids.length yc, ids) (by simp) hk⟩)
      clear H7 S4 S5 S6 H4 H5 H6
      go_loopw [13] (fun i wr => ∃ (j : Nat) (xs : List Int), j ≤ ids.length ∧ i = .int .i64 j ∧ xs.length = ids.length ∧ FS w wr own ownc b c ids [(.slice za ids.length zc, ids), (.slice ya ids.length yc, ids)] ∧ NumRow wr (.slice xa ids.length xc) xs) (fun i _ => ids.length - (intOf i).toNat)
      case atStart => exact ⟨0, ids, Nat.zero_le _, rfl, rfl, H8.out, RX.out⟩
      case round =>
        obtain ⟨j, xs, hj, rfl, hxl, hI, hR⟩ := hrel
        by_cases hlt : j < ids.length
        · have hR' : Row wr 34 1 (.slice xa ids.length xc) ids.length (ncells xs) := by unfold NumRow at hR; rwa [hxl] at hR
          obtain ⟨mb, mo, mc, hm, hm1, _, hmo, hmb⟩ := Row.begins hR' (by omega)
          injection hm with e1 e2 e3
          clear e2
          subst e1; subst e3
          obtain ⟨q, hq⟩ : ∃ q, xs[j]? = some q := ⟨_, List.getElem?_eq_getElem (by omega)⟩
          have d0 : wr.cell? ⟨mb, mo + j, none⟩ = some (.int .u32 q) := by
            rw [Row.cell hR' (by omega)]
            simp [ncells, hq]
          have df : wr.frozen? ⟨mb, mo + j, none⟩ = false := Row.frozen hR' _
          have i0 : (0 : Int) ≤ (j : Int) := by omega
          have i1 : (j : Int) < (ids.length : Int) := by omega
          have i2 : (j : Int) < 1024 := by omega
          have HI := hide hI
          have HR := hide hR
          have HXL := hide hxl
          have HOB := hide hmo
          clear hI hR hR' hxl hq hmo hm1
          go_wp2
          go_roundw
          case rel => exact ⟨j + 1, _, by omega, by go_num, by rw [List.length_set]; exact HXL.out, HI.out.upd ((Upd.refl (fun k => k = mb) wr).setCell (p := ⟨mb, mo + j, none⟩) (.inl rfl) _) (fun k hk => SX.out k (by rw [hk]; rfl)), NumRow.set' HR.out HXL.out hlt _⟩
          case measure => simp [intOf]; omega
        · obtain rfl : j = ids.length := by omega
          have HI := hide hI
          have HR := hide hR
          have HXL := hide hxl
          clear hI hR hlt hxl
          go_wp2_with fail
          refine (same_numbers HI.out.tail.head HI.out.head).mono ?_
          rintro e8 w8 ⟨rfl, b8⟩
          rw [decide_eq_true rfl]
          have H9 := hide (HI.out.same b8)
          have R9 := hide (HR.out.below' b8)
          clear b8
          go_wp2
          go_loopw [14, 15] (fun gv i wr => ∃ (j : Nat), j ≤ 40 ∧ i = .int .i64 j ∧ FS w wr own ownc b c ids [(.slice za ids.length zc, ids), (.slice ya ids.length yc, ids)] ∧ NumRow wr gv (xs ++ ups 4100000000 j) ∧ ∀ k, gv.ownBlock = some k → Safe w own ownc [(.slice za ids.length zc, ids), (.slice ya ids.length yc, ids)] k) (fun _ i _ => 40 - (intOf i).toNat)
          case atStart => exact ⟨0, by omega, rfl, H9.out, by simpa [ups] using R9.out, SX.out⟩
          case round =>
            obtain ⟨j, hj, rfl, hI, hR, hF⟩ := hrel
            have hgl : (xs ++ ups 4100000000 j).length = ids.length + j := by rw [List.length_append, ups_len, HXL.out]
            obtain ⟨ga, gc, hgv, _, _⟩ := Row.form hR
            rw [hgl] at hgv
            subst hgv
            by_cases hlt : j < 40
            · have i0 : (0 : Int) ≤ (j : Int) := by omega
              have i1 : (j : Int) < 40 := by omega
              have HI := hide hI
              have HR := hide hR
              have HF := hide hF
              have HGL := hide hgl
              clear hI hR hF hgl
              go_wp2_with (at_builtin; refine wait ?_)
              unfold Wait
              refine wpList_app_nums rfl _ _ rfl (.slice ga (ids.length + j) gc) (.slice (some ⟨wr.heap.size, 0, none⟩) 1 1) (xs ++ ups 4100000000 j) [4100000000 + (j : Int)] rfl (HR.out.alloc _) rfl (NumRow.of1 (new1 wr _)) (by rw [HGL.out]; simp; omega) ?_
              intro ga2 gc2 w9 hr9 hg9
              rw [show (xs ++ ups 4100000000 j).length + [4100000000 + (j : Int)].length = ids.length + (j + 1) by rw [HGL.out]; simp; omega] at *
              obtain ⟨h9, hs9⟩ := (HI.out.same (below_alloc (Below.refl _ wr) _)).grow hg9 HF.out
              have HI9 := hide h9
              have HF9 := hide hs9
              have HR9 := hide (show NumRow w9 _ (xs ++ ups 4100000000 (j + 1)) by rw [ups_succ, ← List.append_assoc]; exact hr9)
              clear hr9 hg9 h9 hs9
              go_wp2
              go_roundw
              case rel => exact ⟨j + 1, by omega, by go_num, HI9.out, HR9.out, HF9.out⟩
              case measure => simp [intOf]; omega
            · obtain rfl : j = 40 := by omega
              have HI := hide hI
              have HR := hide hR
              have HF := hide hF
              have HGL := hide hgl
              clear hI hR hF hlt hgl
              have H10 := hide (show FS w wr own ownc b c ids [(.slice ga (ids.length + 40) gc, xs ++ ups 4100000000 40), (.slice za ids.length zc, ids)] from ⟨HI.out.ob, HI.out.oc, HI.out.dis, HI.out.farc, fun p hp => by
                simp at hp
                rcases hp with rfl | rfl
                · exact HR.out
                · exact HI.out.head⟩)
              have RY := hide HI.out.tail.head
              have SY2 := hide (show ∀ k, (Value.slice ya ids.length yc).ownBlock = some k → Safe w own ownc [(.slice ga (ids.length + 40) gc, xs ++ ups 4100000000 40), (.slice za ids.length zc, ids)] k from fun k hk => ⟨(SY.out k hk).o, (SY.out k hk).c, (SY.out k hk).z, fun p hp e => by
                simp at hp
                rcases hp with rfl | rfl
                · exact (HF.out k e).r (.slice ya ids.length yc, ids) (by simp) hk
                · exact (SY.out k hk).r _ (by simp) e⟩)
              clear HI HR HF SY SX
              go_wp2
              go_loopw [16, 17] (fun hv i wr => ∃ (j : Nat), j ≤ 40 ∧ i = .int .i64 j ∧ FS w wr own ownc b c ids [(.slice ga (ids.length + 40) gc, xs ++ ups 4100000000 40), (.slice za ids.length zc, ids)] ∧ NumRow wr hv (ids ++ ups 4200000000 j) ∧ ∀ k, hv.ownBlock = some k → Safe w own ownc [(.slice ga (ids.length + 40) gc, xs ++ ups 4100000000 40), (.slice za ids.length zc, ids)] k) (fun _ i _ => 40 - (intOf i).toNat)
              case atStart => exact ⟨0, by omega, rfl, H10.out, by simpa [ups] using RY.out, SY2.out⟩
              case round =>
                obtain ⟨j, hj, rfl, hI, hR, hF⟩ := hrel
                have hgl : (ids ++ ups 4200000000 j).length = ids.length + j := by rw [List.length_append, ups_len]
                obtain ⟨ha, hc, hgv, _, _⟩ := Row.form hR
                rw [hgl] at hgv
                subst hgv
                by_cases hlt : j < 40
                · have i0 : (0 : Int) ≤ (j : Int) := by omega
                  have i1 : (j : Int) < 40 := by omega
                  have HI := hide hI
                  have HR := hide hR
                  have HF := hide hF
                  have HGL2 := hide hgl
                  clear hI hR hF hgl
                  go_wp2_with (at_builtin; refine wait ?_)
                  unfold Wait
                  refine wpList_app_nums rfl _ _ rfl (.slice ha (ids.length + j) hc) (.slice (some ⟨wr.heap.size, 0, none⟩) 1 1) (ids ++ ups 4200000000 j) [4200000000 + (j : Int)] rfl (HR.out.alloc _) rfl (NumRow.of1 (new1 wr _)) (by rw [HGL2.out]; simp; omega) ?_
                  intro ga2 gc2 w9 hr9 hg9
                  rw [show (ids ++ ups 4200000000 j).length + [4200000000 + (j : Int)].length = ids.length + (j + 1) by rw [HGL2.out]; simp; omega] at *
                  obtain ⟨h9, hs9⟩ := (HI.out.same (below_alloc (Below.refl _ wr) _)).grow hg9 HF.out
                  have HI9 := hide h9
                  have HF9 := hide hs9
                  have HR9 := hide (show NumRow w9 _ (ids ++ ups 4200000000 (j + 1)) by rw [ups_succ, ← List.append_assoc]; exact hr9)
                  clear hr9 hg9 h9 hs9
                  go_wp2
                  go_roundw
                  case rel => exact ⟨j + 1, by omega, by go_num, HI9.out, HR9.out, HF9.out⟩
                  case measure => simp [intOf]; omega
                · obtain rfl : j = 40 := by omega
                  have HI := hide hI
                  have HR := hide hR
                  have HGL2 := hide hgl
                  clear hI hR hF hlt hgl SY2 H10
                  go_wp2
                  go_loopw [18] (fun i wx => ∃ (j : Nat), j ≤ 40 ∧ i = .int .i64 j ∧ wx = wr) (fun i _ => 40 - (intOf i).toNat)
                  case atStart => exact ⟨0, by omega, rfl, rfl⟩
                  case round =>
                    obtain ⟨j, hj, rfl, rfl⟩ := hrel
                    by_cases hlt : j < 40
                    · have i0 : (0 : Int) ≤ (j : Int) := by omega
                      have i1 : (j : Int) < 40 := by omega
                      have rg : Row wr 34 1 (.slice ga (ids.length + 40) gc) (ids.length + 40) (ncells (xs ++ ups 4100000000 40)) := by have := HI.out.head; unfold NumRow at this; rwa [HGL.out] at this
                      have rh : Row wr 34 1 (.slice ha (ids.length + 40) hc) (ids.length + 40) (ncells (ids ++ ups 4200000000 40)) := by have := HR.out; unfold NumRow at this; rwa [HGL2.out] at this
                      obtain ⟨gb, go, gk, hm, _, _, _, hgb⟩ := rg.begins (by omega)
                      injection hm with e1 e2 e3
                      clear e2
                      subst e1; subst e3
                      obtain ⟨hb, ho, hk, hm', _, _, _, hhb⟩ := rh.begins (by omega)
                      injection hm' with e1 e2 e3
                      clear e2
                      subst e1; subst e3
                      have d0 : wr.cell? ⟨gb, go + (ids.length + j), none⟩ = some (.int .u32 (4100000000 + (j : Int))) := by
                        rw [rg.cell (by omega), ncells, List.getElem?_map, List.getElem?_append_right (by rw [HXL.out]; omega), HXL.out, show ids.length + j - ids.length = j by omega, ups_at _ _ _ hlt]
                        rfl
                      have d1 : wr.cell? ⟨hb, ho + (ids.length + j), none⟩ = some (.int .u32 (4200000000 + (j : Int))) := by
                        rw [rh.cell (by omega), ncells, List.getElem?_map, List.getElem?_append_right (by omega), show ids.length + j - ids.length = j by omega, ups_at _ _ _ hlt]
                        rfl
                      have i2 : (0 : Int) ≤ (ids.length : Int) + (j : Int) := by omega
                      have i3 : (ids.length : Int) + (j : Int) < ((ids.length + 40 : Nat) : Int) := by omega
                      have i4 : ((ids.length : Int) + (j : Int)).toNat = ids.length + j := by omega
                      clear rg rh
                      go_wp2
                      go_roundw
                      case rel => exact ⟨j + 1, by omega, by go_num, trivial⟩
                      case measure => simp [intOf]; omega
                    · obtain rfl : j = 40 := by omega
                      clear hlt
                      go_wp2_with fail
                      refine (back_take_nil _).mono ?_
                      rintro e10 w10 ⟨rfl, rfl⟩
                      go_wp2_with fail
                      refine (back_head_nil _).mono ?_
                      rintro e11 w11 ⟨rfl, rfl⟩
                      go_wp2_with fail
                      refine (back_list HI.out.ob.back).mono ?_
                      rintro e12 w12 ⟨v12, rfl, r12, f12, b12⟩
                      obtain ⟨a12, c12, hv12, _, _⟩ := Row.form r12
                      subst hv12
                      have H12 := hide (HI.out.same b12)
                      have R12 := hide r12
                      clear r12 f12 b12
                      go_wp2_with fail
                      refine (same_numbers R12.out H12.out.tail.head).mono ?_
                      rintro e13 w13 ⟨rfl, b13⟩
                      rw [decide_eq_true rfl]
                      have H13 := hide (H12.out.same b13)
                      clear b13
                      go_wp2_with fail
                      refine (back_len H13.out.oc).mono ?_
                      rintro e14 w14 ⟨rfl, rfl⟩
                      simp only [List.length_nil]
                      go_wp2_with fail
                      refine (back_len_nil _).mono ?_
                      rintro e15 w15 ⟨rfl, rfl⟩
                      go_wp2_with fail
                      refine (back_clear_nil _).mono ?_
                      rintro e16 w16 ⟨rfl, rfl⟩
                      go_wp2_with fail
                      refine (back_list_nil _).mono ?_
                      rintro e17 w17 ⟨rfl, b17⟩
                      have H17 := hide (H13.out.same b17)
                      clear b17
                      go_wp2
                      go_ret
                      exact ⟨rfl, H17.out.ob.low⟩
end Go.Proofs.YtdeonehebbofiaaDoor
