/-
  culvertlaw16.BacklogOrder: the walk.
-/
import Derived.Test.YtdeonehebbofiaaDoorOrd0
set_option linter.unusedVariables false
namespace Go.Proofs.YtdeonehebbofiaaDoor
open Go.RowKit

/-- A backlog in a law: what was there when the law began is as it was. -/
structure OB (w0 w : World) (own : Nat → Prop) (b : Nat) (ids : List Int) : Prop where
  back : IsBack w own b 1024 ids
  low : Below w0.heap.size w0 w
  far : ∀ k, own k → w0.heap.size ≤ k
section
variable {w0 w w' : World} {own : Nat → Prop} {b : Nat} {ids ids' : List Int}
theorem OB.same (h : OB w0 w own b ids) (hb : Below w.heap.size w w') : OB w0 w' own b ids := ⟨h.back.same hb, below_then h.low h.low.size hb, h.far⟩
theorem OB.to (h : OB w0 w own b ids) (hto : BackTo w own b 1024 ids' w') : ∃ own', OB w0 w' own' b ids' ∧ Upd own w w' ∧ ∀ k, own' k → own k ∨ w.heap.size ≤ k := by
  obtain ⟨own', hI, hU, hO⟩ := hto
  refine ⟨own', ⟨hI, h.low.trans (hU.below h.low.size (fun i hi e => by have := h.far i e; omega)), fun k hk => ?_⟩, hU, hO⟩
  rcases hO k hk with h1 | h1
  · exact h.far k h1
  · have := h.low.size
    omega
theorem OB.le (h : OB w0 w own b ids) : ids.length ≤ 1024 := by
  obtain ⟨g, lv, hb⟩ := h.back
  have := hb.le
  omega
theorem OB.nd (h : OB w0 w own b ids) : ids.Nodup := by
  obtain ⟨g, lv, hb⟩ := h.back
  exact hb.nd
end
theorem filter_len (ids : List Int) (id : Int) (hn : ids.Nodup) (h : id ∈ ids) : (ids.filter (fun x => !(x == id))).length + 1 = ids.length := by
  induction ids with
  | nil => cases h
  | cons t ts ih =>
    obtain ⟨n1, n2⟩ := List.nodup_cons.1 hn
    by_cases ht : t = id
    · subst ht
      have : ts.filter (fun x => !(x == t)) = ts := by
        rw [List.filter_eq_self]
        intro x hx
        simp
        rintro rfl
        exact n1 hx
      simp [this]
    · have hm : id ∈ ts := by
        rcases List.mem_cons.1 h with h | h
        · exact absurd h.symm ht
        · exact h
      have := ih n2 hm
      simp [ht]
      omega
theorem filter_none (ids : List Int) (id : Int) (h : id ∉ ids) : ids.filter (fun x => !(x == id)) = ids := by
  rw [List.filter_eq_self]
  intro x hx
  simp
  rintro rfl
  exact h hx

set_option maxRecDepth 100000 in
set_option maxHeartbeats 4000000 in
theorem order_walk (E : Nat → Addr) (w : World) (hS : Sent w E) (a : Option Addr) (cap : Nat) (is : List Int) (h : NumAt w a cap is) (a' : Option Addr) (cap' : Nat) (gs : List Int) (h' : NumAt w a' cap' gs) :
    Calls Tryd.prog 4 #[.slice a is.length cap, .slice a' gs.length cap'] w fun e w' => e = .returned (.bool true) ∧ Below w.heap.size w w' := by
  have hcap := h.le
  have hcm := h.mx
  have hle : is.length ≤ 9223372036854775807 := by unfold maxLen at hcm; omega
  have hcap' := h'.le
  have hcm' := h'.mx
  have hle' : gs.length ≤ 9223372036854775807 := by unfold maxLen at hcm'; omega
  have HA := hide h
  have HG := hide h'
  have HS := hide hS
  clear h h' hS
  go_enter Tryd.func4, Tryd.ntmps4
  go_wp2_with fail
  refine (law16_awake E w HS.out).mono ?_
  rintro e1 w1 ⟨rfl, b1⟩
  have B1 := hide b1
  clear b1
  go_wp2_with fail
  refine (back_new 1024 w1 (by decide) (by decide)).mono ?_
  rintro e2 w2 ⟨own2, b, rfl, h2, f2, b2⟩
  have OB2 := hide (show OB w w2 own2 b [] from ⟨h2, below_then B1.out B1.out.size b2, fun k hk => Nat.le_trans B1.out.size (f2 k hk)⟩)
  clear h2 f2 b2
  go_wp2
  go_loopw [7, 8] (fun nv i wr => ∃ (j : Nat) (own : Nat → Prop) (ids : List Int), j ≤ is.length ∧ nv = .int .i64 ids.length ∧ i = .int .i64 j ∧ OB w wr own b ids ∧ ids.Sublist (is.take j)) (fun _ i _ => is.length - (intOf i).toNat)
  case atStart => exact ⟨0, own2, [], Nat.zero_le _, rfl, rfl, OB2.out, by simp⟩
  case round =>
    obtain ⟨j, own, ids, hj, rfl, rfl, hI, hsub⟩ := hrel
    have hlen := hI.le
    by_cases hlt : j < is.length
    · obtain ⟨lb, off, ha, hlb⟩ := HA.out.pos (by omega)
      subst ha
      obtain ⟨x, hx⟩ : ∃ x, is[j]? = some x := ⟨_, List.getElem?_eq_getElem hlt⟩
      have c0 := (HA.out.below' hI.low).cells lb off rfl j x hx
      have HTK := hide (show is.take (j + 1) = is.take j ++ [x] by rw [List.take_add_one, hx]; rfl)
      have i0 : (0 : Int) ≤ (j : Int) := by omega
      have i1 : (j : Int) < (is.length : Int) := by omega
      have HX := hide hx
      have HLB := hide hlb
      have HI := hide hI
      have HSB := hide hsub
      clear hx hI hsub
      by_cases hm : x ∈ ids
      · have HP := hide (show bput 1024 ids x = (ids, 8) from if_pos hm)
        have HM := hide (decide_eq_true hm)
        clear hm
        go_wp2_with fail
        refine (back_has HI.out.back x).mono ?_
        rintro e3 w3 ⟨rfl, b3⟩
        rw [HM.out]
        have h3 := HI.out.same b3
        have c3 := (HA.out.below' h3.low).cells lb off rfl j x HX.out
        have H3 := hide h3
        clear b3 h3
        go_wp2_with fail
        refine (back_put H3.out.back (HS.out.belows H3.out.low) x).mono ?_
        rintro e4 w4 ⟨rfl, hto⟩
        rw [HP.out] at hto ⊢
        obtain ⟨own4, h4, _, _⟩ := H3.out.to hto
        have H4 := hide h4
        clear hto h4
        go_wp2_with fail
        refine (code_le E w4 (HS.out.belows H4.out.low) 8 (by decide)).mono ?_
        rintro e5 w5 ⟨rfl, rfl⟩
        go_wp2
        go_roundw
        case rel => exact ⟨j + 1, own4, ids, by omega, rfl, by go_num, H4.out, by rw [HTK.out]; exact HSB.out.trans (List.sublist_append_left _ _)⟩
        case measure => simp [intOf]; omega
      · by_cases hf : ids.length = 1024
        · have HP := hide (show bput 1024 ids x = (ids, 6) by unfold bput; rw [if_neg hm, if_pos (by omega)])
          have hn : ((ids.length : Int) == 1024) = true := by rw [hf]; rfl
          have HM := hide (decide_eq_false hm)
          have HFF := hide hf
          have hnl : ¬ (ids.length : Int) < 1024 := by omega
          clear hm hf
          go_wp2_with fail
          refine (back_has HI.out.back x).mono ?_
          rintro e3 w3 ⟨rfl, b3⟩
          rw [HM.out]
          have h3 := HI.out.same b3
          have c3 := (HA.out.below' h3.low).cells lb off rfl j x HX.out
          have H3 := hide h3
          clear b3 h3
          go_wp2_with fail
          refine (back_put H3.out.back (HS.out.belows H3.out.low) x).mono ?_
          rintro e4 w4 ⟨rfl, hto⟩
          rw [HP.out] at hto ⊢
          obtain ⟨own4, h4, _, _⟩ := H3.out.to hto
          have H4 := hide h4
          clear hto h4
          go_wp2_with fail
          refine (code_le E w4 (HS.out.belows H4.out.low) 6 (by decide)).mono ?_
          rintro e5 w5 ⟨rfl, rfl⟩
          go_wp2
          go_roundw
          case rel => exact ⟨j + 1, own4, ids, by omega, rfl, by go_num, H4.out, by rw [HTK.out]; exact HSB.out.trans (List.sublist_append_left _ _)⟩
          case measure => simp [intOf]; omega
        · have HP := hide (show bput 1024 ids x = (ids ++ [x], 0) by unfold bput; rw [if_neg hm, if_neg (by omega)])
          have hn : ((ids.length : Int) == 1024) = false := by rw [beq_eq_false_iff_ne]; omega
          have hnl : (ids.length : Int) < 1024 := by omega
          have HM := hide (decide_eq_false hm)
          clear hm hf
          go_wp2_with fail
          refine (back_has HI.out.back x).mono ?_
          rintro e3 w3 ⟨rfl, b3⟩
          rw [HM.out]
          have h3 := HI.out.same b3
          have c3 := (HA.out.below' h3.low).cells lb off rfl j x HX.out
          have H3 := hide h3
          clear b3 h3
          go_wp2_with fail
          refine (back_put H3.out.back (HS.out.belows H3.out.low) x).mono ?_
          rintro e4 w4 ⟨rfl, hto⟩
          rw [HP.out] at hto ⊢
          obtain ⟨own4, h4, _, _⟩ := H3.out.to hto
          have H4 := hide h4
          clear hto h4
          go_wp2_with fail
          refine (code_le E w4 (HS.out.belows H4.out.low) 0 (by decide)).mono ?_
          rintro e5 w5 ⟨rfl, rfl⟩
          go_wp2
          go_roundw
          case rel => exact ⟨j + 1, own4, ids ++ [x], by omega, by simp, by go_num, H4.out, by rw [HTK.out]; exact List.Sublist.append HSB.out (List.Sublist.refl _)⟩
          case measure => simp [intOf]; omega
    · obtain rfl : j = is.length := by omega
      rw [List.take_length] at hsub
      have HI := hide hI
      have HSB := hide hsub
      clear hI hsub hlt
      go_wp2
      go_loopw [7, 11] (fun nv i wr => ∃ (j : Nat) (own : Nat → Prop) (ids : List Int), j ≤ gs.length ∧ nv = .int .i64 ids.length ∧ i = .int .i64 j ∧ OB w wr own b ids ∧ ids.Sublist is) (fun _ i _ => gs.length - (intOf i).toNat)
      case atStart => exact ⟨0, own, ids, Nat.zero_le _, rfl, rfl, HI.out, HSB.out⟩
      case round =>
        obtain ⟨j, own, ids, hj, rfl, rfl, hI, hsub⟩ := hrel
        have hlen := hI.le
        by_cases hlt : j < gs.length
        · obtain ⟨lb, off, ha, hlb⟩ := HG.out.pos (by omega)
          subst ha
          obtain ⟨x, hx⟩ : ∃ x, gs[j]? = some x := ⟨_, List.getElem?_eq_getElem hlt⟩
          have c0 := (HG.out.below' hI.low).cells lb off rfl j x hx
          have i0 : (0 : Int) ≤ (j : Int) := by omega
          have i1 : (j : Int) < (gs.length : Int) := by omega
          have HX := hide hx
          have HLB := hide hlb
          have HI := hide hI
          have HSB := hide hsub
          obtain ⟨fs, hfs⟩ : ∃ fs, ids.filter (fun y => !(y == x)) = fs := ⟨_, rfl⟩
          have HF := hide hfs
          have HNI := hide (show x ∉ fs by rw [← hfs]; simp)
          have HFS := hide (show fs.Sublist is by rw [← hfs]; exact List.filter_sublist.trans hsub)
          have HFL := hide (show x ∈ ids → fs.length + 1 = ids.length from fun hm => by rw [← hfs]; exact filter_len ids x hI.nd hm)
          have HFN := hide (show x ∉ ids → fs = ids from fun hm => by rw [← hfs]; exact filter_none ids x hm)
          clear hx hI hsub hfs
          by_cases hm : x ∈ ids
          · have hfl := HFL.out hm
            have HM := hide (decide_eq_true hm)
            clear hm
            go_wp2_with fail
            refine (back_has HI.out.back x).mono ?_
            rintro e3 w3 ⟨rfl, b3⟩
            rw [HM.out]
            have h3 := HI.out.same b3
            have c3 := (HG.out.below' h3.low).cells lb off rfl j x HX.out
            have H3 := hide h3
            clear b3 h3
            go_wp2_with fail
            refine (back_remove H3.out.back x).mono ?_
            rintro e4 w4 ⟨rfl, hto⟩
            rw [HM.out]
            rw [HF.out] at hto
            obtain ⟨own4, h4, _, _⟩ := H3.out.to hto
            have c4 := (HG.out.below' h4.low).cells lb off rfl j x HX.out
            have H4 := hide h4
            clear hto h4
            go_wp2_with fail
            refine (back_has H4.out.back x).mono ?_
            rintro e5 w5 ⟨rfl, b5⟩
            rw [decide_eq_false HNI.out]
            have H5 := hide (H4.out.same b5)
            clear b5
            go_wp2
            go_roundw
            case rel => exact ⟨j + 1, own4, fs, by omega, by rw [show (fs.length : Int) = (ids.length : Int) - 1 by omega], by go_num, H5.out, HFS.out⟩
            case measure => simp [intOf]; omega
          · have hfn := HFN.out hm
            subst hfn
            have HM := hide (decide_eq_false hm)
            clear hm
            go_wp2_with fail
            refine (back_has HI.out.back x).mono ?_
            rintro e3 w3 ⟨rfl, b3⟩
            rw [HM.out]
            have h3 := HI.out.same b3
            have c3 := (HG.out.below' h3.low).cells lb off rfl j x HX.out
            have H3 := hide h3
            clear b3 h3
            go_wp2_with fail
            refine (back_remove H3.out.back x).mono ?_
            rintro e4 w4 ⟨rfl, hto⟩
            rw [HM.out]
            rw [HF.out] at hto
            obtain ⟨own4, h4, _, _⟩ := H3.out.to hto
            have c4 := (HG.out.below' h4.low).cells lb off rfl j x HX.out
            have H4 := hide h4
            clear hto h4
            go_wp2_with fail
            refine (back_has H4.out.back x).mono ?_
            rintro e5 w5 ⟨rfl, b5⟩
            rw [decide_eq_false HNI.out]
            have H5 := hide (H4.out.same b5)
            clear b5
            go_wp2
            go_roundw
            case rel => exact ⟨j + 1, own4, fs, by omega, rfl, by go_num, H5.out, HFS.out⟩
            case measure => simp [intOf]; omega
        · obtain rfl : j = gs.length := by omega
          have HI := hide hI
          have HSB := hide hsub
          clear hI hsub hlt
          go_wp2_with fail
          refine (back_list HI.out.back).mono ?_
          rintro e3 w3 ⟨v3, rfl, r3, f3, b3⟩
          obtain ⟨la, lc, hv3, hl1, hl2⟩ := Row.form r3
          subst hv3
          have hle3 : ids.length ≤ 9223372036854775807 := by omega
          have H3 := hide (HI.out.same b3)
          have R3 := hide r3
          have RF := hide (show ∀ k, (Value.slice la ids.length lc).ownBlock = some k → ¬ own k from fun k hk ho => by have := f3 k hk; have := HI.out.back.lt k ho; omega)
          clear r3 f3 b3
          go_wp2_with fail
          refine (back_len H3.out.back).mono ?_
          rintro e4 w4 ⟨rfl, rfl⟩
          go_wp2
          go_loopw [14] (fun i wr => ∃ (j : Nat) (own : Nat → Prop), j ≤ ids.length ∧ i = .int .i64 j ∧ OB w wr own b (ids.drop j) ∧ NumRow wr (.slice la ids.length lc) ids ∧ (∀ k, (Value.slice la ids.length lc).ownBlock = some k → ¬ own k)) (fun i _ => ids.length - (intOf i).toNat)
          case atStart => exact ⟨0, own, Nat.zero_le _, rfl, by simpa using H3.out, R3.out, RF.out⟩
          case round =>
            obtain ⟨j, own, hj, rfl, hI, hR, hF⟩ := hrel
            by_cases hlt : j < ids.length
            · obtain ⟨mb, mo, mc, hm, _, _, _, hmb⟩ := Row.begins hR (by omega)
              injection hm with hm1 hm2 hm3
              clear hm2
              subst hm1; subst hm3
              obtain ⟨x, hx⟩ : ∃ x, ids[j]? = some x := ⟨_, List.getElem?_eq_getElem hlt⟩
              have e1 : ids.drop j = x :: ids.drop (j + 1) := by
                rw [List.drop_eq_getElem_cons hlt, ← (List.getElem?_eq_some_iff.1 hx).2]
              rw [e1] at hI
              have hnx : x ∉ ids.drop (j + 1) := (List.nodup_cons.1 hI.nd).1
              have i0 : (0 : Int) ≤ (j : Int) := by omega
              have i1 : (j : Int) < (ids.length : Int) := by omega
              have HX := hide hx
              have HI := hide hI
              have HR := hide hR
              have HF := hide hF
              have HNX := hide hnx
              clear hx hI hR hF hnx e1
              go_wp2_with fail
              refine (back_head_some HI.out.back).mono ?_
              rintro e5 w5 ⟨rfl, b5⟩
              have H5 := hide (HI.out.same b5)
              have R5 := hide (HR.out.below' b5)
              clear b5
              go_wp2_with fail
              refine (back_take_some H5.out.back).mono ?_
              rintro e6 w6 ⟨rfl, hto⟩
              obtain ⟨own6, h6, u6, o6⟩ := H5.out.to hto
              have r6 : NumRow w6 (.slice (some ⟨mb, mo, none⟩) ids.length lc) ids := Row.upd R5.out u6 (fun k hk => HF.out k hk)
              have f6 : ∀ k, (Value.slice (some ⟨mb, mo, none⟩) ids.length lc).ownBlock = some k → ¬ own6 k := fun k hk ho => (o6 k ho).elim (HF.out k hk) (fun h => by have := Row.lt R5.out hk; omega)
              have c6 : w6.cell? ⟨mb, mo + j, none⟩ = some (.int .u32 x) := NumRow.cell' r6 HX.out
              have H6 := hide h6
              have R6 := hide r6
              have F6 := hide f6
              clear hto h6 u6 o6 r6 f6
              go_wp2_with fail
              refine (back_has H6.out.back x).mono ?_
              rintro e7 w7 ⟨rfl, b7⟩
              rw [decide_eq_false HNX.out]
              have H7 := hide (H6.out.same b7)
              have R7 := hide (R6.out.below' b7)
              clear b7
              go_wp2
              go_roundw
              case rel => exact ⟨j + 1, own6, by omega, by go_num, H7.out, R7.out, F6.out⟩
              case measure => simp [intOf]; omega
            · obtain rfl : j = ids.length := by omega
              rw [List.drop_length] at hI
              have HI := hide hI
              have HR := hide hR
              have HF := hide hF
              clear hI hR hF hlt
              go_wp2_with fail
              refine (back_take_none HI.out.back).mono ?_
              rintro e5 w5 ⟨rfl, rfl⟩
              go_wp2_with fail
              refine (back_clear HI.out.back).mono ?_
              rintro e6 w6 ⟨rfl, hto⟩
              obtain ⟨own6, h6, u6, _⟩ := HI.out.to hto
              have r6 : NumRow w6 (.slice la ids.length lc) ids := Row.upd HR.out u6 (fun k hk => HF.out k hk)
              have H6 := hide h6
              have R6 := hide r6
              clear hto h6 u6 r6
              simp only [List.length_nil]
              go_wp2_with fail
              refine (rises_true (HA.out.below' H6.out.low) R6.out HSB.out).mono ?_
              rintro e7 w7 ⟨rfl, b7⟩
              have H7 := hide (H6.out.same b7)
              clear b7
              go_wp2
              go_ret
              exact ⟨rfl, H7.out.low⟩
end Go.Proofs.YtdeonehebbofiaaDoor
