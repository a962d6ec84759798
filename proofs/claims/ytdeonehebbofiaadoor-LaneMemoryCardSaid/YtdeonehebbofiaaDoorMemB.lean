/-
  LaneMemory: the walk.
-/
import Derived.Test.YtdeonehebbofiaaDoorMemC
set_option linter.unusedVariables false
namespace Go.Proofs.YtdeonehebbofiaaDoor
open Go.RowKit

theorem infoSl : (Tryd.prog.info? 52).map (fun i => (i.zero, i.size, i.bytes)) = some (some (.slice none 0 0), 1, 24) := by kernel_rfl
theorem rep_set (d : Nat) (ts : List Tk) (T : Tk) (h : d < ts.length) : (List.replicate d T ++ ts.drop d).set d T = List.replicate (d + 1) T ++ ts.drop (d + 1) := by
  rw [List.set_append_right _ _ (by simp), List.length_replicate, Nat.sub_self, ← List.getElem_cons_drop h, List.set_cons_zero, List.replicate_succ', List.append_assoc]
  rfl
theorem TkRow.store' {w : World} {b off cap n : Nat} {us : List Tk} (hn : us.length = n) (h : TkRow w (.slice (some ⟨b, off, none⟩) n cap) us) {i : Nat} (hi : i < n) (T : Tk) :
    TkRow (((w.setCell ⟨b, off + i * 3, none⟩ (.int .i64 T.k)).setCell ⟨b, off + i * 3 + 1, none⟩ (.int .u32 T.s)).setCell ⟨b, off + i * 3 + 2, none⟩ (.int .u32 T.v)) (.slice (some ⟨b, off, none⟩) n cap) (us.set i T) := by
  subst hn
  exact h.store hi T

theorem TkRow.cells' {w : World} {lb off n : Nat} {cap : Nat} {us : List Tk} {i : Nat} {t : Tk} (hn : us.length = n) (h : Row w 55 3 (.slice (some ⟨lb, off, none⟩) n cap) n (tcells us)) (hi : us[i]? = some t) :
    w.cell? ⟨lb, off + i * 3, none⟩ = some (.int .i64 t.k) ∧ w.cell? ⟨lb, off + i * 3 + 1, none⟩ = some (.int .u32 t.s) ∧ w.cell? ⟨lb, off + i * 3 + 2, none⟩ = some (.int .u32 t.v) := by
  subst hn
  exact TkRow.cells h hi

set_option maxRecDepth 100000 in
set_option maxHeartbeats 3200000 in
theorem memory_walk (E : Nat → Addr) (w : World) (hS : Sent w E) (hF : Forms w) (a : Option Addr) (cap : Nat) (os : List Op1) (h : OpAt w a cap os) (hwf : ∀ o ∈ os, o.t.Wf) (hl : os.length ≤ 5864062014634) :
    Calls Tryd.prog 7 #[.slice a os.length cap] w fun e w' => e = .returned (.bool true) ∧ Below w.heap.size w w' := by
  obtain ⟨i0, hinfo, hz0, hz1, hz2⟩ := info_parts infoSl
  obtain ⟨i1, hinfo1, hy0, hy1, hy2⟩ := info_parts infoTk
  have hcap := h.le
  have hcm := h.mx
  have HR := hide h
  have HS := hide hS
  have HF := hide hF
  have HWF := hide hwf
  clear h hS hF hwf
  go_enter Tryd.func7, Tryd.ntmps7
  go_wp2_with (first
    | (go_at_call 28; refine (law_fixed E w HS.out HF.out).mono ?_; rintro e1 w1 ⟨rfl, b1⟩; have HB1 := hide b1; clear b1)
    | (go_at_call 29; refine (ls_new w1).mono ?_; rintro e2 w2 ⟨own2, g, rfl, h2⟩; have H2 := hide ((LawSt.new h2).rebase HB1.out); clear h2))
  go_loopw [4, 30] (fun m i wr => ∃ (j : Nat) (own : Nat → Prop) (ts : List Tk), j ≤ os.length ∧ i = .int .i64 j ∧ LawSt w wr own g m ts ∧ ts.length ≤ j) (fun _ i _ => os.length - (intOf i).toNat)
  case atStart => exact ⟨0, own2, [], Nat.zero_le _, rfl, H2.out, by simp⟩
  case round =>
    obtain ⟨j, own, ts, hj, rfl, hI, htl⟩ := hrel
    by_cases hlt : j < os.length
    · obtain ⟨lb, off, ha, hlb⟩ := HR.out.pos (by omega)
      subst ha
      obtain ⟨o, ho⟩ : ∃ o, os[j]? = some o := ⟨_, List.getElem?_eq_getElem hlt⟩
      obtain ⟨c0, c1, c2, c3⟩ := (HR.out.below' hI.ls.low).cells lb off rfl j o ho
      have hlb2 : lb < wr.heap.size := Nat.lt_of_lt_of_le hlb hI.ls.low.size
      have hst := step_any E w _ own g _ ts (hI.alloc (.cells #[.int .i64 o.kd, .int .i64 o.t.k, .int .u32 o.t.s, .int .u32 o.t.v] 57)) HS.out HF.out o.kd o.t (HWF.out o (List.mem_of_getElem? ho)) (by unfold LB; omega)
      have HST := hide hst
      clear hI ho hst
      go_wp2_with (go_at_call 30; refine HST.out.mono ?_; rintro e3 w3 ⟨own3, v3, ts3, rfl, h3, l3, z3⟩; have H3 := hide h3; clear h3 z3)
      go_roundw
      case rel => exact ⟨j + 1, own3, ts3, by omega, by go_num, H3.out, by omega⟩
      case measure => simp [intOf]; omega
    · obtain rfl : j = os.length := by omega
      have htl2 : ts.length ≤ 5864062014634 := by omega
      have HM0 := hide (MS.start hI)
      obtain ⟨am, cm, hmv, _, _⟩ := Row.form hI.row
      subst hmv
      clear hI
      go_wp2
      go_loopw [9, 10] (fun all k wx => ∃ (c : Nat) (xs : List Value), c ≤ 18 ∧ k = .int .i64 c ∧ xs.length = c ∧ MS w wx own g (.slice am ts.length cm) ts all xs (fun _ => ts)) (fun _ k _ => 18 - (intOf k).toNat)
      case atStart => exact ⟨0, [], by omega, rfl, rfl, HM0.out⟩
      case round =>
        obtain ⟨c, xs, hc, rfl, hxl, hI⟩ := hrel
        by_cases hlt : c < 18
        · have HI := hide hI
          have hal := hI.allr
          obtain ⟨aa, ca, hav, _, _⟩ := hal.form
          rw [hxl] at hav hal
          subst hav
          have HAL := hide hal
          have HM1 := hide (show c + 1 ≤ maxLen by unfold maxLen; omega)
          have HM2 := hide (show (c + 1) * 24 ≤ 140737488355328 by omega)
          clear hI hal
          go_wp2_with (first
            | (go_at_call 33; refine (lane_list_is HI.out.law.ls.lane (by unfold LB; omega)).mono ?_; rintro e5 w5 ⟨v5, rfl, r5, o5, b5⟩; obtain ⟨a5, c5, hv5, _, _⟩ := Row.form r5; subst hv5; have HR5 := hide r5; have HO5 := hide o5; have HB5 := hide b5; clear r5 o5 b5)
            | (go_at_call 32; refine (law_same HR5.out (HI.out.law.row.below' HB5.out)).mono ?_; rintro e6 w6 ⟨rfl, b6⟩; rw [decide_eq_true rfl]; have HB6 := hide (HB5.out.trans (b6.mono HB5.out.size)); have HR6 := hide (HR5.out.below' b6); clear b6)
            | (at_builtin; refine wpList_append_row _ rfl _ _ 65 rfl 52 i0 _ 1 24 Tryd.underlying65 hinfo hz0 hz1 hz2 rfl (by decide) _ c _ rfl ((HAL.out.below HB6.out).alloc _) _ 1 [.slice a5 ts.length c5] rfl (Row.lit w6 52 1 1 #[.slice a5 ts.length c5] rfl (by decide)) (fun u hu => by simp at hu; subst hu; rfl) HM1.out HM2.out ?_; intro v7 w7 hr7 hu7 ho7 hs7 hl7; have HR7 := hide hr7; have HU7 := hide hu7; have HO7 := hide ho7; clear hr7 hu7 ho7 hl7))
          go_roundw
          case rel => exact ⟨c + 1, xs ++ [.slice a5 ts.length c5], by omega, by go_num, by simp [hxl], ((HI.out.push HB6.out HR6.out rfl HO5.out _ (by rw [hxl]; exact HR7.out) HU7.out HO7.out).ext (fun j hj => by simp))⟩
          case measure => simp [intOf]; omega
        · obtain rfl : c = 18 := by omega
          try rw [show ((18 : Nat) : Int) = 18 from rfl]
          have HI := hide hI
          have hal := hI.allr
          obtain ⟨aa, ca, hav, _, _⟩ := hal.form
          rw [hxl] at hav hal
          subst hav
          obtain ⟨lb, off, ca', hv, _, _, _, hlb0⟩ := hal.begins (by omega)
          injection hv with ha hle hc
          clear hle
          subst ha; subst hc
          clear hI hal
          go_wp2
          -- loop 3: each list reads as the document's
          go_loopw [61] (fun i wx => ∃ (c : Nat), c ≤ 18 ∧ i = .int .i64 c ∧ MS w wx own g (.slice am ts.length cm) ts (.slice (some ⟨lb, off, none⟩) 18 ca) xs (fun _ => ts)) (fun i _ => 18 - (intOf i).toNat)
          case atStart => exact ⟨0, by omega, rfl, HI.out⟩
          case round =>
            obtain ⟨c, hc, rfl, hI⟩ := hrel
            by_cases hlt : c < 18
            · have hal := hI.allr
              rw [hxl] at hal
              obtain ⟨x, hx⟩ : ∃ x, xs[c]? = some x := ⟨xs[c]'(by omega), List.getElem?_eq_getElem (by omega)⟩
              have cl := hal.cell (i := c) (by omega)
              rw [hx] at cl
              obtain ⟨hrx, _⟩ := hI.rows c x hx
              obtain ⟨xa, xc, hxv, _, _⟩ := Row.form hrx
              subst hxv
              have HI := hide hI
              have HRX := hide hrx
              clear hI hal hrx hx
              go_wp2_with (go_at_call 32; refine (law_same HRX.out HI.out.law.row).mono ?_; rintro e6 w6 ⟨rfl, b6⟩; rw [decide_eq_true rfl]; have HB6 := hide b6; clear b6)
              go_roundw
              case rel => exact ⟨c + 1, by omega, by go_num, HI.out.same HB6.out⟩
              case measure => simp [intOf]; omega
            · obtain rfl : c = 18 := by omega
              try rw [show ((18 : Nat) : Int) = 18 from rfl]
              have HI := hide hI
              clear hI
              go_wp2
              -- loop 4: each list is written over
              go_loopw [72] (fun i wx => ∃ (c : Nat), c ≤ 18 ∧ i = .int .i64 c ∧ MS w wx own g (.slice am ts.length cm) ts (.slice (some ⟨lb, off, none⟩) 18 ca) xs (fun j => if j < c then List.replicate ts.length ⟨90, 0, j⟩ else ts)) (fun i _ => 18 - (intOf i).toNat)
              case atStart => exact ⟨0, by omega, rfl, HI.out.ext (fun j _ => by simp)⟩
              case round =>
                obtain ⟨c, hc, rfl, hI⟩ := hrel
                by_cases hlt : c < 18
                · have hal := hI.allr
                  rw [hxl] at hal
                  obtain ⟨x, hx⟩ : ∃ x, xs[c]? = some x := ⟨xs[c]'(by omega), List.getElem?_eq_getElem (by omega)⟩
                  have cl := hal.cell (i := c) (by omega)
                  rw [hx] at cl
                  obtain ⟨hrx, hrl⟩ := hI.rows c x hx
                  obtain ⟨xa, xc, hxv, _, _⟩ := Row.form hrx
                  rw [hrl] at hxv
                  subst hxv
                  have HI := hide hI
                  have HX := hide hx
                  clear hI hal hrx hrl hx
                  go_wp2
                  go_loopw [79] (fun i wx => ∃ (d : Nat), d ≤ ts.length ∧ i = .int .i64 d ∧ MS w wx own g (.slice am ts.length cm) ts (.slice (some ⟨lb, off, none⟩) 18 ca) xs (fun j => if j < c then List.replicate ts.length ⟨90, 0, j⟩ else if j = c then List.replicate d ⟨90, 0, c⟩ ++ ts.drop d else ts)) (fun i _ => ts.length - (intOf i).toNat)
                  case atStart => exact ⟨0, by omega, rfl, HI.out.ext (fun j _ => by simp)⟩
                  case round =>
                    obtain ⟨d, hd, rfl, hI⟩ := hrel
                    by_cases hlt2 : d < ts.length
                    · obtain ⟨hrx, hrl⟩ := hI.rows c _ HX.out
                      simp only [Nat.lt_irrefl, if_false, if_true] at hrx hrl
                      have hrx' := hrx
                      unfold TkRow at hrx'
                      rw [hrl] at hrx'
                      obtain ⟨xb, xo, xc', hv, _, _, _, hxb⟩ := hrx'.begins (by omega)
                      injection hv with ha hle hc'
                      clear hle
                      subst ha; subst hc'
                      have c0 : ∃ u, wr.cell? ⟨xb, xo + d * 3, none⟩ = some u := ⟨_, (hrx'.cell (i := d * 3) (by omega)).trans (List.getElem?_eq_getElem (by rw [tcells_length, hrl]; omega))⟩
                      have c1 : ∃ u, wr.cell? ⟨xb, xo + d * 3 + 1, none⟩ = some u := ⟨_, (hrx'.cell (i := d * 3 + 1) (by omega)).trans (List.getElem?_eq_getElem (by rw [tcells_length, hrl]; omega))⟩
                      have c2 : ∃ u, wr.cell? ⟨xb, xo + d * 3 + 2, none⟩ = some u := ⟨_, (hrx'.cell (i := d * 3 + 2) (by omega)).trans (List.getElem?_eq_getElem (by rw [tcells_length, hrl]; omega))⟩
                      obtain ⟨u0, c0⟩ := c0
                      obtain ⟨u1, c1⟩ := c1
                      obtain ⟨u2, c2⟩ := c2
                      have fx : ∀ i, wr.frozen? ⟨xb, i, none⟩ = false := fun i => hrx'.frozen i
                      have HI := hide hI
                      have HRX := hide hrx
                      have HRL := hide hrl
                      clear hI hrx hrx' hrl
                      go_wp2
                      go_roundw
                      case rel =>
                        have hs := TkRow.store' HRL.out HRX.out (i := d) hlt2 ⟨90, 0, c⟩
                        rw [rep_set d ts ⟨90, 0, c⟩ hlt2] at hs
                        have hU := (((Upd.refl (fun q => q = xb) wr).setCell (p := ⟨xb, xo + d * 3, none⟩) (.inl rfl) (.int .i64 90)).setCell (p := ⟨xb, xo + d * 3 + 1, none⟩) (.inl rfl) (.int .u32 0)).setCell (p := ⟨xb, xo + d * 3 + 2, none⟩) (.inl rfl) (.int .u32 c)
                        refine ⟨d + 1, by omega, by go_num, (HI.out.touch HX.out rfl hU hs (by simp; omega)).ext (fun j hj => ?_)⟩
                        by_cases h1 : j < c
                        · rw [if_pos h1, if_neg (by omega), if_pos h1]
                        · by_cases h2 : j = c
                          · subst h2
                            rw [if_neg h1, if_pos rfl, if_pos rfl]
                          · rw [if_neg h1, if_neg h2, if_neg h2, if_neg h1, if_neg h2]
                      case measure => simp [intOf]; omega
                    · obtain rfl : d = ts.length := by omega
                      have HI := hide hI
                      clear hI
                      go_wp2
                      go_roundw
                      case rel => exact ⟨c + 1, by omega, by go_num, HI.out.ext (fun j hj => by
                        by_cases h1 : j < c
                        · rw [if_pos h1, if_pos (by omega)]
                        · by_cases h2 : j = c
                          · subst h2
                            rw [if_neg h1, if_pos rfl, if_pos (by omega), List.drop_length, List.append_nil]
                          · rw [if_neg h1, if_neg h2, if_neg (by omega)])⟩
                      case measure => simp [intOf]; omega
                · obtain rfl : c = 18 := by omega
                  try rw [show ((18 : Nat) : Int) = 18 from rfl]
                  have HI := hide hI
                  clear hI
                  have HG0 := hide (GS.start (HI.out.ext (R' := fun j => n90 ts.length j) (fun j hj => by rw [if_pos (by omega)]; rfl)))
                  go_wp2
                  -- loop 6: each list grows
                  go_loopw [17, 92] (fun gr i wx => ∃ (c : Nat) (ys : List Value), c ≤ 18 ∧ i = .int .i64 c ∧ ys.length = c ∧ GS w wx own g (.slice am ts.length cm) ts (.slice (some ⟨lb, off, none⟩) 18 ca) xs c gr ys) (fun _ i _ => 18 - (intOf i).toNat)
                  case atStart => exact ⟨0, [], by omega, rfl, rfl, HG0.out⟩
                  case round =>
                    obtain ⟨c, ys, hc, rfl, hyl, hI⟩ := hrel
                    by_cases hlt : c < 18
                    · have hal := hI.ms.allr
                      rw [hxl] at hal
                      obtain ⟨x, hx⟩ : ∃ x, xs[c]? = some x := ⟨xs[c]'(by omega), List.getElem?_eq_getElem (by omega)⟩
                      have cl := hal.cell (i := c) (by omega)
                      rw [hx] at cl
                      obtain ⟨hrx, hrl⟩ := hI.ms.rows c x hx
                      obtain ⟨xa, xc, hxv, _, _⟩ := Row.form hrx
                      rw [hrl] at hxv
                      subst hxv
                      have HI := hide hI
                      have HX := hide hx
                      have hdec : decide ((c : Int) < 18) = true := by simp; omega
                      clear hI hal hrx hrl hx
                      go_wp2
                      -- loop 7: sixty-four more
                      go_loopw [20, 21] (fun gv i wx => ∃ (d : Nat) (us : List Tk), d ≤ 64 ∧ i = .int .i64 d ∧ us.length = d ∧ GS w wx own g (.slice am ts.length cm) ts (.slice (some ⟨lb, off, none⟩) 18 ca) xs c u17 ys ∧ GV w wx own (.slice am ts.length cm) ts xs ys c (.slice xa ts.length xc) gv us) (fun _ i _ => 64 - (intOf i).toNat)
                      case atStart => exact ⟨0, [], by omega, rfl, rfl, HI.out, GV.start HI.out HX.out⟩
                      case round =>
                        obtain ⟨d, us, hd, rfl, hul, hI2, hV⟩ := hrel
                        by_cases hlt2 : d < 64
                        · obtain ⟨ga, gc, hgv, _, _⟩ := hV.row.form
                          rw [hul] at hgv
                          subst hgv
                          have HI2 := hide hI2
                          have HV := hide hV
                          have HONE := hide (oneCell_tcells [⟨91, 0, 0⟩])
                          have HM1 := hide (show ts.length + us.length + 1 ≤ maxLen by unfold maxLen; omega)
                          have HM2 := hide (show (ts.length + us.length + 1) * 16 ≤ 140737488355328 by omega)
                          have HUL := hide hul
                          clear hI2 hV hul
                          go_wp2_with (at_builtin; refine wpList_append_row2 _ rfl _ _ 52 rfl 55 i1 _ 3 16 Tryd.underlying52 hinfo1 hy0 hy1 hy2 rfl (by decide) _ (ts.length + us.length) _ rfl (HV.out.row.alloc _) _ 1 (tcells [⟨91, 0, 0⟩]) rfl (Row.lit wr 55 3 1 #[.int .i64 91, .int .u32 0, .int .u32 0] rfl (by decide)) HONE.out HM1.out HM2.out ?_; intro v7 w7 hr7 ha7; have HN := hide (GV.grow HI2.out HX.out HV.out _ hr7 ha7); clear hr7 ha7)
                          go_roundw
                          case rel => exact ⟨d + 1, us ++ [⟨91, 0, 0⟩], by omega, by go_num, by rw [List.length_append, HUL.out]; rfl, HN.out.1, HN.out.2⟩
                          case measure => simp [intOf]; omega
                        · obtain rfl : d = 64 := by omega
                          have HI2 := hide hI2
                          have HV0 := hide (GV.start hI2 HX.out)
                          have HONE := hide (oneCell_tcells [⟨92, 0, c⟩])
                          have HM1 := hide (show ts.length + ([] : List Tk).length + 1 ≤ maxLen by simp only [List.length_nil]; unfold maxLen; omega)
                          have HM2 := hide (show (ts.length + ([] : List Tk).length + 1) * 16 ≤ 140737488355328 by simp only [List.length_nil]; omega)
                          have HM3 := hide (show c + 1 ≤ maxLen by unfold maxLen; omega)
                          have HM4 := hide (show (c + 1) * 24 ≤ 140737488355328 by omega)
                          clear hI2 hV
                          go_wp2_with (at_builtin; first
                            | (refine wpList_append_row2 _ rfl _ _ 52 rfl 55 i1 _ 3 16 Tryd.underlying52 hinfo1 hy0 hy1 hy2 rfl (by decide) _ (ts.length + ([] : List Tk).length) _ rfl (HV0.out.row.alloc _) _ 1 (tcells [⟨92, 0, c⟩]) rfl (Row.lit wr 55 3 1 #[.int .i64 92, .int .u32 0, .int .u32 c] rfl (by decide)) HONE.out HM1.out HM2.out ?_; intro v7 w7 hr7 ha7; have HN := hide (GV.grow HI2.out HX.out HV0.out _ hr7 ha7); obtain ⟨ya, yc, hyv, _, _⟩ := Row.form HN.out.2.row; simp only [List.nil_append, List.length_cons, List.length_nil, Nat.zero_add] at hyv; subst hyv; clear hr7 ha7)
                            | (refine wpList_append_row _ rfl _ _ 65 rfl 52 i0 _ 1 24 Tryd.underlying65 hinfo hz0 hz1 hz2 rfl (by decide) _ c _ rfl (HN.out.1.grow.alloc _) _ 1 [.slice ya (ts.length + 1) yc] rfl (Row.lit w7 52 1 1 #[.slice ya (ts.length + 1) yc] rfl (by decide)) (fun u hu => by simp at hu; subst hu; rfl) HM3.out HM4.out ?_; intro v8 w8 hr8 hu8 ho8 hs8 hl8; have HP := hide (GS.push HN.out.1 HX.out HN.out.2 hyl _ hr8 hu8 ho8); clear hr8 hu8 ho8 hl8))
                          go_roundw
                          case rel => exact ⟨c + 1, ys ++ [.slice ya (ts.length + 1) yc], by omega, by go_num, by simp [hyl], HP.out⟩
                          case measure => simp [intOf]; omega
                    · obtain rfl : c = 18 := by omega
                      try rw [show ((18 : Nat) : Int) = 18 from rfl]
                      have HI := hide hI
                      clear hI
                      obtain ⟨gb, go, gc, hgv, _, _, _, hgb⟩ := HI.out.grow.begins (by omega)
                      subst hgv
                      go_wp2
                      -- loop 8: what they hold
                      go_loopw [118] (fun i wx => ∃ (c : Nat), c ≤ 18 ∧ i = .int .i64 c ∧ GS w wx own g (.slice am ts.length cm) ts (.slice (some ⟨lb, off, none⟩) 18 ca) xs 18 (.slice (some ⟨gb, go, none⟩) 18 gc) ys) (fun i _ => 18 - (intOf i).toNat)
                      case atStart => exact ⟨0, by omega, rfl, HI.out⟩
                      case round =>
                        obtain ⟨c, hc, rfl, hI⟩ := hrel
                        by_cases hlt : c < 18
                        · have hal := hI.ms.allr
                          rw [hxl] at hal
                          obtain ⟨x, hx⟩ : ∃ x, xs[c]? = some x := ⟨xs[c]'(by omega), List.getElem?_eq_getElem (by omega)⟩
                          have cl := hal.cell (i := c) (by omega)
                          rw [hx] at cl
                          obtain ⟨y, hy⟩ : ∃ y, ys[c]? = some y := ⟨ys[c]'(by omega), List.getElem?_eq_getElem (by omega)⟩
                          have cg := hI.grow.cell (i := c) (by omega)
                          rw [hy] at cg
                          obtain ⟨hrx, hrl⟩ := hI.ms.rows c x hx
                          have hrx' := hrx
                          unfold TkRow at hrx'
                          rw [hrl] at hrx'
                          obtain ⟨xa, xc, hxv, _, _⟩ := Row.form hrx'
                          subst hxv
                          have hry := hI.yrow c y hy
                          obtain ⟨yb, yo, yc, hyv, _, _, _, hyb⟩ := hry.begins (by omega)
                          subst hyv
                          have hdec : decide ((c : Int) < 18) = true := by simp; omega
                          have HI := hide hI
                          have HRX := hide hrx'
                          have hye : ∀ j : Nat, j < 3 → (tcells (n90 ts.length c ++ [⟨92, 0, c⟩]))[ts.length * 3 + j]? = (Tk.cells ⟨92, 0, c⟩)[j]? := fun j hj => by
                            rw [tcells_append, List.getElem?_append_right (by rw [tcells_length]; simp [n90]), tcells_length]
                            simp [n90, tcells]
                          have q0 : wr.cell? ⟨yb, yo + ts.length * 3, none⟩ = some (.int .i64 92) := (hry.cell (i := ts.length * 3) (by omega)).trans (hye 0 (by decide))
                          have q1 : wr.cell? ⟨yb, yo + ts.length * 3 + 1, none⟩ = some (.int .u32 0) := (hry.cell (i := ts.length * 3 + 1) (by omega)).trans (hye 1 (by decide))
                          have q2 : wr.cell? ⟨yb, yo + ts.length * 3 + 2, none⟩ = some (.int .u32 c) := (hry.cell (i := ts.length * 3 + 2) (by omega)).trans (hye 2 (by decide))
                          clear hI hal hrx hrl hx hy hry hrx' hye
                          go_wp2
                          go_loopw [125] (fun i wx => ∃ (d : Nat), d ≤ ts.length ∧ i = .int .i64 d ∧ wx = wr) (fun i _ => ts.length - (intOf i).toNat)
                          case atStart => exact ⟨0, by omega, rfl, rfl⟩
                          case round =>
                            obtain ⟨d, hd, rfl, rfl⟩ := hrel
                            by_cases hlt2 : d < ts.length
                            · obtain ⟨xb, xo, xc', hv, _, _, _, hxb⟩ := HRX.out.begins (by omega)
                              injection hv with ha hle hc'
                              clear hle
                              subst ha; subst hc'
                              obtain ⟨e0, e1, e2⟩ := TkRow.cells' (us := n90 ts.length c) (by simp [n90]) HRX.out (i := d) (t := ⟨90, 0, c⟩) (by simp [n90, hlt2])
                              go_wp2
                              go_roundw
                              case rel => exact ⟨d + 1, by omega, by go_num, trivial⟩
                              case measure => simp [intOf]; omega
                            · obtain rfl : d = ts.length := by omega
                              go_wp2
                              go_roundw
                              case rel => exact ⟨c + 1, by omega, by go_num, HI.out⟩
                              case measure => simp [intOf]; omega
                        · obtain rfl : c = 18 := by omega
                          try rw [show ((18 : Nat) : Int) = 18 from rfl]
                          have HI := hide hI
                          clear hI
                          go_wp2_with (first
                            | (go_at_call 33; refine (lane_list_is HI.out.ms.law.ls.lane (by unfold LB; omega)).mono ?_; rintro e5 w5 ⟨v5, rfl, r5, o5, b5⟩; have HR5 := hide r5; have HB5 := hide b5; clear r5 o5 b5)
                            | (go_at_call 32; refine (law_same HR5.out (HI.out.ms.law.row.below' HB5.out)).mono ?_; rintro e6 w6 ⟨rfl, b6⟩; rw [decide_eq_true rfl]; have HB6 := hide (HB5.out.trans (b6.mono HB5.out.size)); clear b6)
                            | (go_at_call 31; refine (lane_len_is (HI.out.ms.same HB6.out).law.ls.lane).mono ?_; rintro e7 w7 ⟨rfl, rfl⟩))
                          go_ret
                          exact ⟨rfl, (HI.out.ms.same HB6.out).law.ls.low⟩
end Go.Proofs.YtdeonehebbofiaaDoor
