/-
  The document's Put is the lane's.
-/
import Derived.Test.YtdeonehebbofiaaDoorRefP
namespace Go.Proofs.YtdeonehebbofiaaDoor
open Go.RowKit

/-- Of the kinds of which one is enough, and of grants, no two for one stream. -/
def Uniq (ts : List Tk) : Prop := ts.Pairwise fun a b => spc a.k = true → ¬ (b.k = a.k ∧ b.s = a.s)
theorem LaneOk.uniq {es : List En} {ms : List ((Int × Int) × Nat)} {c : Nat → Int} {n : Int} {ts : List Tk} (h : LaneOk es ms c n ts) (hnd : (es.map (·.b)).Nodup) (hmnd : (ms.map (·.1)).Nodup) : Uniq ts := by
  rw [h.tk]
  unfold Uniq live
  rw [List.pairwise_map]
  have h1 : es.Pairwise (fun a b : En => a.b ≠ b.b) := by
    have := hnd
    rw [List.nodup_iff_pairwise_ne, List.pairwise_map] at this
    exact this
  refine (h1.sublist List.filter_sublist).imp_of_mem ?_
  intro a b ha hb hab hs hk
  obtain ⟨ha1, ha2⟩ := List.mem_filter.1 ha
  obtain ⟨hb1, hb2⟩ := List.mem_filter.1 hb
  have m1 := h.m2 a ha1 (by simpa using ha2) hs
  have m2 := h.m2 b hb1 (by simpa using hb2) (by rw [hk.1]; exact hs)
  have := key_unique hmnd m1 m2 (by rw [hk.1, hk.2])
  exact hab (Prod.mk.inj this).2
theorem IsLane.uniq {w : World} {own : Nat → Prop} {g : Nat} {ts : List Tk} (h : IsLane w own g ts) : Uniq ts := by
  obtain ⟨lv, bm, es, ms, c, n, hR, hO⟩ := h
  exact hO.uniq hR.nd hR.mnd
theorem IsLane.wf {w : World} {own : Nat → Prop} {g : Nat} {ts : List Tk} (h : IsLane w own g ts) : ∀ t ∈ ts, t.Wf := fun t ht => (h.may t ht).2

theorem find_of_findIdx {p : Tk → Bool} {ts : List Tk} {i : Nat} (h : ts.findIdx? p = some i) : ∃ u, ts[i]? = some u ∧ ts.find? p = some u ∧ p u = true := by
  rw [List.findIdx?_eq_some_iff_getElem] at h
  obtain ⟨hi, hp, hj⟩ := h
  refine ⟨ts[i], List.getElem?_eq_getElem hi, ?_, hp⟩
  rw [List.find?_eq_some_iff_getElem]
  exact ⟨hp, i, hi, rfl, fun j hji => by have := hj j hji; simpa using this⟩

theorem putR_eq {ts : List Tk} {t : Tk} (hu : Uniq ts) : putR ts t = putS ts t := by
  by_cases hm : may t = 0
  · obtain ⟨h1, h7⟩ := may_range hm
    unfold putR putS
    rw [if_neg (by simp [hm]), if_neg (by simp [hm])]
    by_cases h56 : t.k = 5 ∨ t.k = 6
    · have hs : spc t.k = false := by rcases h56 with h | h <;> rw [h] <;> rfl
      rw [hs]
      simp only [Bool.false_eq_true, if_false]
      split
      · rfl
      · rw [if_pos h56]
    · have hs : spc t.k = true := by
        have : t.k = 1 ∨ t.k = 2 ∨ t.k = 3 ∨ t.k = 4 ∨ t.k = 7 := by omega
        rcases this with h | h | h | h | h <;> rw [h] <;> rfl
      rw [hs]
      simp only [if_true]
      cases hf : ts.findIdx? (keyB t.k t.s) with
      | none =>
        have hn : ts.find? (keyB t.k t.s) = none := by
          rw [List.findIdx?_eq_none_iff] at hf
          rw [List.find?_eq_none]
          intro x hx
          simp [hf x hx]
        rw [hn]
      | some i =>
        obtain ⟨u, hiu, hfu, hpu⟩ := find_of_findIdx hf
        rw [hfu]
        simp only []
        rw [if_neg h56, hiu]
        simp only [keyB, Bool.and_eq_true, beq_iff_eq] at hpu
        by_cases h3 : t.k = 3
        · have ho : fOnce t.k = false := by rw [h3]; rfl
          rw [if_neg (by omega), ho]
          simp only [Bool.false_eq_true, if_false]
          by_cases hov : 4294967295 < u.v + t.v
          · rw [if_pos hov, if_pos (by omega)]
          · rw [if_neg hov, if_neg (by omega)]
            congr 1
            unfold addGrant
            obtain ⟨hi, hiu2⟩ := List.getElem?_eq_some_iff.1 hiu
            apply List.ext_getElem
            · simp
            · intro j hj1 hj2
              simp only [List.length_set] at hj1
              rw [List.getElem_map, List.getElem_set]
              by_cases hij : i = j
              · subst hij
                rw [if_pos rfl, hiu2, if_pos ⟨by omega, hpu.2⟩]
              · rw [if_neg hij, if_neg]
                rintro ⟨hk, hs'⟩
                unfold Uniq at hu
                rw [List.pairwise_iff_getElem] at hu
                rcases Nat.lt_or_ge i j with hlt | hge
                · exact hu i j hi hj1 hlt (by rw [hiu2, hpu.1]; exact hs) ⟨by rw [hiu2, hpu.1, hk, h3], by rw [hiu2, hpu.2, hs']⟩
                · exact hu j i hj1 hi (by omega) (by rw [hk]; rfl) ⟨by rw [hiu2, hpu.1, hk, h3], by rw [hiu2, hpu.2, hs']⟩
        · have ho : fOnce t.k = true := by
            unfold fOnce
            rw [decide_eq_true_iff]
            omega
          rw [if_pos h3, ho]
          simp
  · simp [putR, putS, hm]

theorem ref_put_is {w : World} {v : Value} {ts : List Tk} (h : TkRow w v ts) (hl : ts.length ≤ LB) (t : Tk) (hw : t.Wf) (hall : ∀ u ∈ ts, u.Wf) (hu : Uniq ts) :
    Calls Tryd.prog 73 #[v, t.val] w fun e w' =>
      ∃ v', e = .returned (.tuple #[v', .int .i64 (putS ts t).2]) ∧ TkRow w' v' (putS ts t).1 ∧ (v' = v ∨ ∀ b, v'.ownBlock = some b → w.heap.size ≤ b) ∧ Below w.heap.size w w' := by
  rw [← putR_eq hu]
  show Calls _ _ _ _ (PutRPost w v ts t)
  by_cases hm : may t = 0
  · obtain ⟨h1, h7⟩ := may_range hm
    cases hf : ts.findIdx? (keyB t.k t.s) with
    | none => exact refput_new h hl t hm hf
    | some i =>
      obtain ⟨u, hiu, hfu, hpu⟩ := find_of_findIdx hf
      by_cases h5 : t.k = 5
      · exact refput_five h hl t hm hf h5
      · by_cases h6 : t.k = 6
        · exact refput_six h hl t hm hf h6
        · by_cases h3 : t.k = 3
          · have hw2 := hall u (List.mem_of_getElem? hiu)
            by_cases hov : 4294967295 < u.v + t.v
            · exact refput_over h hl t hm hf h3 hiu hw hw2 hov
            · exact refput_add h hl t hm hf h3 hiu hw hw2 hov
          · exact refput_twice h hl t hm hf h5 h6 h3
  · exact refput_bad h hl t hm

theorem eraseP_findIdx {p : Tk → Bool} {ts : List Tk} : ts.eraseP p = match ts.findIdx? p with | some i => ts.eraseIdx i | none => ts := by
  rw [List.eraseP_eq_eraseIdx]
  cases ts.findIdx? p <;> rfl
theorem any_findIdx {p : Tk → Bool} {ts : List Tk} : ts.any p = (ts.findIdx? p).isSome := by
  induction ts with
  | nil => rfl
  | cons t ts ih =>
    rw [List.any_cons, List.findIdx?_cons]
    cases p t
    · simp only [Bool.false_or, Bool.false_eq_true, if_false, Option.isSome_map, ih]
    · simp only [Bool.true_or, if_true, Option.isSome_some]
end Go.Proofs.YtdeonehebbofiaaDoor
