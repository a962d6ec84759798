/-
  A lane beside a slice of tickets; Forget.
-/
import Derived.Test.YtdeonehebbofiaaDoorLane11
namespace Go.Proofs.YtdeonehebbofiaaDoor
open Go.RowKit

/-- A lane and a slice of tickets, apart. -/
structure LR (w : World) (own : Nat → Prop) (g : Nat) (ts : List Tk) (v : Value) (us : List Tk) : Prop where
  lane : IsLane w own g ts
  row : TkRow w v us
  apart : ∀ b, v.ownBlock = some b → ¬ own b
set_option linter.unusedVariables false
theorem TkRow.lt' {w : World} {v : Value} {us : List Tk} (h : TkRow w v us) : ∀ b, v.ownBlock = some b → b < w.heap.size := fun b hb => Row.lt h hb
theorem TkRow.below' {w w' : World} {v : Value} {us : List Tk} (h : TkRow w v us) (hb : Below w.heap.size w w') : TkRow w' v us :=
  Row.upd h (Upd.of_below hb (fun _ => False)) (fun _ _ e => e)
theorem LR.below {w w' : World} {own : Nat → Prop} {g : Nat} {ts : List Tk} {v : Value} {us : List Tk} (h : LR w own g ts v us) (hb : Below w.heap.size w w') : LR w' own g ts v us :=
  ⟨h.lane.same hb, h.row.below' hb, h.apart⟩
theorem LR.to {w w' : World} {own : Nat → Prop} {g : Nat} {ts ts' : List Tk} {v : Value} {us : List Tk} (h : LR w own g ts v us) (hl : LaneTo w own g ts' w') :
    ∃ own', LR w' own' g ts' v us ∧ Upd own w w' ∧ ∀ k, own' k → own k ∨ w.heap.size ≤ k := by
  obtain ⟨own', hI, hU, hO⟩ := hl
  refine ⟨own', ⟨hI, Row.upd h.row hU (fun k hk => h.apart k hk), fun b hb ho => ?_⟩, hU, hO⟩
  rcases hO b ho with h1 | h1
  · exact h.apart b hb h1
  · have := h.row.lt' b hb; omega
/-- A slice in new memory is apart. -/
theorem LR.new {w w' : World} {own : Nat → Prop} {g : Nat} {ts : List Tk} {v : Value} {us : List Tk} (h : IsLane w own g ts) (hb : Below w.heap.size w w') (hr : TkRow w' v us) (ho : ∀ b, v.ownBlock = some b → w.heap.size ≤ b) : LR w' own g ts v us :=
  ⟨h.same hb, hr, fun b hb' hk => by have := ho b hb'; have := h.own_lt b hk; omega⟩

/-- The three cells of a row's ticket. -/
theorem TkRow.cells {w : World} {lb off : Nat} {cap : Nat} {us : List Tk} {i : Nat} {t : Tk} (h : TkRow w (.slice (some ⟨lb, off, none⟩) us.length cap) us) (hi : us[i]? = some t) :
    w.cell? ⟨lb, off + i * 3, none⟩ = some (.int .i64 t.k) ∧ w.cell? ⟨lb, off + i * 3 + 1, none⟩ = some (.int .u32 t.s) ∧ w.cell? ⟨lb, off + i * 3 + 2, none⟩ = some (.int .u32 t.v) := by
  have key : ∀ (us : List Tk) (i : Nat), us[i]? = some t → ∀ j : Nat, j < 3 → (tcells us)[i * 3 + j]? = t.cells[j]? := by
    intro us
    induction us with
    | nil => intro i h; simp at h
    | cons a us ih =>
      intro i h j hj
      have e : tcells (a :: us) = a.cells ++ tcells us := rfl
      rw [e]
      cases i with
      | zero =>
        simp at h
        subst h
        rw [List.getElem?_append_left (by simp [Tk.cells]; omega)]
        simp
      | succ i =>
        simp at h
        rw [List.getElem?_append_right (by simp [Tk.cells]; omega), ← ih i h j hj]
        congr 1
        simp [Tk.cells]
        omega
  have hil : i < us.length := (List.getElem?_eq_some_iff.1 hi).1
  have hl := tcells_length us
  refine ⟨?_, ?_, ?_⟩
  · have := Row.cell h (i := i * 3 + 0) (by omega)
    rw [key us i hi 0 (by decide)] at this
    exact this
  · have := Row.cell h (i := i * 3 + 1) (by omega)
    rw [key us i hi 1 (by decide)] at this
    exact this
  · have := Row.cell h (i := i * 3 + 2) (by omega)
    rw [key us i hi 2 (by decide)] at this
    exact this

/-! ### Forget -/
def forgetAt (s : Int) (ts : List Tk) (i : Nat) : List Tk := (ts.take i).filter (fun u => u.s != s) ++ ts.drop i
theorem forgetAt_keep {s : Int} {ts : List Tk} {i : Nat} {t : Tk} (h : ts[i]? = some t) (hs : (t.s == s) = false) : forgetAt s ts (i + 1) = forgetAt s ts i := by
  obtain ⟨hi, ht⟩ := List.getElem?_eq_some_iff.1 h
  unfold forgetAt
  rw [take_snoc_at ts i t h, List.filter_append, ← List.getElem_cons_drop hi, ht]
  simp [bne, hs]
theorem forgetAt_drop {s : Int} {ts : List Tk} {i : Nat} {t : Tk} (h : ts[i]? = some t) (hs : (t.s == s) = true) :
    forgetAt s ts (i + 1) = (forgetAt s ts i).eraseP (keyB t.k s) ∧ (forgetAt s ts i).any (keyB t.k s) = true ∧ (forgetAt s ts i).length = (forgetAt s ts (i + 1)).length + 1 := by
  obtain ⟨hi, ht⟩ := List.getElem?_eq_some_iff.1 h
  have e1 : forgetAt s ts i = (ts.take i).filter (fun u => u.s != s) ++ t :: ts.drop (i + 1) := by
    unfold forgetAt
    rw [← List.getElem_cons_drop hi, ht]
  have e2 : forgetAt s ts (i + 1) = (ts.take i).filter (fun u => u.s != s) ++ ts.drop (i + 1) := by
    unfold forgetAt
    rw [take_snoc_at ts i t h, List.filter_append]
    simp [bne, hs]
  have hk : keyB t.k s t = true := by simp [keyB, hs]
  have hno : ∀ u ∈ (ts.take i).filter (fun u => u.s != s), ¬ keyB t.k s u = true := by
    intro u hu hk
    have := (List.mem_filter.1 hu).2
    simp [keyB] at hk
    simp [hk.2] at this
  rw [e1, e2]
  refine ⟨?_, ?_, ?_⟩
  · rw [List.eraseP_append_right _ hno]
    simp [hk]
  · simp [hk]
  · simp
    omega
theorem forgetAt_le (s : Int) (ts : List Tk) (i : Nat) : (forgetAt s ts i).length ≤ ts.length := by
  unfold forgetAt
  have := List.length_filter_le (fun u : Tk => u.s != s) (ts.take i)
  simp at *
  omega
theorem forgetAt_zero (s : Int) (ts : List Tk) : forgetAt s ts 0 = ts := by simp [forgetAt]
theorem forgetAt_all (s : Int) (ts : List Tk) : forgetAt s ts ts.length = ts.filter (fun u => u.s != s) := by simp [forgetAt]

structure ForInv (w : World) (own : Nat → Prop) (g : Nat) (ts : List Tk) (s : Int) (v : Value) (i : Nat) (wr : World) (own' : Nat → Prop) : Prop where
  lr : LR wr own' g (forgetAt s ts i) v ts
  upd : Upd own w wr
  own : ∀ k, own' k → own k ∨ w.heap.size ≤ k
theorem ForInv.below {w : World} {own : Nat → Prop} {g : Nat} {ts : List Tk} {s : Int} {v : Value} {i : Nat} {wr w' : World} {own' : Nat → Prop} (h : ForInv w own g ts s v i wr own') (hb : Below wr.heap.size wr w') : ForInv w own g ts s v i w' own' :=
  ⟨h.lr.below hb, h.upd.trans (Upd.of_below hb (fun _ => False)) (fun _ _ e => e.elim), h.own⟩
theorem ForInv.to {w : World} {own : Nat → Prop} {g : Nat} {ts : List Tk} {s : Int} {v : Value} {i j : Nat} {wr w' : World} {own' : Nat → Prop} (h : ForInv w own g ts s v i wr own') (hl : LaneTo wr own' g (forgetAt s ts j) w') :
    ∃ own2, ForInv w own g ts s v j w' own2 := by
  obtain ⟨own2, h1, h2, h3⟩ := h.lr.to hl
  refine ⟨own2, h1, h.upd.trans h2 (fun k hk e => ?_), fun k hk => ?_⟩
  · rcases h.own k e with h4 | h4
    · exact h4
    · omega
  · rcases h3 k hk with h4 | h4
    · exact h.own k h4
    · exact .inr (Nat.le_trans h.upd.size h4)

set_option maxRecDepth 100000 in
set_option maxHeartbeats 1600000 in
theorem lane_forget_is {w : World} {own : Nat → Prop} {g : Nat} {ts : List Tk} (h : IsLane w own g ts) (hl : ts.length ≤ LB) (s : Int) :
    Calls Tryd.prog 78 #[.pointer (some ⟨g, 0, none⟩), .int .u32 s] w fun e w' =>
      e = .returned (.int .i64 ((ts.length : Int) - (ts.filter (fun u => u.s != s)).length)) ∧ LaneTo w own g (ts.filter (fun u => u.s != s)) w' := by
  have HLS := hide (lane_list_is h hl)
  have HI := hide h
  have hl2 : ts.length ≤ 8000000000000 := hl
  clear h
  go_enter Tryd.func78, Tryd.ntmps78
  go_wp2_with (go_at_call 33; refine HLS.out.mono ?_; rintro e5 w5 ⟨v5, rfl, hr5, ho5, hb5⟩; have hI5 := (show ForInv w own g ts s v5 0 w5 own from ⟨by rw [forgetAt_zero]; exact LR.new HI.out hb5 hr5 ho5, Upd.of_below hb5 own, fun _ hk => .inl hk⟩); obtain ⟨a5, c5, hv5, _, _⟩ := Row.form hr5; subst hv5; have HI5 := hide hI5; clear hr5 ho5 hb5 hI5)
  go_loopw [5, 13] (fun n i wr => ∃ (j : Nat) (own' : Nat → Prop), j ≤ ts.length ∧ i = .int .i64 j ∧ n = .int .i64 ((ts.length : Int) - (forgetAt s ts j).length) ∧ ForInv w own g ts s (.slice a5 ts.length c5) j wr own') (fun _ i _ => ts.length - (intOf i).toNat)
  case atStart => exact ⟨0, own, Nat.zero_le _, rfl, by rw [forgetAt_zero]; simp, HI5.out⟩
  case round =>
    obtain ⟨j, own', hj, rfl, rfl, hI⟩ := hrel
    have hfl := forgetAt_le s ts j
    by_cases hlt : j < ts.length
    · obtain ⟨lb, off, cap', hv, _, _, _, hlb⟩ := Row.begins hI.lr.row (by omega)
      injection hv with ha _ hc
      subst ha; subst hc
      obtain ⟨t, ht⟩ : ∃ t, ts[j]? = some t := ⟨_, List.getElem?_eq_getElem hlt⟩
      obtain ⟨e0, e1, e2⟩ := hI.lr.row.cells ht
      have hI1 := hI.below (below_alloc (Below.refl _ wr) (.cells #[.int .i64 t.k, .int .u32 t.s, .int .u32 t.v] 55))
      have HI1 := hide hI1
      have HT := hide ht
      clear hI hI1
      rcases Bool.eq_false_or_eq_true (t.s == s) with hs | hs
      · obtain ⟨f1, f2, f3⟩ := forgetAt_drop ht hs
        have hts : t.s = s := by simpa using hs
        subst hts
        have hW := lane_withdraw_is HI1.out.lr.lane (Nat.le_trans hfl hl) t.k t.s
        rw [f2, ← f1] at hW
        have HW := hide hW
        have HF := hide f3
        clear f1 f2 f3 hW ht
        go_wp2_with (go_at_call 76; refine HW.out.mono ?_; rintro e6 w6 ⟨rfl, hto⟩; have HTO := hide (HI1.out.to hto); clear hto)
        go_roundw
        case rel =>
          obtain ⟨own2, h2⟩ := HTO.out
          exact ⟨j + 1, own2, by omega, by go_num, by
            have := HF.out
            exact congrArg (Value.int .i64) (by omega), h2⟩
        case measure => simp [intOf]; omega
      · have HK := hide (forgetAt_keep ht hs)
        clear ht
        go_wp2
        go_roundw
        case rel => exact ⟨j + 1, own', by omega, by go_num, by rw [HK.out], by
          have := HI1.out
          exact ⟨by rw [HK.out]; exact this.lr, this.upd, this.own⟩⟩
        case measure => simp [intOf]; omega
    · obtain rfl : j = ts.length := by omega
      have HI2 := hide hI
      clear hI hfl
      go_wp2
      go_ret
      rw [forgetAt_all]
      have := HI2.out
      refine ⟨rfl, own', ?_, this.upd, this.own⟩
      have h := this.lr.lane
      rwa [forgetAt_all] at h
end Go.Proofs.YtdeonehebbofiaaDoor
