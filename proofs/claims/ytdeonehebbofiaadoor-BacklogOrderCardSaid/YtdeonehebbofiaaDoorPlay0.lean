/-
  culvertlaw16: the fixed fact; the document's functions over lists.
-/
import Derived.Test.YtdeonehebbofiaaDoorBack2
import Derived.Test.YtdeonehebbofiaaDoorBref4
import Derived.Test.YtdeonehebbofiaaDoorErr3
set_option linter.unusedVariables false
namespace Go.Proofs.YtdeonehebbofiaaDoor
open Go.RowKit

theorem code_le (E : Nat → Addr) (w : World) (hS : Sent w E) (k : Nat) (h2 : k ≤ 15) : Calls Tryd.prog 16 #[errOf E k] w fun e w' => e = .returned (.int .i64 k) ∧ w = w' := by
  by_cases h : k = 0
  · subst h
    exact code_nil w
  · rw [show errOf E k = errv (E k) from if_neg h]
    exact code_sent E w hS k (by omega) (by omega) (by omega)

set_option maxRecDepth 100000 in
set_option maxHeartbeats 1600000 in
theorem law16_awake (E : Nat → Addr) (w : World) (hS : Sent w E) : Calls Tryd.prog 13 #[] w fun e w' => e = .returned (.bool true) ∧ Below w.heap.size w w' := by
  have HS := hide hS
  clear hS
  go_enter Tryd.func13, Tryd.ntmps13
  go_wp2_with fail
  refine (back_new 1 w (by decide) (by decide)).mono ?_
  rintro e1 w1 ⟨own1, b, rfl, h1, f1, b1⟩
  have H1 := hide h1
  have F1 := hide f1
  have B1 := hide b1
  clear h1 f1 b1
  go_wp2_with fail
  refine (back_put H1.out (HS.out.belows B1.out) 7).mono ?_
  rintro e2 w2 ⟨rfl, own2, h2, u2, o2⟩
  rw [show bput 1 [] 7 = ([7], 0) from rfl] at *
  simp only [errOf, if_true]
  have B2 := hide (B1.out.trans (u2.below B1.out.size (fun i hi e => by have := F1.out i e; omega)))
  have H2 := hide h2
  have F2 := hide (show ∀ k, own2 k → w.heap.size ≤ k from fun k hk => by
    rcases o2 k hk with h | h
    · exact F1.out k h
    · have := B1.out.size; omega)
  clear h2 u2 o2
  go_wp2_with fail
  refine (back_head_some H2.out).mono ?_
  rintro e3 w3 ⟨rfl, b3⟩
  have H3 := hide (H2.out.same b3)
  have B3 := hide (below_then B2.out B2.out.size b3)
  clear b3
  go_wp2_with fail
  refine (back_put H3.out (HS.out.belows B3.out) 3).mono ?_
  rintro e4 w4 ⟨rfl, own4, h4, u4, o4⟩
  rw [show bput 1 [7] 3 = ([7], 6) from rfl] at *
  rw [show errOf E 6 = errv (E 6) from rfl]
  have B4 := hide (B3.out.trans (u4.below B3.out.size (fun i hi e => by have := F2.out i e; omega)))
  clear h4 u4 o4
  go_wp2_with fail
  refine (code_sent E w4 (HS.out.belows B4.out) 6 (by decide) (by decide) (by decide)).mono ?_
  rintro e5 w5 ⟨rfl, rfl⟩
  go_wp2
  go_ret
  exact ⟨rfl, B4.out⟩

/-! ### the document's functions -/
theorem idx_none {ids : List Int} {id : Int} (h : id ∉ ids) : ids.findIdx? (· == id) = none := by
  rw [List.findIdx?_eq_none_iff]
  intro x hx
  simp
  rintro rfl
  exact h hx
theorem idx_some {ids : List Int} {id : Int} (h : id ∈ ids) : ∃ i, ids.findIdx? (· == id) = some i := by
  cases hi : ids.findIdx? (· == id) with
  | none =>
    rw [List.findIdx?_eq_none_iff] at hi
    have := hi id h
    simp at this
  | some i => exact ⟨i, rfl⟩
theorem without_is : ∀ {ids : List Int} {id : Int} {i : Nat}, ids.Nodup → ids.findIdx? (· == id) = some i → ids.take i ++ ids.drop (i + 1) = ids.filter (fun x => !(x == id))
  | [], id, i, _, h => by simp at h
  | t :: ids, id, i, hn, h => by
    rw [List.findIdx?_cons] at h
    obtain ⟨n1, n2⟩ := List.nodup_cons.1 hn
    by_cases ht : t = id
    · subst ht
      simp at h
      subst h
      simp
      symm
      rw [List.filter_eq_self]
      intro x hx
      simp
      rintro rfl
      exact n1 hx
    · rw [if_neg (by simpa using ht)] at h
      cases hi : ids.findIdx? (· == id) with
      | none => rw [hi] at h; simp at h
      | some j =>
        rw [hi] at h
        simp at h
        subst h
        have := without_is n2 hi
        simp [ht]
        exact this
/-- The row is the old one, or one in new memory. -/
def NewRow (w : World) (v v' : Value) : Prop := v' = v ∨ ∀ b, v'.ownBlock = some b → w.heap.size ≤ b
theorem ref16_put {w : World} {v : Value} {ids : List Int} (h : NumRow w v ids) (most id : Int) (hm : ids.length ≤ 1048576) :
    Calls Tryd.prog 59 #[rbVal most v, .int .u32 id] w fun e w' => ∃ v', e = .returned (.tuple #[rbVal most v', .int .i64 (bput most ids id).2]) ∧ NumRow w' v' (bput most ids id).1 ∧ NewRow w v v' ∧ Below w.heap.size w w' := by
  unfold bput
  by_cases hi : id ∈ ids
  · rw [if_pos hi]
    obtain ⟨i, hi⟩ := idx_some hi
    exact (ref16_put_twice h most id i hi).mono fun e w' ⟨he, hb⟩ => ⟨v, he, h.below' hb, .inl rfl, hb⟩
  · rw [if_neg hi]
    by_cases hf : most ≤ ids.length
    · rw [if_pos hf]
      exact (ref16_put_full h most id (idx_none hi) hf).mono fun e w' ⟨he, hb⟩ => ⟨v, he, h.below' hb, .inl rfl, hb⟩
    · rw [if_neg hf]
      exact (ref16_put_room h most id (idx_none hi) hf hm).mono fun e w' ⟨v', he, hr, ho, hb⟩ => ⟨v', he, hr, .inr ho, hb⟩
theorem ref16_remove {w : World} {v : Value} {ids : List Int} (h : NumRow w v ids) (hn : ids.Nodup) (most id : Int) (hm : ids.length ≤ 1048576) :
    Calls Tryd.prog 61 #[rbVal most v, .int .u32 id] w fun e w' => ∃ v', e = .returned (.tuple #[rbVal most v', .bool (decide (id ∈ ids))]) ∧ NumRow w' v' (ids.filter (fun x => !(x == id))) ∧ NewRow w v v' ∧ Below w.heap.size w w' := by
  by_cases hi : id ∈ ids
  · rw [decide_eq_true hi]
    obtain ⟨i, hi⟩ := idx_some hi
    exact (ref16_remove_some h most id i hi hm).mono fun e w' ⟨v', he, hr, ho, hb⟩ => ⟨v', he, by rw [← without_is hn hi]; exact hr, .inr ho, hb⟩
  · rw [decide_eq_false hi]
    have hf : ids.filter (fun x => !(x == id)) = ids := by
      rw [List.filter_eq_self]
      intro x hx
      simp
      rintro rfl
      exact hi hx
    exact (ref16_remove_none h most id (idx_none hi)).mono fun e w' ⟨he, hb⟩ => ⟨v, he, by rw [hf]; exact h.below' hb, .inl rfl, hb⟩
def headOf (ids : List Int) : Int := ids.headD 0
theorem ref16_take {w : World} {v : Value} {ids : List Int} (h : NumRow w v ids) (most : Int) (hm : ids.length ≤ 1048576) :
    Calls Tryd.prog 60 #[rbVal most v] w fun e w' => ∃ v', e = .returned (.tuple #[rbVal most v', .int .u32 (headOf ids), .bool (!ids.isEmpty)]) ∧ NumRow w' v' ids.tail ∧ NewRow w v v' ∧ Below w.heap.size w w' := by
  cases ids with
  | nil => exact (ref16_take_none h most).mono fun e w' ⟨he, hb⟩ => ⟨v, he, h.below' hb, .inl rfl, hb⟩
  | cons i ids => exact (ref16_take_some h most (by simp at hm; omega)).mono fun e w' ⟨v', he, hr, ho, hb⟩ => ⟨v', he, hr, .inr ho, hb⟩
theorem back_take {w : World} {own : Nat → Prop} {b : Nat} {most : Int} {ids : List Int} (h : IsBack w own b most ids) :
    Calls Tryd.prog 24 #[.pointer (some ⟨b, 0, none⟩)] w fun e w' => e = .returned (.tuple #[.int .u32 (headOf ids), .bool (!ids.isEmpty)]) ∧ BackTo w own b most ids.tail w' := by
  cases ids with
  | nil => exact (back_take_none h).mono fun e w' ⟨he, hw⟩ => ⟨he, hw ▸ BackTo.same h (Below.refl _ _)⟩
  | cons i ids => exact back_take_some h
theorem back_head {w : World} {own : Nat → Prop} {b : Nat} {most : Int} {ids : List Int} (h : IsBack w own b most ids) :
    Calls Tryd.prog 23 #[.pointer (some ⟨b, 0, none⟩)] w fun e w' => e = .returned (.tuple #[.int .u32 (headOf ids), .bool (!ids.isEmpty)]) ∧ Below w.heap.size w w' := by
  cases ids with
  | nil => exact (back_head_none h).mono fun e w' ⟨he, hw⟩ => ⟨he, hw ▸ Below.refl _ _⟩
  | cons i ids => exact back_head_some h
end Go.Proofs.YtdeonehebbofiaaDoor
