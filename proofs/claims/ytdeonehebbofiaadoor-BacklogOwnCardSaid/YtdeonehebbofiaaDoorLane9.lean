/-
  Withdraw: takes out a stream's ticket of a kind.
-/
import Derived.Test.YtdeonehebbofiaaDoorLane8
namespace Go.Proofs.YtdeonehebbofiaaDoor
open Go.RowKit

def isT (k s : Int) (e : En) : Prop := e.gone = false ∧ e.t.k = k ∧ e.t.s = s

def WithPost (w : World) (own : Nat → Prop) (g bm : Nat) (es : List En) (ms : List ((Int × Int) × Nat)) (c : Nat → Int) (n k s : Int) (e : Ending) (w' : World) : Prop :=
  (e = .returned (.bool false) ∧ (∀ x ∈ es, ¬ isT k s x) ∧ w' = w) ∨
  (∃ pre x post own' lv', e = .returned (.bool true) ∧ es = pre ++ x :: post ∧ (∀ y ∈ pre, ¬ isT k s y) ∧ isT k s x ∧ DropPost w own g bm es ms c n x w' own' lv')

set_option maxRecDepth 100000 in
set_option maxHeartbeats 1600000 in
theorem lane_withdraw (w : World) (own : Nat → Prop) (g : Nat) (lv : Value) (bm : Nat) (es : List En) (ms : List ((Int × Int) × Nat)) (c : Nat → Int) (n k s : Int)
    (h : LaneRaw w own g lv bm es ms c n) (hL : LiveOk es ms c n) :
    Calls Tryd.prog 76 #[.pointer (some ⟨g, 0, none⟩), .int .i64 k, .int .u32 s] w fun e w' => WithPost w own g bm es ms c n k s e w' := by
  have HL := hide hL
  obtain ⟨c0, _, _, _, _⟩ := lane_cells h.blk
  have hrow := h.row
  obtain ⟨a, cap, rfl, hcap, hcm⟩ := hrow.form
  have HR := hide h
  have hle := hL.len
  clear hrow h hL
  go_enter Tryd.func76, Tryd.ntmps76
  go_wp2
  go_loopw [16] (fun i wr => ∃ j : Nat, j ≤ es.length ∧ i = .int .i64 j ∧ wr = w ∧ ∀ y ∈ es.take j, ¬ isT k s y) (fun i _ => es.length - (intOf i).toNat)
  case atStart => exact ⟨0, Nat.zero_le _, rfl, rfl, fun _ hy => by simp at hy⟩
  case round =>
    obtain ⟨j, hj, rfl, rfl, hno⟩ := hrel
    by_cases hlt : j < es.length
    · obtain ⟨lb, off, cap', hv, _, _, _, hlb⟩ := HR.out.row.begins (by omega)
      injection hv with ha _ hc
      subst ha; subst hc
      obtain ⟨e, he⟩ : ∃ e, es[j]? = some e := ⟨_, List.getElem?_eq_getElem hlt⟩
      have hem : e ∈ es := List.mem_of_getElem? he
      have cl : wr.cell? ⟨lb, off + j, none⟩ = some (.pointer (some ⟨e.b, 0, none⟩)) := by
        rw [HR.out.row.cell (by omega), List.getElem?_map, he]
        rfl
      have eb := HR.out.ens e hem
      have e0 : wr.cell? ⟨e.b, 0, none⟩ = some (.int .i64 e.t.k) := blk_cell eb 0
      have e1 : wr.cell? ⟨e.b, 1, none⟩ = some (.int .u32 e.t.s) := blk_cell eb 1
      have e3 : wr.cell? ⟨e.b, 3, none⟩ = some (.bool e.gone) := blk_cell eb 3
      have HE := hide he
      have HN := hide hno
      by_cases hm : isT k s e
      · obtain ⟨hg, hkk, hss⟩ := hm
        have hL := HL.out
        have hD := lane_drop _ own g _ bm es ms c n HR.out e eb hg (HR.out.oe e hem)
          (hL.k1 e hem hg) (hL.k7 e hem hg) (hL.c1 e hem hg) (hL.c2 e hem hg) (hL.n1 e hem hg) hL.n2 (fun y hy hb => nodup_b_inj HR.out.nd hy hem hb) (hL.mx e hem hg) hL.len
        have HD := hide hD
        have HM := hide (show isT k s e from ⟨hg, hkk, hss⟩)
        rw [hg] at e3
        rw [hkk] at e0
        rw [hss] at e1
        have hx : ((Int.toNat 0 : Nat)) = 0 := rfl
        clear hL hD hx hno he eb hg hkk hss
        go_wp2_with (go_at_call 107; refine HD.out.mono ?_; rintro e5 w5 ⟨rfl, own', lv2, hd⟩; have HDD := hide hd; clear hd)
        go_ret
        refine .inr ⟨es.take j, e, es.drop (j + 1), own', lv2, rfl, ?_, HN.out, HM.out, HDD.out⟩
        obtain ⟨hj1, hj2⟩ := List.getElem?_eq_some_iff.1 HE.out
        rw [← hj2]
        simp
      · have HM := hide hm
        have hb : (!e.gone && (e.t.k == k) && (e.t.s == s)) = false := by
          cases hg : e.gone
          · by_cases hk : e.t.k = k
            · by_cases hs : e.t.s = s
              · exact absurd ⟨hg, hk, hs⟩ hm
              · simp [hs]
            · simp [hk]
          · simp
        have hstep : ∀ y ∈ es.take (j + 1), ¬ isT k s y := by
          rw [take_snoc_at es j e he]
          intro y hy
          rcases List.mem_append.1 hy with hy | hy
          · exact hno y hy
          · simp at hy
            subst hy
            exact hm
        have HS := hide hstep
        clear hstep hno he eb hm
        rcases Bool.eq_false_or_eq_true e.gone with hg | hg
        · rw [hg] at e3
          clear hg hb
          go_wp2
          go_roundw
          case rel => exact ⟨j + 1, by omega, by go_num, trivial, HS.out⟩
          case measure => simp [intOf]; omega
        · rw [hg] at e3 hb
          clear hg
          by_cases hk : e.t.k = k
          · have hk1 : (e.t.k == k) = true := by simp [hk]
            have hs1 : (e.t.s == s) = false := by simpa [hk1] using hb
            clear hb hk
            go_wp2
            go_roundw
            case rel => exact ⟨j + 1, by omega, by go_num, trivial, HS.out⟩
            case measure => simp [intOf]; omega
          · have hk1 : (e.t.k == k) = false := by simp [hk]
            clear hb hk
            go_wp2
            go_roundw
            case rel => exact ⟨j + 1, by omega, by go_num, trivial, HS.out⟩
            case measure => simp [intOf]; omega
    · obtain rfl : j = es.length := by omega
      rw [List.take_length] at hno
      have HN := hide hno
      clear hno
      go_wp2
      go_ret
      exact .inl ⟨rfl, HN.out, rfl⟩

theorem lane_withdraw_nil (w : World) (k s : Int) : Calls Tryd.prog 76 #[.pointer none, .int .i64 k, .int .u32 s] w fun e w' => e = .returned (.bool false) ∧ w = w' := by
  go_enter Tryd.func76, Tryd.ntmps76
  go_wp2
  go_ret
  exact ⟨rfl, rfl⟩
theorem lane_forget_nil (w : World) (s : Int) : Calls Tryd.prog 78 #[.pointer none, .int .u32 s] w fun e w' => e = .returned (.int .i64 0) ∧ w = w' := by
  go_enter Tryd.func78, Tryd.ntmps78
  go_wp2
  go_ret
  exact ⟨rfl, rfl⟩
theorem lane_clear_nil (w : World) : Calls Tryd.prog 79 #[.pointer none] w fun e w' => e = .returned (.int .i64 0) ∧ w = w' := by
  go_enter Tryd.func79, Tryd.ntmps79
  go_wp2
  go_ret
  exact ⟨rfl, rfl⟩
end Go.Proofs.YtdeonehebbofiaaDoor
