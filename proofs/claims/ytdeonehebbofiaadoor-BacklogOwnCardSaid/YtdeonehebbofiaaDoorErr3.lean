/-
  culvertlaw01.Code at each sentinel but ErrProtocol: its number.
-/
import Derived.Test.YtdeonehebbofiaaDoorErr2
namespace Go.Proofs.YtdeonehebbofiaaDoor
open Go.RowKit

set_option maxHeartbeats 400000 in
theorem code_sent (E : Nat → Addr) (w : World) (hS : Sent w E) (k : Nat) (h1 : 1 ≤ k) (h2 : k ≤ 42) (h28 : k ≠ 28) :
    Calls Tryd.prog 16 #[errv (E k)] w fun e w' => e = .returned (.int .i64 k) ∧ w = w' := by
  have HS := hide hS
  clear hS
  unfold errv
  go_enter Tryd.func16, Tryd.ntmps16
  go_wp2
  go_loop [3, 4, 5, 6] (fun f y b i => ∃ n : Nat, 1 ≤ n ∧ n ≤ 43 ∧ i = .int .i64 n ∧ f = .int .i64 (if k < n then 1 else 0) ∧ y = .int .i64 (if k < n then k else 0) ∧ b = .bool false) (fun _ _ _ i => 43 - (intOf i).toNat)
  case atStart => exact ⟨1, by omega, by omega, rfl, by rw [if_neg (by omega)], by rw [if_neg (by omega)], rfl⟩
  case round =>
    obtain ⟨n, hn1, hn2, rfl, rfl, rfl, rfl⟩ := hrel
    by_cases hlt : n ≤ 42
    · by_cases hkn : k = n
      · subst hkn
        go_wp2_with (first | (go_at_call 58; refine (sentinel_any E w (Hid.out HS) k h1 h2).mono ?_; rintro e w' ⟨rfl, rfl⟩; unfold errv) | (go_at_call 57; refine (is_same _ _).mono ?_; rintro e w' ⟨rfl, rfl⟩))
        go_round
        case rel => exact ⟨k + 1, by omega, by omega, by go_num, by rw [if_pos (by omega)], by rw [if_pos (by omega)], rfl⟩
        case measure => simp [intOf]; omega
      · go_wp2_with (first | (go_at_call 58; refine (sentinel_any E w (Hid.out HS) n hn1 hlt).mono ?_; rintro e w' ⟨rfl, rfl⟩; unfold errv) | (go_at_call 57; refine (is_any E w (Hid.out HS) k n h1 h2 hn1 hlt).mono ?_; rintro e w' ⟨rfl, rfl⟩))
        go_round
        case rel =>
          refine ⟨n + 1, by omega, by omega, by go_num, ?_, ?_, rfl⟩
          · by_cases hk : k < n
            · rw [if_pos hk, if_pos (by omega)]
            · rw [if_neg hk, if_neg (by omega)]
          · by_cases hk : k < n
            · rw [if_pos hk, if_pos (by omega)]
            · rw [if_neg hk, if_neg (by omega)]
        case measure => simp [intOf]; omega
    · have hp : k < n := by omega
      rw [if_pos hp, if_pos hp]
      go_wp2
      go_ret
      exact ⟨rfl, rfl⟩
end Go.Proofs.YtdeonehebbofiaaDoor
