import Derived.Test.YtdeonehebbofiaaDoorErr
namespace Go.Proofs.YtdeonehebbofiaaDoor
open Go.RowKit
/-- An error value of errors.New's make. -/
def errv (a : Addr) : Value := .iface 205 (.pointer (some a))
/-- The variable that holds the sentinel of a number. -/
def gid : Nat → Nat
  | 1 => 1
  | 2 => 0
  | 3 => 10
  | 4 => 11
  | 5 => 12
  | 6 => 13
  | 7 => 14
  | 8 => 2
  | 9 => 15
  | 10 => 16
  | 11 => 5
  | 12 => 6
  | 13 => 8
  | 14 => 9
  | 15 => 4
  | 16 => 17
  | 17 => 18
  | 18 => 19
  | 19 => 20
  | 20 => 21
  | 21 => 22
  | 22 => 23
  | 23 => 24
  | 24 => 25
  | 25 => 26
  | 26 => 27
  | 27 => 28
  | 28 => 29
  | 29 => 30
  | 30 => 31
  | 31 => 32
  | 32 => 33
  | 33 => 34
  | 34 => 35
  | 35 => 36
  | 36 => 37
  | 37 => 38
  | 38 => 39
  | 39 => 40
  | 40 => 41
  | 41 => 42
  | 42 => 43
  | _ => 0


structure Sent (w : World) (E : Nat → Addr) : Prop where
  cell : ∀ n, 1 ≤ n → n ≤ 42 → w.cell? ⟨gid n, 0, none⟩ = some (errv (E n))
  blk : ∀ n, 1 ≤ n → n ≤ 42 → ∃ ca ta, w.heap[(E n).block]? = some (.cells ca ta (0, 0))
  ne : ∀ m n, 1 ≤ m → m ≤ 42 → 1 ≤ n → n ≤ 42 → m ≠ n → E m ≠ E n
theorem sentinel_1 (E : Nat → Addr) (w : World) (hS : Sent w E) : Calls Tryd.prog 58 #[.int .i64 1] w fun e w' => e = .returned (errv (E 1)) ∧ w = w' := by
  have c := hS.cell 1 (by decide) (by decide)
  simp only [gid] at c
  clear hS
  go_enter Tryd.func58, Tryd.ntmps58
  go_wp2
  go_ret
  exact ⟨rfl, rfl⟩
theorem sentinel_2 (E : Nat → Addr) (w : World) (hS : Sent w E) : Calls Tryd.prog 58 #[.int .i64 2] w fun e w' => e = .returned (errv (E 2)) ∧ w = w' := by
  have c := hS.cell 2 (by decide) (by decide)
  simp only [gid] at c
  clear hS
  go_enter Tryd.func58, Tryd.ntmps58
  go_wp2
  go_ret
  exact ⟨rfl, rfl⟩
theorem sentinel_3 (E : Nat → Addr) (w : World) (hS : Sent w E) : Calls Tryd.prog 58 #[.int .i64 3] w fun e w' => e = .returned (errv (E 3)) ∧ w = w' := by
  have c := hS.cell 3 (by decide) (by decide)
  simp only [gid] at c
  clear hS
  go_enter Tryd.func58, Tryd.ntmps58
  go_wp2
  go_ret
  exact ⟨rfl, rfl⟩
theorem sentinel_4 (E : Nat → Addr) (w : World) (hS : Sent w E) : Calls Tryd.prog 58 #[.int .i64 4] w fun e w' => e = .returned (errv (E 4)) ∧ w = w' := by
  have c := hS.cell 4 (by decide) (by decide)
  simp only [gid] at c
  clear hS
  go_enter Tryd.func58, Tryd.ntmps58
  go_wp2
  go_ret
  exact ⟨rfl, rfl⟩
theorem sentinel_5 (E : Nat → Addr) (w : World) (hS : Sent w E) : Calls Tryd.prog 58 #[.int .i64 5] w fun e w' => e = .returned (errv (E 5)) ∧ w = w' := by
  have c := hS.cell 5 (by decide) (by decide)
  simp only [gid] at c
  clear hS
  go_enter Tryd.func58, Tryd.ntmps58
  go_wp2
  go_ret
  exact ⟨rfl, rfl⟩
theorem sentinel_6 (E : Nat → Addr) (w : World) (hS : Sent w E) : Calls Tryd.prog 58 #[.int .i64 6] w fun e w' => e = .returned (errv (E 6)) ∧ w = w' := by
  have c := hS.cell 6 (by decide) (by decide)
  simp only [gid] at c
  clear hS
  go_enter Tryd.func58, Tryd.ntmps58
  go_wp2
  go_ret
  exact ⟨rfl, rfl⟩
theorem sentinel_7 (E : Nat → Addr) (w : World) (hS : Sent w E) : Calls Tryd.prog 58 #[.int .i64 7] w fun e w' => e = .returned (errv (E 7)) ∧ w = w' := by
  have c := hS.cell 7 (by decide) (by decide)
  simp only [gid] at c
  clear hS
  go_enter Tryd.func58, Tryd.ntmps58
  go_wp2
  go_ret
  exact ⟨rfl, rfl⟩
theorem sentinel_8 (E : Nat → Addr) (w : World) (hS : Sent w E) : Calls Tryd.prog 58 #[.int .i64 8] w fun e w' => e = .returned (errv (E 8)) ∧ w = w' := by
  have c := hS.cell 8 (by decide) (by decide)
  simp only [gid] at c
  clear hS
  go_enter Tryd.func58, Tryd.ntmps58
  go_wp2
  go_ret
  exact ⟨rfl, rfl⟩
theorem sentinel_9 (E : Nat → Addr) (w : World) (hS : Sent w E) : Calls Tryd.prog 58 #[.int .i64 9] w fun e w' => e = .returned (errv (E 9)) ∧ w = w' := by
  have c := hS.cell 9 (by decide) (by decide)
  simp only [gid] at c
  clear hS
  go_enter Tryd.func58, Tryd.ntmps58
  go_wp2
  go_ret
  exact ⟨rfl, rfl⟩
theorem sentinel_10 (E : Nat → Addr) (w : World) (hS : Sent w E) : Calls Tryd.prog 58 #[.int .i64 10] w fun e w' => e = .returned (errv (E 10)) ∧ w = w' := by
  have c := hS.cell 10 (by decide) (by decide)
  simp only [gid] at c
  clear hS
  go_enter Tryd.func58, Tryd.ntmps58
  go_wp2
  go_ret
  exact ⟨rfl, rfl⟩
theorem sentinel_11 (E : Nat → Addr) (w : World) (hS : Sent w E) : Calls Tryd.prog 58 #[.int .i64 11] w fun e w' => e = .returned (errv (E 11)) ∧ w = w' := by
  have c := hS.cell 11 (by decide) (by decide)
  simp only [gid] at c
  clear hS
  go_enter Tryd.func58, Tryd.ntmps58
  go_wp2
  go_ret
  exact ⟨rfl, rfl⟩
theorem sentinel_12 (E : Nat → Addr) (w : World) (hS : Sent w E) : Calls Tryd.prog 58 #[.int .i64 12] w fun e w' => e = .returned (errv (E 12)) ∧ w = w' := by
  have c := hS.cell 12 (by decide) (by decide)
  simp only [gid] at c
  clear hS
  go_enter Tryd.func58, Tryd.ntmps58
  go_wp2
  go_ret
  exact ⟨rfl, rfl⟩
theorem sentinel_13 (E : Nat → Addr) (w : World) (hS : Sent w E) : Calls Tryd.prog 58 #[.int .i64 13] w fun e w' => e = .returned (errv (E 13)) ∧ w = w' := by
  have c := hS.cell 13 (by decide) (by decide)
  simp only [gid] at c
  clear hS
  go_enter Tryd.func58, Tryd.ntmps58
  go_wp2
  go_ret
  exact ⟨rfl, rfl⟩
theorem sentinel_14 (E : Nat → Addr) (w : World) (hS : Sent w E) : Calls Tryd.prog 58 #[.int .i64 14] w fun e w' => e = .returned (errv (E 14)) ∧ w = w' := by
  have c := hS.cell 14 (by decide) (by decide)
  simp only [gid] at c
  clear hS
  go_enter Tryd.func58, Tryd.ntmps58
  go_wp2
  go_ret
  exact ⟨rfl, rfl⟩
theorem sentinel_15 (E : Nat → Addr) (w : World) (hS : Sent w E) : Calls Tryd.prog 58 #[.int .i64 15] w fun e w' => e = .returned (errv (E 15)) ∧ w = w' := by
  have c := hS.cell 15 (by decide) (by decide)
  simp only [gid] at c
  clear hS
  go_enter Tryd.func58, Tryd.ntmps58
  go_wp2
  go_ret
  exact ⟨rfl, rfl⟩
theorem sentinel_16 (E : Nat → Addr) (w : World) (hS : Sent w E) : Calls Tryd.prog 58 #[.int .i64 16] w fun e w' => e = .returned (errv (E 16)) ∧ w = w' := by
  have c := hS.cell 16 (by decide) (by decide)
  simp only [gid] at c
  clear hS
  go_enter Tryd.func58, Tryd.ntmps58
  go_wp2
  go_ret
  exact ⟨rfl, rfl⟩
theorem sentinel_17 (E : Nat → Addr) (w : World) (hS : Sent w E) : Calls Tryd.prog 58 #[.int .i64 17] w fun e w' => e = .returned (errv (E 17)) ∧ w = w' := by
  have c := hS.cell 17 (by decide) (by decide)
  simp only [gid] at c
  clear hS
  go_enter Tryd.func58, Tryd.ntmps58
  go_wp2
  go_ret
  exact ⟨rfl, rfl⟩
theorem sentinel_18 (E : Nat → Addr) (w : World) (hS : Sent w E) : Calls Tryd.prog 58 #[.int .i64 18] w fun e w' => e = .returned (errv (E 18)) ∧ w = w' := by
  have c := hS.cell 18 (by decide) (by decide)
  simp only [gid] at c
  clear hS
  go_enter Tryd.func58, Tryd.ntmps58
  go_wp2
  go_ret
  exact ⟨rfl, rfl⟩
theorem sentinel_19 (E : Nat → Addr) (w : World) (hS : Sent w E) : Calls Tryd.prog 58 #[.int .i64 19] w fun e w' => e = .returned (errv (E 19)) ∧ w = w' := by
  have c := hS.cell 19 (by decide) (by decide)
  simp only [gid] at c
  clear hS
  go_enter Tryd.func58, Tryd.ntmps58
  go_wp2
  go_ret
  exact ⟨rfl, rfl⟩
theorem sentinel_20 (E : Nat → Addr) (w : World) (hS : Sent w E) : Calls Tryd.prog 58 #[.int .i64 20] w fun e w' => e = .returned (errv (E 20)) ∧ w = w' := by
  have c := hS.cell 20 (by decide) (by decide)
  simp only [gid] at c
  clear hS
  go_enter Tryd.func58, Tryd.ntmps58
  go_wp2
  go_ret
  exact ⟨rfl, rfl⟩
theorem sentinel_21 (E : Nat → Addr) (w : World) (hS : Sent w E) : Calls Tryd.prog 58 #[.int .i64 21] w fun e w' => e = .returned (errv (E 21)) ∧ w = w' := by
  have c := hS.cell 21 (by decide) (by decide)
  simp only [gid] at c
  clear hS
  go_enter Tryd.func58, Tryd.ntmps58
  go_wp2
  go_ret
  exact ⟨rfl, rfl⟩
theorem sentinel_22 (E : Nat → Addr) (w : World) (hS : Sent w E) : Calls Tryd.prog 58 #[.int .i64 22] w fun e w' => e = .returned (errv (E 22)) ∧ w = w' := by
  have c := hS.cell 22 (by decide) (by decide)
  simp only [gid] at c
  clear hS
  go_enter Tryd.func58, Tryd.ntmps58
  go_wp2
  go_ret
  exact ⟨rfl, rfl⟩
theorem sentinel_23 (E : Nat → Addr) (w : World) (hS : Sent w E) : Calls Tryd.prog 58 #[.int .i64 23] w fun e w' => e = .returned (errv (E 23)) ∧ w = w' := by
  have c := hS.cell 23 (by decide) (by decide)
  simp only [gid] at c
  clear hS
  go_enter Tryd.func58, Tryd.ntmps58
  go_wp2
  go_ret
  exact ⟨rfl, rfl⟩
theorem sentinel_24 (E : Nat → Addr) (w : World) (hS : Sent w E) : Calls Tryd.prog 58 #[.int .i64 24] w fun e w' => e = .returned (errv (E 24)) ∧ w = w' := by
  have c := hS.cell 24 (by decide) (by decide)
  simp only [gid] at c
  clear hS
  go_enter Tryd.func58, Tryd.ntmps58
  go_wp2
  go_ret
  exact ⟨rfl, rfl⟩
theorem sentinel_25 (E : Nat → Addr) (w : World) (hS : Sent w E) : Calls Tryd.prog 58 #[.int .i64 25] w fun e w' => e = .returned (errv (E 25)) ∧ w = w' := by
  have c := hS.cell 25 (by decide) (by decide)
  simp only [gid] at c
  clear hS
  go_enter Tryd.func58, Tryd.ntmps58
  go_wp2
  go_ret
  exact ⟨rfl, rfl⟩
theorem sentinel_26 (E : Nat → Addr) (w : World) (hS : Sent w E) : Calls Tryd.prog 58 #[.int .i64 26] w fun e w' => e = .returned (errv (E 26)) ∧ w = w' := by
  have c := hS.cell 26 (by decide) (by decide)
  simp only [gid] at c
  clear hS
  go_enter Tryd.func58, Tryd.ntmps58
  go_wp2
  go_ret
  exact ⟨rfl, rfl⟩
theorem sentinel_27 (E : Nat → Addr) (w : World) (hS : Sent w E) : Calls Tryd.prog 58 #[.int .i64 27] w fun e w' => e = .returned (errv (E 27)) ∧ w = w' := by
  have c := hS.cell 27 (by decide) (by decide)
  simp only [gid] at c
  clear hS
  go_enter Tryd.func58, Tryd.ntmps58
  go_wp2
  go_ret
  exact ⟨rfl, rfl⟩
theorem sentinel_28 (E : Nat → Addr) (w : World) (hS : Sent w E) : Calls Tryd.prog 58 #[.int .i64 28] w fun e w' => e = .returned (errv (E 28)) ∧ w = w' := by
  have c := hS.cell 28 (by decide) (by decide)
  simp only [gid] at c
  clear hS
  go_enter Tryd.func58, Tryd.ntmps58
  go_wp2
  go_ret
  exact ⟨rfl, rfl⟩
theorem sentinel_29 (E : Nat → Addr) (w : World) (hS : Sent w E) : Calls Tryd.prog 58 #[.int .i64 29] w fun e w' => e = .returned (errv (E 29)) ∧ w = w' := by
  have c := hS.cell 29 (by decide) (by decide)
  simp only [gid] at c
  clear hS
  go_enter Tryd.func58, Tryd.ntmps58
  go_wp2
  go_ret
  exact ⟨rfl, rfl⟩
theorem sentinel_30 (E : Nat → Addr) (w : World) (hS : Sent w E) : Calls Tryd.prog 58 #[.int .i64 30] w fun e w' => e = .returned (errv (E 30)) ∧ w = w' := by
  have c := hS.cell 30 (by decide) (by decide)
  simp only [gid] at c
  clear hS
  go_enter Tryd.func58, Tryd.ntmps58
  go_wp2
  go_ret
  exact ⟨rfl, rfl⟩
theorem sentinel_31 (E : Nat → Addr) (w : World) (hS : Sent w E) : Calls Tryd.prog 58 #[.int .i64 31] w fun e w' => e = .returned (errv (E 31)) ∧ w = w' := by
  have c := hS.cell 31 (by decide) (by decide)
  simp only [gid] at c
  clear hS
  go_enter Tryd.func58, Tryd.ntmps58
  go_wp2
  go_ret
  exact ⟨rfl, rfl⟩
theorem sentinel_32 (E : Nat → Addr) (w : World) (hS : Sent w E) : Calls Tryd.prog 58 #[.int .i64 32] w fun e w' => e = .returned (errv (E 32)) ∧ w = w' := by
  have c := hS.cell 32 (by decide) (by decide)
  simp only [gid] at c
  clear hS
  go_enter Tryd.func58, Tryd.ntmps58
  go_wp2
  go_ret
  exact ⟨rfl, rfl⟩
theorem sentinel_33 (E : Nat → Addr) (w : World) (hS : Sent w E) : Calls Tryd.prog 58 #[.int .i64 33] w fun e w' => e = .returned (errv (E 33)) ∧ w = w' := by
  have c := hS.cell 33 (by decide) (by decide)
  simp only [gid] at c
  clear hS
  go_enter Tryd.func58, Tryd.ntmps58
  go_wp2
  go_ret
  exact ⟨rfl, rfl⟩
theorem sentinel_34 (E : Nat → Addr) (w : World) (hS : Sent w E) : Calls Tryd.prog 58 #[.int .i64 34] w fun e w' => e = .returned (errv (E 34)) ∧ w = w' := by
  have c := hS.cell 34 (by decide) (by decide)
  simp only [gid] at c
  clear hS
  go_enter Tryd.func58, Tryd.ntmps58
  go_wp2
  go_ret
  exact ⟨rfl, rfl⟩
theorem sentinel_35 (E : Nat → Addr) (w : World) (hS : Sent w E) : Calls Tryd.prog 58 #[.int .i64 35] w fun e w' => e = .returned (errv (E 35)) ∧ w = w' := by
  have c := hS.cell 35 (by decide) (by decide)
  simp only [gid] at c
  clear hS
  go_enter Tryd.func58, Tryd.ntmps58
  go_wp2
  go_ret
  exact ⟨rfl, rfl⟩
theorem sentinel_36 (E : Nat → Addr) (w : World) (hS : Sent w E) : Calls Tryd.prog 58 #[.int .i64 36] w fun e w' => e = .returned (errv (E 36)) ∧ w = w' := by
  have c := hS.cell 36 (by decide) (by decide)
  simp only [gid] at c
  clear hS
  go_enter Tryd.func58, Tryd.ntmps58
  go_wp2
  go_ret
  exact ⟨rfl, rfl⟩
theorem sentinel_37 (E : Nat → Addr) (w : World) (hS : Sent w E) : Calls Tryd.prog 58 #[.int .i64 37] w fun e w' => e = .returned (errv (E 37)) ∧ w = w' := by
  have c := hS.cell 37 (by decide) (by decide)
  simp only [gid] at c
  clear hS
  go_enter Tryd.func58, Tryd.ntmps58
  go_wp2
  go_ret
  exact ⟨rfl, rfl⟩
theorem sentinel_38 (E : Nat → Addr) (w : World) (hS : Sent w E) : Calls Tryd.prog 58 #[.int .i64 38] w fun e w' => e = .returned (errv (E 38)) ∧ w = w' := by
  have c := hS.cell 38 (by decide) (by decide)
  simp only [gid] at c
  clear hS
  go_enter Tryd.func58, Tryd.ntmps58
  go_wp2
  go_ret
  exact ⟨rfl, rfl⟩
theorem sentinel_39 (E : Nat → Addr) (w : World) (hS : Sent w E) : Calls Tryd.prog 58 #[.int .i64 39] w fun e w' => e = .returned (errv (E 39)) ∧ w = w' := by
  have c := hS.cell 39 (by decide) (by decide)
  simp only [gid] at c
  clear hS
  go_enter Tryd.func58, Tryd.ntmps58
  go_wp2
  go_ret
  exact ⟨rfl, rfl⟩
theorem sentinel_40 (E : Nat → Addr) (w : World) (hS : Sent w E) : Calls Tryd.prog 58 #[.int .i64 40] w fun e w' => e = .returned (errv (E 40)) ∧ w = w' := by
  have c := hS.cell 40 (by decide) (by decide)
  simp only [gid] at c
  clear hS
  go_enter Tryd.func58, Tryd.ntmps58
  go_wp2
  go_ret
  exact ⟨rfl, rfl⟩
theorem sentinel_41 (E : Nat → Addr) (w : World) (hS : Sent w E) : Calls Tryd.prog 58 #[.int .i64 41] w fun e w' => e = .returned (errv (E 41)) ∧ w = w' := by
  have c := hS.cell 41 (by decide) (by decide)
  simp only [gid] at c
  clear hS
  go_enter Tryd.func58, Tryd.ntmps58
  go_wp2
  go_ret
  exact ⟨rfl, rfl⟩
theorem sentinel_42 (E : Nat → Addr) (w : World) (hS : Sent w E) : Calls Tryd.prog 58 #[.int .i64 42] w fun e w' => e = .returned (errv (E 42)) ∧ w = w' := by
  have c := hS.cell 42 (by decide) (by decide)
  simp only [gid] at c
  clear hS
  go_enter Tryd.func58, Tryd.ntmps58
  go_wp2
  go_ret
  exact ⟨rfl, rfl⟩
theorem sentinel_any (E : Nat → Addr) (w : World) (hS : Sent w E) : ∀ n : Nat, 1 ≤ n → n ≤ 42 → Calls Tryd.prog 58 #[.int .i64 (n : Int)] w fun e w' => e = .returned (errv (E n)) ∧ w = w'
  | 1, _, _ => sentinel_1 E w hS
  | 2, _, _ => sentinel_2 E w hS
  | 3, _, _ => sentinel_3 E w hS
  | 4, _, _ => sentinel_4 E w hS
  | 5, _, _ => sentinel_5 E w hS
  | 6, _, _ => sentinel_6 E w hS
  | 7, _, _ => sentinel_7 E w hS
  | 8, _, _ => sentinel_8 E w hS
  | 9, _, _ => sentinel_9 E w hS
  | 10, _, _ => sentinel_10 E w hS
  | 11, _, _ => sentinel_11 E w hS
  | 12, _, _ => sentinel_12 E w hS
  | 13, _, _ => sentinel_13 E w hS
  | 14, _, _ => sentinel_14 E w hS
  | 15, _, _ => sentinel_15 E w hS
  | 16, _, _ => sentinel_16 E w hS
  | 17, _, _ => sentinel_17 E w hS
  | 18, _, _ => sentinel_18 E w hS
  | 19, _, _ => sentinel_19 E w hS
  | 20, _, _ => sentinel_20 E w hS
  | 21, _, _ => sentinel_21 E w hS
  | 22, _, _ => sentinel_22 E w hS
  | 23, _, _ => sentinel_23 E w hS
  | 24, _, _ => sentinel_24 E w hS
  | 25, _, _ => sentinel_25 E w hS
  | 26, _, _ => sentinel_26 E w hS
  | 27, _, _ => sentinel_27 E w hS
  | 28, _, _ => sentinel_28 E w hS
  | 29, _, _ => sentinel_29 E w hS
  | 30, _, _ => sentinel_30 E w hS
  | 31, _, _ => sentinel_31 E w hS
  | 32, _, _ => sentinel_32 E w hS
  | 33, _, _ => sentinel_33 E w hS
  | 34, _, _ => sentinel_34 E w hS
  | 35, _, _ => sentinel_35 E w hS
  | 36, _, _ => sentinel_36 E w hS
  | 37, _, _ => sentinel_37 E w hS
  | 38, _, _ => sentinel_38 E w hS
  | 39, _, _ => sentinel_39 E w hS
  | 40, _, _ => sentinel_40 E w hS
  | 41, _, _ => sentinel_41 E w hS
  | 42, _, _ => sentinel_42 E w hS
  | 0, h, _ => by omega
  | n + 43, _, h => by omega

theorem Sent.below {w w' : World} {E : Nat → Addr} {B : Nat} (h : Sent w E) (hB : Below B w w') (hE : ∀ n, 1 ≤ n → n ≤ 42 → gid n < B ∧ (E n).block < B) : Sent w' E :=
  ⟨fun n h1 h2 => (hB.cell (p := ⟨gid n, 0, none⟩) (hE n h1 h2).1).trans (h.cell n h1 h2),
    fun n h1 h2 => let ⟨ca, ta, hb⟩ := h.blk n h1 h2; ⟨ca, ta, (hB.block _ (hE n h1 h2).2).trans hb⟩, h.ne⟩
theorem Sent.lt {w : World} {E : Nat → Addr} (h : Sent w E) : ∀ n, 1 ≤ n → n ≤ 42 → gid n < w.heap.size ∧ (E n).block < w.heap.size := fun n h1 h2 =>
  ⟨World.block_lt_of_cell? w ⟨gid n, 0, none⟩ (h.cell n h1 h2), let ⟨_, _, hb⟩ := h.blk n h1 h2; blk_lt hb⟩

/-! ### Code -/
theorem code_nil (w : World) : Calls Tryd.prog 16 #[.nilIface] w fun e w' => e = .returned (.int .i64 0) ∧ w = w' := by
  go_enter Tryd.func16, Tryd.ntmps16
  go_wp2
  go_ret
  exact ⟨rfl, rfl⟩

/-- errors.Is of two sentinels. -/
theorem is_any (E : Nat → Addr) (w : World) (hS : Sent w E) (m n : Nat) (h1 : 1 ≤ m) (h2 : m ≤ 42) (h3 : 1 ≤ n) (h4 : n ≤ 42) :
    Calls Tryd.prog 57 #[errv (E m), errv (E n)] w fun e w' => e = .returned (.bool (decide (m = n))) ∧ w = w' := by
  by_cases h : m = n
  · subst h
    simpa [errv] using is_same (E m) w
  · obtain ⟨ca, ta, ha⟩ := hS.blk m h1 h2
    obtain ⟨cb, tb, hb⟩ := hS.blk n h3 h4
    have := is_other (E m) (E n) ca cb ta tb w (hS.ne m n h1 h2 h3 h4 h) ha hb
    simpa [h, errv] using this
end Go.Proofs.YtdeonehebbofiaaDoor
