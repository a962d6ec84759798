/-
  Tickets, the lane's table of forms, fits and check.
-/
import Derived.Test.YtdeonehebbofiaaDoorLane0
import Derived.Test.YtdeonehebbofiaaDoorErr3
namespace Go.Proofs.YtdeonehebbofiaaDoor
open Go.RowKit

structure Tk where
  k : Int
  s : Int
  v : Int
  deriving DecidableEq

def Tk.val (t : Tk) : Value := .agg #[.int .i64 t.k, .int .u32 t.s, .int .u32 t.v]
def Tk.cells (t : Tk) : List Value := [.int .i64 t.k, .int .u32 t.s, .int .u32 t.v]
structure Tk.Wf (t : Tk) : Prop where
  k0 : -9223372036854775808 ≤ t.k
  k1 : t.k ≤ 9223372036854775807
  s0 : 0 ≤ t.s
  s1 : t.s ≤ 4294967295
  v0 : 0 ≤ t.v
  v1 : t.v ≤ 4294967295

/-! ### the table -/
def fStream (k : Int) : Int := if k = 1 ∨ k = 2 ∨ k = 3 ∨ k = 4 then 1 else 0
def fValue (k : Int) : Int := if k = 3 then 1 else if k = 5 ∨ k = 6 then 2 else if k = 7 then 3 else 0
def fOnce (k : Int) : Bool := decide (k = 1 ∨ k = 2 ∨ k = 4 ∨ k = 7)
def fTyp (k : Int) : Int := if k = 1 ∨ k = 2 ∨ k = 3 ∨ k = 4 then 1 else if k = 5 ∨ k = 6 then 2 else if k = 7 then 3 else 0
def fFlags (k : Int) : Int := if k = 1 ∨ k = 5 then 1 else if k = 2 ∨ k = 6 then 2 else if k = 4 then 8 else 0

/-- The variable forms holds its eight rows. -/
structure Forms (w : World) : Prop where
  st : ∀ k : Int, 0 ≤ k → k ≤ 7 → w.cell? ⟨3, k.toNat * 5, none⟩ = some (.int .i64 (fStream k))
  va : ∀ k : Int, 0 ≤ k → k ≤ 7 → w.cell? ⟨3, k.toNat * 5 + 1, none⟩ = some (.int .i64 (fValue k))
  on : ∀ k : Int, 0 ≤ k → k ≤ 7 → w.cell? ⟨3, k.toNat * 5 + 2, none⟩ = some (.bool (fOnce k))
  ty : ∀ k : Int, 0 ≤ k → k ≤ 7 → w.cell? ⟨3, k.toNat * 5 + 3, none⟩ = some (.int .u8 (fTyp k))
  fl : ∀ k : Int, 0 ≤ k → k ≤ 7 → w.cell? ⟨3, k.toNat * 5 + 4, none⟩ = some (.int .u16 (fFlags k))

theorem Forms.lt {w : World} (h : Forms w) : 3 < w.heap.size := World.block_lt_of_cell? w ⟨3, _, none⟩ (h.st 0 (by decide) (by decide))
theorem Forms.below {w w' : World} {B : Nat} (h : Forms w) (hb : Below B w w') (hB : 3 < B) : Forms w' where
  st := fun k h0 h1 => (hb.cell (p := ⟨3, _, none⟩) hB).trans (h.st k h0 h1)
  va := fun k h0 h1 => (hb.cell (p := ⟨3, _, none⟩) hB).trans (h.va k h0 h1)
  on := fun k h0 h1 => (hb.cell (p := ⟨3, _, none⟩) hB).trans (h.on k h0 h1)
  ty := fun k h0 h1 => (hb.cell (p := ⟨3, _, none⟩) hB).trans (h.ty k h0 h1)
  fl := fun k h0 h1 => (hb.cell (p := ⟨3, _, none⟩) hB).trans (h.fl k h0 h1)

/-! ### fits, check -/
def fitsB (kd n : Int) : Bool := if kd = 0 then n == 0 else if kd = 1 then n != 0 else if kd = 3 then decide (n ≤ 2) else true
def may (t : Tk) : Nat := if t.k < 1 ∨ 7 < t.k then 12 else if fitsB (fStream t.k) t.s = false then 14 else if fitsB (fValue t.k) t.v = false then 15 else 0
def errOf (E : Nat → Addr) (n : Nat) : Value := if n = 0 then .nilIface else errv (E n)

theorem fits_any (kd n : Int) (w : World) : Calls Tryd.prog 113 #[.int .i64 kd, .int .u32 n] w fun e w' => e = .returned (.bool (fitsB kd n)) ∧ w = w' := by
  by_cases h0 : kd = 0
  · subst h0
    go_enter Tryd.func113, Tryd.ntmps113
    go_wp2
    go_ret
    exact ⟨rfl, rfl⟩
  · by_cases h1 : kd = 1
    · subst h1
      go_enter Tryd.func113, Tryd.ntmps113
      go_wp2
      go_ret
      exact ⟨rfl, rfl⟩
    · by_cases h3 : kd = 3
      · subst h3
        go_enter Tryd.func113, Tryd.ntmps113
        go_wp2
        go_ret
        exact ⟨rfl, rfl⟩
      · have e0 : (kd == 0) = false := by simpa using h0
        have e1 : (kd == 1) = false := by simpa using h1
        have e3 : (kd == 3) = false := by simpa using h3
        have hf : fitsB kd n = true := by simp [fitsB, h0, h1, h3]
        have HF := hide hf
        clear hf h0 h1 h3
        go_enter Tryd.func113, Tryd.ntmps113
        go_wp2
        go_ret
        exact ⟨by rw [HF.out]; rfl, rfl⟩

set_option maxHeartbeats 400000 in
theorem check_any (E : Nat → Addr) (t : Tk) (w : World) (hS : Sent w E) (hF : Forms w) :
    Calls Tryd.prog 90 #[t.val] w fun e w' => e = .returned (errOf E (may t)) ∧ Below w.heap.size w w' := by
  have c12 := hS.cell 12 (by decide) (by decide)
  have c14 := hS.cell 14 (by decide) (by decide)
  have c15 := hS.cell 15 (by decide) (by decide)
  have l12 := (hS.lt 12 (by decide) (by decide)).1
  have l14 := (hS.lt 14 (by decide) (by decide)).1
  have l15 := (hS.lt 15 (by decide) (by decide)).1
  have lF := hF.lt
  simp only [gid] at *
  obtain ⟨k, s, v⟩ := t
  unfold Tk.val
  by_cases hr : k < 1 ∨ 7 < k
  · have hm : may ⟨k, s, v⟩ = 12 := by simp [may, hr]
    have HM := hide hm
    clear hm hS hF
    rcases hr with hr | hr
    · go_enter Tryd.func90, Tryd.ntmps90
      go_wp2
      go_ret
      exact ⟨by rw [HM.out]; rfl, by repeat (first | exact Below.refl _ _ | refine below_alloc ?_ _)⟩
    · have : ¬ k < 1 := by omega
      go_enter Tryd.func90, Tryd.ntmps90
      go_wp2
      go_ret
      exact ⟨by rw [HM.out]; rfl, by repeat (first | exact Below.refl _ _ | refine below_alloc ?_ _)⟩
  · have h1 : ¬ k < 1 := by omega
    have h7 : ¬ 7 < k := by omega
    have f0 := hF.st k (by omega) (by omega)
    have f1 := hF.va k (by omega) (by omega)
    have f2 := hF.on k (by omega) (by omega)
    have f3 := hF.ty k (by omega) (by omega)
    have f4 := hF.fl k (by omega) (by omega)
    clear hS hF
    have hm : may ⟨k, s, v⟩ = if fitsB (fStream k) s = false then 14 else if fitsB (fValue k) v = false then 15 else 0 := by simp [may, h1, h7]
    have HM := hide hm
    clear hm hr
    have k0 : 0 ≤ k := by omega
    have k8 : k < 8 := by omega
    go_enter Tryd.func90, Tryd.ntmps90
    go_wp2_with (go_at_call 113; refine (fits_any _ _ _).mono ?_; rintro e w' ⟨rfl, rfl⟩)
    · have hb : fitsB (fStream k) s = false := by simpa using (by assumption : (!fitsB (fStream k) s) = true)
      go_ret
      exact ⟨by rw [HM.out, if_pos hb]; rfl, by repeat (first | exact Below.refl _ _ | refine below_alloc ?_ _)⟩
    · have hb : fitsB (fStream k) s = true := by simpa using (by assumption : (!fitsB (fStream k) s) = false)
      have hb2 : fitsB (fValue k) v = false := by simpa using (by assumption : (!fitsB (fValue k) v) = true)
      go_ret
      exact ⟨by rw [HM.out, if_neg (by simp [hb]), if_pos hb2]; rfl, by repeat (first | exact Below.refl _ _ | refine below_alloc ?_ _)⟩
    · have hb : fitsB (fStream k) s = true := by simpa using (by assumption : (!fitsB (fStream k) s) = false)
      have hb2 : fitsB (fValue k) v = true := by simpa using (by assumption : (!fitsB (fValue k) v) = false)
      go_ret
      exact ⟨by rw [HM.out, if_neg (by simp [hb]), if_neg (by simp [hb2])]; rfl, by repeat (first | exact Below.refl _ _ | refine below_alloc ?_ _)⟩
end Go.Proofs.YtdeonehebbofiaaDoor
