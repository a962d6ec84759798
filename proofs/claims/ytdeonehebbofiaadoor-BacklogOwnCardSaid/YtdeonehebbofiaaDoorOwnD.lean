/-
  BacklogOwn returns true for every argument, and its arguments read as they did. Conditions: those of the given row (the listed package variables hold what the program's text lays).
-/
import Derived.Test.YtdeonehebbofiaaDoorOpen6
import Derived.Test.YtdeonehebbofiaaDoorOwn0
import Derived.Test.YtdeonehebbofiaaDoorRows
import Derived.Test.YtdeonehebbofiaaDoorTie
import Derived.Test.YtdeonehebbofiaaDoorCards
import Derived.ProofKit
import Derived.SizedLaws
import Derived.MakeChecks
import Derived.Deep.DeepHandedRow
import Derived.Deep.DeepWitnessRowRef
namespace Go.Proofs.YtdeonehebbofiaaDoor
open Go.ChangeShapes Go.WideShapes Go.ChangeAt Go.RowKit

set_option maxRecDepth 100000 in
theorem backlogOwn_sent {W : World} (h : laidMet Tryd.prog Rows.backlogOwnRow.laid W) : ∃ E, Sent W E := sentL_row (by kernel_rfl) (by kernel_rfl) (by kernel_rfl) h
set_option maxRecDepth 100000 in
theorem backlogOwn_met (os : Os) (args : Array Value) : laidMet Tryd.prog Rows.backlogOwnRow.laid ((worldS Rows.backlogOwnRow.laid os).forCall (fun _ _ => 0) ⟨#[], args, []⟩).memory :=
  laidMet_of_run' 8 (by kernel_rfl) (by kernel_rfl)
set_option maxRecDepth 100000 in
theorem backlogOwn_reads (os : Os) {H : Type} (enc : TypeId × Value → H) : ∃ places, DataW.whole enc Tryd.prog ((worldS Rows.backlogOwnRow.laid os).forCall (fun _ _ => 0) ⟨#[], #[.slice none 0 0], []⟩).memory Tryd.f5.params.toList Rows.backlogOwnSpec.vars false #[Value.slice none 0 0].toList 8 = some ([.nil], [], places) :=
  ⟨[], by kernel_rfl⟩

set_option maxHeartbeats 800000 in
set_option maxRecDepth 100000 in
theorem backlogOwn_contract (H : Type) (enc : TypeId × Value → H) (F : Stop.Interp) (W : World) (base : Nat) (args : Array Value) (ds gs : List (DataW H)) (before : List MemPlace)
    (hval : ∀ (j : Nat) t v, Tryd.f5.params[j]? = some t → args[j]? = some v → Value.okWide Tryd.prog W .any base t v)
    (hW : DataW.Whole enc Tryd.prog Tryd.f5.params.toList (OpenSpec.ofChange Rows.backlogOwnSpec).vars false W args.toList ds gs before)
    (hL : laidMet Tryd.prog Rows.backlogOwnRow.laid W) :
    Calls Tryd.prog 5 args W fun e W' => ∃ v, e = .returned v ∧ ((OpenSpec.ofChange Rows.backlogOwnSpec).at F).post enc Tryd.prog Tryd.f5 false true false false W args v W' := by
  have hW' := hW
  obtain ⟨p, q, hA0, hV, rfl, _, _⟩ := hW
  have hA : DataW.TrodAll enc Tryd.prog W 0 (fun _ => true) true Tryd.f5.params.toList args.toList ds p := hA0
  rw [Tryd.params5] at hA hval
  obtain ⟨v0, d0, rfl, rfl, h0⟩ := trodAll_one hA
  obtain ⟨rfl, rfl⟩ := trodVars_none hV
  obtain ⟨a0, len0, cap0, rfl⟩ := okWide_slice Tryd.underlying29 (hval 0 29 v0 rfl rfl)
  clear hA0
  simp only [List.append_nil] at hW'
  have hlt0 : ∀ x ∈ p, x.block < W.heap.size := fun x hx => by simpa using hW'.lt x (by simpa using hx)
  obtain ⟨E, hE⟩ := backlogOwn_sent hL
  obtain ⟨n0, hn0⟩ := h0
  obtain ⟨os0, hos0, hat0⟩ := nums_open (by simpa [Value.cells] using hn0)
  have walk : Calls Tryd.prog 5 #[.slice a0 len0 cap0] W fun e w' => e = .returned (.bool true) ∧ Below W.heap.size W w' := by
    subst hos0
    exact own_walk E W hE a0 cap0 os0 hat0
  refine walk.mono fun e W' ⟨he, bel⟩ => ?_
  subst he
  refine ⟨_, rfl, _, _, _, [], p, [], hW', ?_, ?_, ?_, bel.frame _, fun h => by cases h⟩
  · exact trodAll_mk1 (shut_bool Tryd.underlying4 true)
  · exact trodAll_mk1 (Below.trod row_laidOut (by kernel_rfl) (of_decide_eq_true (by kernel_rfl)) ⟨n0, hn0⟩ bel hlt0)
  · rfl

set_option maxRecDepth 100000 in
theorem backlogOwn_lifted (os : Os) (started : os.Started) (H : Type) (enc : TypeId × Value → H) (F : Stop.Interp) :
    ReturnsInHanded {} Tryd.checked os 5 .any ((OpenSpec.ofChange Rows.backlogOwnSpec).preRow enc Tryd.prog Tryd.f5 Rows.backlogOwnRow.domain false Rows.backlogOwnRow.laid) (((OpenSpec.ofChange Rows.backlogOwnSpec).at F).post enc Tryd.prog Tryd.f5 false true false false) := by
  obtain ⟨places, hx⟩ := backlogOwn_reads os enc
  refine returnsInHanded_of_row (C := Tryd.checked) (s := OpenSpec.ofChange Rows.backlogOwnSpec) row_own started (by kernel_rfl) Tryd.func5
    (witness_row_atRef (enc := enc) (C := Tryd.checked) false (worldS Rows.backlogOwnRow.laid os) #[.slice none 0 0] rfl (by kernel_rfl) (by kernel_rfl) (by kernel_rfl)
      (OpenSpec.preRow_of_cond 8 hx (by kernel_rfl) (fun k hk => by cases hk) (by kernel_rfl) (backlogOwn_met os _))) ?_
  intro W base args ds gs before hval hW _ _ hz hL _ _
  exact backlogOwn_contract H enc F W base args ds gs before hval hW (by rwa [MakeChecks.laidMetH_plain _ _ _ (by kernel_rfl)] at hL)
end Go.Proofs.YtdeonehebbofiaaDoor
