/-
  LaneMemory returns true for every argument, and its argument reads as it did. Conditions: those of the given row (the listed package variables hold what the program's text lays).
-/
import Derived.Test.YtdeonehebbofiaaDoorAns
import Derived.Test.YtdeonehebbofiaaDoorMemB
namespace Go.Proofs.YtdeonehebbofiaaDoor
open Go.ChangeShapes Go.WideShapes Go.ChangeAt Go.RowKit

set_option maxRecDepth 100000 in
theorem mem_sent {W : World} (h : laidMet Tryd.prog Rows.laneMemoryRow.laid W) : ∃ E, Sent W E := sent_row (by kernel_rfl) (by kernel_rfl) (by kernel_rfl) h
theorem mem_forms {W : World} (h : laidMet Tryd.prog Rows.laneMemoryRow.laid W) : Forms W := forms_of (by
  rw [← forms_row]
  exact Lib.laidMet.reads h (List.mem_of_getElem? (i := 42) rfl))
set_option maxRecDepth 100000 in
theorem mem_met (os : Os) (args : Array Value) : laidMet Tryd.prog Rows.laneMemoryRow.laid ((laidWorld Rows.laneMemoryRow.laid os).forCall (fun _ _ => 0) ⟨#[], args, []⟩).memory :=
  laidMet_of_run' 8 (by kernel_rfl) (by kernel_rfl)
set_option maxRecDepth 100000 in
theorem mem_reads (os : Os) {H : Type} (enc : TypeId × Value → H) : ∃ places, DataW.whole enc Tryd.prog ((laidWorld Rows.laneMemoryRow.laid os).forCall (fun _ _ => 0) ⟨#[], #[.slice none 0 0], []⟩).memory Tryd.f7.params.toList Rows.laneMemorySpec.vars false #[Value.slice none 0 0].toList 8 = some ([.nil], [], places) :=
  ⟨[], by kernel_rfl⟩

set_option maxHeartbeats 800000 in
set_option maxRecDepth 100000 in
theorem mem_contract (H : Type) (enc : TypeId × Value → H) (F : Stop.Interp) (W : World) (base : Nat) (args : Array Value) (ds gs : List (DataW H)) (before : List MemPlace)
    (hval : ∀ (j : Nat) t v, Tryd.f7.params[j]? = some t → args[j]? = some v → Value.okWide Tryd.prog W .any base t v)
    (hW : DataW.Whole enc Tryd.prog Tryd.f7.params.toList (OpenSpec.ofChange Rows.laneMemorySpec).vars false W args.toList ds gs before)
    (hz : (DataW.weightsEach Tryd.prog (Tryd.f7.params.toList ++ (OpenSpec.ofChange Rows.laneMemorySpec).bare.plain.varTypes Tryd.prog) (ds ++ gs)).all (· ≤ reachBytes) = true)
    (hL : laidMet Tryd.prog Rows.laneMemoryRow.laid W) :
    Calls Tryd.prog 7 args W fun e W' => ∃ v, e = .returned v ∧ ((OpenSpec.ofChange Rows.laneMemorySpec).at F).post enc Tryd.prog Tryd.f7 false true false false W args v W' := by
  have hW' := hW
  obtain ⟨p, q, hA0, hV, rfl, _, _⟩ := hW
  have hA : DataW.TrodAll enc Tryd.prog W 0 (fun _ => true) true Tryd.f7.params.toList args.toList ds p := hA0
  rw [Tryd.params7] at hA hval
  obtain ⟨v1, d1, rfl, rfl, h1⟩ := trodAll_one hA
  obtain ⟨rfl, rfl⟩ := trodVars_none hV
  obtain ⟨a, len, cap, rfl⟩ := okWide_slice Tryd.underlying49 (hval 0 49 v1 rfl rfl)
  clear hA0
  simp only [List.append_nil] at hW' hz
  have hlt : ∀ x ∈ p, x.block < W.heap.size := fun x hx => by simpa using hW'.lt x (by simpa using hx)
  obtain ⟨E, hE⟩ := mem_sent hL
  have hF := mem_forms hL
  obtain ⟨n1, hn1⟩ := h1
  obtain ⟨os, hos, hat, hwf, hsz⟩ := ops_open (by simpa [Value.cells] using hn1)
  have hlen : os.length ≤ 5864062014634 := by
    rcases hsz with h | ⟨es, spare, rfl, hes⟩
    · omega
    · have hs := sized_slice (j := 0) hz (by rw [Tryd.params7]; rfl) rfl Tryd.underlying49
      rw [bytesOp] at hs
      unfold reachBytes at hs
      omega
  have walk : Calls Tryd.prog 7 #[.slice a len cap] W fun e w' => e = .returned (.bool true) ∧ Below W.heap.size W w' := by
    subst hos
    exact memory_walk E W hE hF a cap os hat hwf hlen
  refine walk.mono fun e W' ⟨he, bel⟩ => ?_
  subst he
  refine ⟨_, rfl, _, _, _, [], p, [], hW', ?_, ?_, ?_, bel.frame _, fun h => by cases h⟩
  · exact trodAll_mk1 (shut_bool Tryd.underlying4 true)
  · exact trodAll_mk1 (Below.trod ans_laidOut (by kernel_rfl) (of_decide_eq_true (by kernel_rfl)) ⟨n1, hn1⟩ bel hlt)
  · rfl

set_option maxRecDepth 100000 in
theorem mem_lifted (os : Os) (started : os.Started) (H : Type) (enc : TypeId × Value → H) (F : Stop.Interp) :
    ReturnsInHanded {} Tryd.checked os 7 .any ((OpenSpec.ofChange Rows.laneMemorySpec).preRow enc Tryd.prog Tryd.f7 Rows.laneMemoryRow.domain false Rows.laneMemoryRow.laid) (((OpenSpec.ofChange Rows.laneMemorySpec).at F).post enc Tryd.prog Tryd.f7 false true false false) := by
  obtain ⟨places, hx⟩ := mem_reads os enc
  refine returnsInHanded_of_row (C := Tryd.checked) (s := OpenSpec.ofChange Rows.laneMemorySpec) ans_own started (by kernel_rfl) Tryd.func7
    (witness_row_atRef (enc := enc) (C := Tryd.checked) false (laidWorld Rows.laneMemoryRow.laid os) #[.slice none 0 0] rfl (by kernel_rfl) (by kernel_rfl) (by kernel_rfl)
      (OpenSpec.preRow_of_cond 8 hx (by kernel_rfl) (fun k hk => by cases hk) (by kernel_rfl) (mem_met os _))) ?_
  intro W base args ds gs before hval hW _ _ hz hL _ _
  exact mem_contract H enc F W base args ds gs before hval hW hz (by rwa [MakeChecks.laidMetH_plain _ _ _ (by kernel_rfl)] at hL)

end Go.Proofs.YtdeonehebbofiaaDoor
