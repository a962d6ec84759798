/-
  LaneAnswers returns true for every argument, and its arguments read as they did. Conditions: those of the given row (the listed package variables hold what the program's text lays).
-/
import Derived.Test.YtdeonehebbofiaaDoorOpen
import Derived.Test.YtdeonehebbofiaaDoorRows
import Derived.Test.YtdeonehebbofiaaDoorTie
import Derived.Test.YtdeonehebbofiaaDoorCards
import Derived.ProofKit
import Derived.SizedLaws
import Derived.MakeChecks
import Derived.Deep.DeepHandedRow
import Derived.Deep.DeepWitnessRowRef
namespace Go.Proofs.YtdeonehebbofiaaDoor
open Go.ChangeShapes Go.WideShapes Go.ChangeAt Go.RowKit

theorem ans_own : ownKnob Tryd.prog.godebug = none := by kernel_rfl
theorem ans_laidOut : laidOutB Tryd.prog = true := by kernel_rfl

/-! ### what the list gives -/
def sentList (l : List (String × DataW Unit)) : List (String × List UInt8) := (l.take 42).map fun x => (x.1, textOf x.2)
theorem sent_row {laid : List (String × DataW Unit)} {W : World} (hl : laid = (sentList laid).map mkS ++ laid.drop 42) (hlen : (sentList laid).length = 42)
    (hn : ((List.range 42).all fun i => match (sentList laid)[i]? with | some x => decide (Tryd.prog.globalNamed x.1 = some (gid (i + 1))) | none => false) = true)
    (h : laidMet Tryd.prog laid W) : ∃ E, Sent W E := sent_of (sentList laid) hl hlen hn (by kernel_rfl) h
set_option maxRecDepth 100000 in
theorem ans_sent {W : World} (h : laidMet Tryd.prog Rows.laneAnswersRow.laid W) : ∃ E, Sent W E := sent_row (by kernel_rfl) (by kernel_rfl) (by kernel_rfl) h
set_option maxRecDepth 100000 in
theorem forms_row : (Rows.laid_culvert_lane_forms : DataW Unit) = .agg ((List.range 8).map fun k : Nat => rowD (k : Int)) := by kernel_rfl
theorem ans_forms {W : World} (h : laidMet Tryd.prog Rows.laneAnswersRow.laid W) : Forms W := forms_of (by
  rw [← forms_row]
  exact Lib.laidMet.reads h (List.mem_of_getElem? (i := 42) rfl))

/-! ### a world that fits -/
noncomputable def low : Nat := (World.holding Tryd.prog default ⟨#[], #[], []⟩).heap.size
noncomputable def laidWorld (laid : List (String × DataW Unit)) (os : Os) : World :=
  let w0 := World.holding Tryd.prog os ⟨((laid.take 42).map fun x => Obj.cells #[.string ⟨(textOf x.2).toArray⟩] 229).toArray, #[], []⟩
  let put (h : Array Obj) (g : Nat) (cs : Array Value) : Array Obj := h.modify g fun
    | .cells _ t frozen => .cells cs t frozen
    | o => o
  let h1 := (List.range 42).foldl (fun h i => put h (gid (i + 1)) #[.iface 205 (.pointer (some ⟨low + i, 0, none⟩))]) w0.heap
  let h2 := put h1 3 ((List.range 8).flatMap fun k : Nat => [Value.int .i64 (fStream k), .int .i64 (fValue k), .bool (fOnce k), .int .u8 (fTyp k), .int .u16 (fFlags k)]).toArray
  { w0 with heap := h2 }
set_option maxRecDepth 100000 in
theorem ans_met (os : Os) (args : Array Value) : laidMet Tryd.prog Rows.laneAnswersRow.laid ((laidWorld Rows.laneAnswersRow.laid os).forCall (fun _ _ => 0) ⟨#[], args, []⟩).memory :=
  laidMet_of_run' 8 (by kernel_rfl) (by kernel_rfl)

set_option maxRecDepth 100000 in
theorem ans_reads (os : Os) {H : Type} (enc : TypeId × Value → H) : ∃ places, DataW.whole enc Tryd.prog ((laidWorld Rows.laneAnswersRow.laid os).forCall (fun _ _ => 0) ⟨#[], #[.bool false, .slice none 0 0], []⟩).memory Tryd.f6.params.toList Rows.laneAnswersSpec.vars false #[Value.bool false, .slice none 0 0].toList 8 = some ([.lit (.bool false), .nil], [], places) :=
  ⟨[], by kernel_rfl⟩

set_option maxHeartbeats 800000 in
set_option maxRecDepth 100000 in
theorem ans_contract (H : Type) (enc : TypeId × Value → H) (F : Stop.Interp) (W : World) (base : Nat) (args : Array Value) (ds gs : List (DataW H)) (before : List MemPlace)
    (hval : ∀ (j : Nat) t v, Tryd.f6.params[j]? = some t → args[j]? = some v → Value.okWide Tryd.prog W .any base t v)
    (hW : DataW.Whole enc Tryd.prog Tryd.f6.params.toList (OpenSpec.ofChange Rows.laneAnswersSpec).vars false W args.toList ds gs before)
    (hz : (DataW.weightsEach Tryd.prog (Tryd.f6.params.toList ++ (OpenSpec.ofChange Rows.laneAnswersSpec).bare.plain.varTypes Tryd.prog) (ds ++ gs)).all (· ≤ reachBytes) = true)
    (hL : laidMet Tryd.prog Rows.laneAnswersRow.laid W) :
    Calls Tryd.prog 6 args W fun e W' => ∃ v, e = .returned v ∧ ((OpenSpec.ofChange Rows.laneAnswersSpec).at F).post enc Tryd.prog Tryd.f6 false true false false W args v W' := by
  have hW' := hW
  obtain ⟨p, q, hA0, hV, rfl, _, _⟩ := hW
  have hA : DataW.TrodAll enc Tryd.prog W 0 (fun _ => true) true Tryd.f6.params.toList args.toList ds p := hA0
  rw [Tryd.params6] at hA hval
  obtain ⟨v0, v1, d0, d1, p0, p1, rfl, rfl, rfl, h0, h1⟩ := trodAll_two hA
  obtain ⟨rfl, rfl⟩ := trodVars_none hV
  obtain ⟨a, len, cap, rfl⟩ := okWide_slice Tryd.underlying49 (hval 1 49 v1 rfl rfl)
  obtain ⟨b, rfl, rfl, rfl⟩ := open_bool Tryd.underlying4 (hval 0 4 v0 rfl rfl) h0
  clear hA0
  simp only [List.append_nil, List.nil_append] at hW' hz
  have hlt : ∀ x ∈ p1, x.block < W.heap.size := fun x hx => by simpa using hW'.lt x (by simpa using hx)
  obtain ⟨E, hE⟩ := ans_sent hL
  have hF := ans_forms hL
  obtain ⟨n1, hn1⟩ := h1
  obtain ⟨os, hos, hat, hwf, hsz⟩ := ops_open (by simpa [Value.cells] using hn1)
  have hlen : os.length ≤ 5864062014634 := by
    rcases hsz with h | ⟨es, spare, rfl, hes⟩
    · omega
    · have hs := sized_slice (j := 1) hz (by rw [Tryd.params6]; rfl) rfl Tryd.underlying49
      rw [bytesOp] at hs
      unfold reachBytes at hs
      omega
  have walk : Calls Tryd.prog 6 #[.bool b, .slice a len cap] W fun e w' => e = .returned (.bool true) ∧ Below W.heap.size W w' := by
    subst hos
    cases b
    · exact answers_lane E W hE hF a cap os hat hwf hlen
    · exact answers_nil E W hE hF a cap os hat hwf hlen
  refine walk.mono fun e W' ⟨he, bel⟩ => ?_
  subst he
  refine ⟨_, rfl, _, _, _, [], [] ++ p1, [], hW', ?_, ?_, ?_, bel.frame _, fun h => by cases h⟩
  · exact trodAll_mk1 (shut_bool Tryd.underlying4 true)
  · exact trodAll_mk2 (shut_bool Tryd.underlying4 b) (Below.trod ans_laidOut (by kernel_rfl) (of_decide_eq_true (by kernel_rfl)) ⟨n1, hn1⟩ bel hlt)
  · rfl

set_option maxRecDepth 100000 in
theorem ans_lifted (os : Os) (started : os.Started) (H : Type) (enc : TypeId × Value → H) (F : Stop.Interp) :
    ReturnsInHanded {} Tryd.checked os 6 .any ((OpenSpec.ofChange Rows.laneAnswersSpec).preRow enc Tryd.prog Tryd.f6 Rows.laneAnswersRow.domain false Rows.laneAnswersRow.laid) (((OpenSpec.ofChange Rows.laneAnswersSpec).at F).post enc Tryd.prog Tryd.f6 false true false false) := by
  obtain ⟨places, hx⟩ := ans_reads os enc
  refine returnsInHanded_of_row (C := Tryd.checked) (s := OpenSpec.ofChange Rows.laneAnswersSpec) ans_own started (by kernel_rfl) Tryd.func6
    (witness_row_atRef (enc := enc) (C := Tryd.checked) false (laidWorld Rows.laneAnswersRow.laid os) #[.bool false, .slice none 0 0] rfl (by kernel_rfl) (by kernel_rfl) (by kernel_rfl)
      (OpenSpec.preRow_of_cond 8 hx (by kernel_rfl) (fun k hk => by cases hk) (by kernel_rfl) (ans_met os _))) ?_
  intro W base args ds gs before hval hW _ _ hz hL _ _
  exact ans_contract H enc F W base args ds gs before hval hW hz (by rwa [MakeChecks.laidMetH_plain _ _ _ (by kernel_rfl)] at hL)

end Go.Proofs.YtdeonehebbofiaaDoor
