/- The law BoxNames: for every input the Go function returns true, and its arguments read as they did. No condition: every string and slice takes at most 2^47 - 4096 bytes, as the form has it. -/
import Derived.Test.YtilgfpljjjbgdaaGreatDoorRows
import Derived.Test.YtilgfpljjjbgdaaGreatDoorBoxNamesLaw
import Derived.WalkKit
import Derived.ProofKit
import Derived.OpenShut
import Derived.ShutString
import Derived.ChangeOld
import Derived.Below
import Derived.SizedLaws
import Derived.HandedShaped
import Derived.Deep.DeepHandedRow
import Derived.Lay
import Derived.LaidMore
import Derived.LaidLaws
import Derived.SevenTiedAt
import Derived.Test.YtilgfpljjjbgdaaGreatDoorCards
import Derived.Test.YtilgfpljjjbgdaaGreatDoorTie
import Derived.Test.YtilgfpljjjbgdaaGreatDoorWSized
namespace Go.Proofs.YtilgfpljjjbgdaaGreatDoor.boxNames
open Go.ChangeShapes Go.WideShapes Go.ChangeAt Go.RowKit Go.Proofs.YtilgfpljjjbgdaaGreatDoorW.PrintWords Go.Proofs.YtilgfpljjjbgdaaGreatDoor.Plain
open Go.ChangeMaps (open_string shut_string)
set_option linter.unusedVariables false
theorem own : ownKnob Tryz.prog.godebug = none := by kernel_rfl
theorem laidOut : laidOutB Tryz.prog = true := by kernel_rfl
/-- A world for the witness: the listed variables laid. -/
noncomputable def laidW (os : Os) : World := World.laidAll Tryz.prog os Rows.boxNamesRow.laid
theorem laid_met (os : Os) : laidMetH Tryz.prog Rows.boxNamesRow.laid ((laidW os).forCall (fun _ _ => 0) ⟨#[], #[(.agg #[.string ByteArray.empty, .int .i64 0, .int .i64 0, .slice none 0 0] : Value), (.agg #[.string ByteArray.empty, .int .i64 0, .int .i64 0, .slice none 0 0] : Value)], []⟩).memory := by
  rw [MakeChecks.laidMetH_plain _ _ _ (by kernel_rfl)]
  exact laidMet_laidAll _ (by kernel_rfl) (by kernel_rfl)
theorem witness {H : Type} (enc : TypeId × Value → H) (os : Os) : ∃ (w : World) (tape : Tape) (i : Input), w.os = os ∧ (w.forCall tape i).Shaped Tryz.prog ∧ i.vars = [] ∧ Input.okWide Tryz.prog (w.forCall tape i) .any w.heap.size 4 i ∧
      (OpenSpec.ofChange Rows.boxNamesSpec).preRow enc Tryz.prog Tryz.f4 Rows.boxNamesRow.domain false Rows.boxNamesRow.laid (w.forCall tape i).memory i.args ∧ ({ modest := false } : Assume).holds Tryz.prog (lone (Frame.enter Tryz.prog 4 i.args .normal) [] (w.forCall tape i)) := by
  have hx : DataW.whole enc Tryz.prog ((laidW os).forCall (fun _ _ => 0) ⟨#[], #[(.agg #[.string ByteArray.empty, .int .i64 0, .int .i64 0, .slice none 0 0] : Value), (.agg #[.string ByteArray.empty, .int .i64 0, .int .i64 0, .slice none 0 0] : Value)], []⟩).memory Tryz.f4.params.toList Rows.boxNamesSpec.vars false (#[(.agg #[.string ByteArray.empty, .int .i64 0, .int .i64 0, .slice none 0 0] : Value), (.agg #[.string ByteArray.empty, .int .i64 0, .int .i64 0, .slice none 0 0] : Value)] : Array Value).toList 8 = some ([.agg [.lit (.string []), .lit (.int .i64 0), .lit (.int .i64 0), .nil], .agg [.lit (.string []), .lit (.int .i64 0), .lit (.int .i64 0), .nil]], [], []) := by kernel_rfl
  have hok : Input.okWideB Tryz.prog ((laidW os).forCall (fun _ _ => 0) ⟨#[], #[(.agg #[.string ByteArray.empty, .int .i64 0, .int .i64 0, .slice none 0 0] : Value), (.agg #[.string ByteArray.empty, .int .i64 0, .int .i64 0, .slice none 0 0] : Value)], []⟩) 4 ⟨#[], #[(.agg #[.string ByteArray.empty, .int .i64 0, .int .i64 0, .slice none 0 0] : Value), (.agg #[.string ByteArray.empty, .int .i64 0, .int .i64 0, .slice none 0 0] : Value)], []⟩ = true := by kernel_rfl
  exact ⟨laidW os, fun _ _ => 0, ⟨#[], #[(.agg #[.string ByteArray.empty, .int .i64 0, .int .i64 0, .slice none 0 0] : Value), (.agg #[.string ByteArray.empty, .int .i64 0, .int .i64 0, .slice none 0 0] : Value)], []⟩, World.laidAll_os _ _ _, World.shaped_of_ZipB (by kernel_rfl) (by kernel_rfl), (Input.okWide_of_okWideB (base := 0) hok).1, (Input.okWide_of_okWideB hok).2,
    OpenSpec.preRow_of_cond 8 hx (by kernel_rfl) (fun k hk => by cases hk) (by kernel_rfl) (laid_met os), by
      simp only [Assume.holds]
      exact ⟨by simp, by simp, fun _ => Modest.zero, by simp, by simp⟩⟩
set_option maxRecDepth 100000 in
theorem lifted (os : Os) (started : os.Started) (H : Type) (enc : TypeId × Value → H) (F : Stop.Interp) :
    ReturnsInHanded {} Tryz.checked os 4 .any ((OpenSpec.ofChange Rows.boxNamesSpec).preRow enc Tryz.prog Tryz.f4 Rows.boxNamesRow.domain false Rows.boxNamesRow.laid) (((OpenSpec.ofChange Rows.boxNamesSpec).at F).post enc Tryz.prog Tryz.f4 false true false false) := by
  refine returnsInHanded_of_row (C := Tryz.checked) (s := OpenSpec.ofChange Rows.boxNamesSpec) own started (by kernel_rfl) Tryz.func4 (witness enc os) ?_
  intro W base args ds gs before hval0 hW hcnd hk0 hsz0 hL hsh _
  have hG : Fs.GI W := Fs.GI.of (Fs.facts_of_laid hL hsh)
  clear hsh
  have hsz : (DataW.weightsEach Tryz.prog (Tryz.f4.params.toList ++ Rows.boxNamesSpec.plain.varTypes Tryz.prog) (ds ++ gs)).all (· ≤ reachBytes) = true := hsz0
  have hval : ∀ (j : Nat) t v, Tryz.f4.params[j]? = some t → args[j]? = some v → Value.okWide Tryz.prog W .any base t v := hval0
  have hW' := hW
  obtain ⟨p, q, hA0, hV, rfl, hfz, hnd⟩ := hW
  have hA : DataW.TrodAll enc Tryz.prog W 0 (fun _ => true) true Tryz.f4.params.toList args.toList ds p := hA0
  rw [Tryz.params4] at hA hval hsz
  obtain ⟨v0, vs0, d0, ds0, p0, q0, hargs, rfl, rfl, h0, r0⟩ := trodAll_cons hA
  obtain ⟨v1, vs1, d1, ds1, p1, q1, rfl, rfl, rfl, h1, r1⟩ := trodAll_cons r0
  obtain ⟨rfl, rfl, rfl⟩ := trodAll_nil r1
  obtain rfl : args = #[v0, v1] := by cases args; simp_all
  obtain ⟨rfl, rfl⟩ := trodVars_none hV
  have k0 := h0
  have lt0 : ∀ x ∈ p0, x.block < W.heap.size := by obtain ⟨m, hm⟩ := k0; exact DataW.trod_lt m _ _ _ hm
  have g0 := Fs.opOf (hval 0 29 v0 rfl rfl) h0 (fun x hx => of_decide_eq_true (List.all_eq_true.1 hsz x (DataW.weights_mem_each (j := 0) (t := 29) rfl rfl x hx)))
  have k1 := h1
  have lt1 : ∀ x ∈ p1, x.block < W.heap.size := by obtain ⟨m, hm⟩ := k1; exact DataW.trod_lt m _ _ _ hm
  have g1 := Fs.opOf (hval 1 29 v1 rfl rfl) h1 (fun x hx => of_decide_eq_true (List.all_eq_true.1 hsz x (DataW.weights_mem_each (j := 1) (t := 29) rfl rfl x hx)))
  clear hA0 hval0 hsz0 hsz
  refine (Fs.boxNames (w := W) v0 g0 v1 g1 hG).mono fun e W' ⟨he, bel⟩ => ?_
  subst he
  exact ⟨_, rfl, _, _, _, [], _, [], hW', trodAll_mk1 (shut_bool Tryz.underlying4 _), (trodAll_cons_mk (Below.trod laidOut (by kernel_rfl) (of_decide_eq_true (by kernel_rfl)) k0 bel lt0) (trodAll_cons_mk (Below.trod laidOut (by kernel_rfl) (of_decide_eq_true (by kernel_rfl)) k1 bel lt1) trodAll_mk0)), rfl, bel.frame _, fun h => by cases h⟩
theorem said : Rows.BoxNamesSaid :=
  OpenClaim.holds_of_cond 4 Tryz.f4 rfl rfl rfl rfl rfl rfl rfl ⟨rfl, rfl, rfl, rfl, rfl⟩ rfl rfl rfl rfl rfl (by kernel_rfl) Tryz.func4 (by kernel_rfl)
    (of_decide_eq_true (by kernel_rfl)) (by unfold Func.isWrapper; first | (rw [if_pos (by decide +kernel)]; kernel_rfl) | (rw [if_neg (by decide +kernel)]; exact ⟨rfl, rfl⟩))
    (fun os started H enc _ F => by rw [OpenClaim.pre_eq_preRow]; exact lifted os started H enc F)
theorem plain (f : FuncId) (fn : Func) (hf : Tryz.pinned.checked.prog.funcNamed "pillarbox/pillarboxlaw15.BoxNames" = some f) (hfn : Tryz.pinned.checked.prog.funcs[f]? = some fn) :
    true = Tryz.pinned.checked.prog.looks [] ∧ ∀ (j : Nat) t, fn.params[j]? = some t → Tryz.pinned.checked.prog.wantsStandIn t = false := by
  obtain rfl : f = 4 := Option.some.inj ((show Tryz.prog.funcNamed "pillarbox/pillarboxlaw15.BoxNames" = some 4 by kernel_rfl).symm.trans hf) |>.symm
  obtain rfl : fn = Tryz.f4 := (Option.some.inj (Tryz.func4.symm.trans hfn)).symm
  refine ⟨by kernel_rfl, fun j t ht => ?_⟩
  rw [Tryz.params4] at ht
  have hm : t ∈ [29, 29] := by simpa using Array.mem_of_getElem? ht
  have hall : ([29, 29].all fun u => !Tryz.prog.wantsStandIn u) = true := by kernel_rfl
  exact (show Tryz.prog.wantsStandIn t = false by simpa using List.all_eq_true.1 hall t hm)
theorem card : Rows.BoxNamesCardSaid :=
  Claim7.holds_tied_plain_at .later [] _ _ _ _ said (fun _ h => by cases h) (by kernel_rfl) (fun _ h => by cases h) boxNames_row_tie rfl ⟨rfl, rfl⟩ (by kernel_rfl) rfl plain (by kernel_rfl)
end Go.Proofs.YtilgfpljjjbgdaaGreatDoor.boxNames
namespace Go.Proofs.YtilgfpljjjbgdaaGreatDoor
/-- The tied card, under a short name, for the claim. -/
theorem boxNames_holds : Rows.BoxNamesCardSaid := boxNames.card
#print axioms boxNames_holds
end Go.Proofs.YtilgfpljjjbgdaaGreatDoor
