/- The law AddrPaths: for every input the Go function returns true, and its arguments read as they did. No condition: every string and slice takes at most 2^47 - 4096 bytes, as the form has it. -/
import Derived.Test.YthhhaacoiknbpaaDoorRows
import Derived.Test.YthhhaacoiknbpaaDoorPALLx5
import Derived.Test.YthhhaacoiknbpaaDoorPureAddrPaths
import Derived.WalkKit
import Derived.ProofKit
import Derived.OpenShut
import Derived.ShutString
import Derived.ChangeOld
import Derived.Below
import Derived.SizedLaws
import Derived.HandedShaped
import Derived.Deep.DeepHandedRow
import Derived.Lay
import Derived.LaidMore
import Derived.LaidLaws
import Derived.SevenTiedAt
import Derived.Test.YthhhaacoiknbpaaDoorCards
import Derived.Test.YthhhaacoiknbpaaDoorTie
import Derived.Test.YthhhaacoiknbpaaDoorWSized
namespace Go.Proofs.YthhhaacoiknbpaaDoor.addrPaths
open Go.ChangeShapes Go.WideShapes Go.ChangeAt Go.RowKit Go.Proofs.YthhhaacoiknbpaaDoorW.PrintWords
open Go.ChangeMaps (open_string shut_string)
theorem own : ownKnob Tryd.prog.godebug = none := by kernel_rfl
theorem walk (a0 : ByteArray) (w : World) (hG : Glob w) (w0 : a0.size ≤ 140737488351232) :
    Calls Tryd.prog 7 #[.string a0] w fun e w' => e = .returned (.bool true) ∧ Below w.heap.size w w' := by
  obtain ⟨k, h⟩ := Pure.AddrPaths a0 w0
  refine (PALL.pillarboxlaw05_AddrPaths.calls k a0 true w hG h).mono ?_
  rintro e w' ⟨rfl, hd⟩
  exact ⟨rfl, hd⟩
/-- A world for the witness: the listed variables laid. -/
noncomputable def laidW (os : Os) : World := World.laidAll Tryd.prog os Rows.addrPathsRow.laid
theorem laid_met (os : Os) : laidMetH Tryd.prog Rows.addrPathsRow.laid ((laidW os).forCall (fun _ _ => 0) ⟨#[], #[(.string ByteArray.empty : Value)], []⟩).memory := by
  rw [MakeChecks.laidMetH_plain _ _ _ (by kernel_rfl)]
  exact laidMet_laidAll _ (by kernel_rfl) (by kernel_rfl)
theorem witness {H : Type} (enc : TypeId × Value → H) (os : Os) : ∃ (w : World) (tape : Tape) (i : Input), w.os = os ∧ (w.forCall tape i).Shaped Tryd.prog ∧ i.vars = [] ∧ Input.okWide Tryd.prog (w.forCall tape i) .any w.heap.size 7 i ∧
      (OpenSpec.ofChange Rows.addrPathsSpec).preRow enc Tryd.prog Tryd.f7 Rows.addrPathsRow.domain false Rows.addrPathsRow.laid (w.forCall tape i).memory i.args ∧ ({ modest := false } : Assume).holds Tryd.prog (lone (Frame.enter Tryd.prog 7 i.args .normal) [] (w.forCall tape i)) := by
  have hx : DataW.whole enc Tryd.prog ((laidW os).forCall (fun _ _ => 0) ⟨#[], #[(.string ByteArray.empty : Value)], []⟩).memory Tryd.f7.params.toList Rows.addrPathsSpec.vars false (#[(.string ByteArray.empty : Value)] : Array Value).toList 8 = some ([.lit (.string [])], [], []) := by kernel_rfl
  have hok : Input.okWideB Tryd.prog ((laidW os).forCall (fun _ _ => 0) ⟨#[], #[(.string ByteArray.empty : Value)], []⟩) 7 ⟨#[], #[(.string ByteArray.empty : Value)], []⟩ = true := by kernel_rfl
  exact ⟨laidW os, fun _ _ => 0, ⟨#[], #[(.string ByteArray.empty : Value)], []⟩, World.laidAll_os _ _ _, World.shaped_of_ZipB (by kernel_rfl) (by kernel_rfl), (Input.okWide_of_okWideB (base := 0) hok).1, (Input.okWide_of_okWideB hok).2,
    OpenSpec.preRow_of_cond 8 hx (by kernel_rfl) (fun k hk => by cases hk) (by kernel_rfl) (laid_met os), by
      simp only [Assume.holds]
      exact ⟨by simp, by simp, fun _ => Modest.zero, by simp, by simp⟩⟩
set_option maxRecDepth 100000 in
theorem lifted (os : Os) (started : os.Started) (H : Type) (enc : TypeId × Value → H) (F : Stop.Interp) :
    ReturnsInHanded {} Tryd.checked os 7 .any ((OpenSpec.ofChange Rows.addrPathsSpec).preRow enc Tryd.prog Tryd.f7 Rows.addrPathsRow.domain false Rows.addrPathsRow.laid) (((OpenSpec.ofChange Rows.addrPathsSpec).at F).post enc Tryd.prog Tryd.f7 false true false false) := by
  refine returnsInHanded_of_row (C := Tryd.checked) (s := OpenSpec.ofChange Rows.addrPathsSpec) own started (by kernel_rfl) Tryd.func7 (witness enc os) ?_
  intro W base args ds gs before hval0 hW hcnd hk0 hsz0 hL hsh _
  have hG : Glob W := Glob.of (Facts.of_shaped hsh)
  clear hsh
  have hsz : (DataW.weightsEach Tryd.prog (Tryd.f7.params.toList ++ Rows.addrPathsSpec.plain.varTypes Tryd.prog) (ds ++ gs)).all (· ≤ reachBytes) = true := hsz0
  have hval : ∀ (j : Nat) t v, Tryd.f7.params[j]? = some t → args[j]? = some v → Value.okWide Tryd.prog W .any base t v := hval0
  have hW' := hW
  obtain ⟨p, q, hA0, hV, rfl, hfz, hnd⟩ := hW
  have hA : DataW.TrodAll enc Tryd.prog W 0 (fun _ => true) true Tryd.f7.params.toList args.toList ds p := hA0
  rw [Tryd.params7] at hA hval hsz
  obtain ⟨v0, vs0, d0, ds0, p0, q0, hargs, rfl, rfl, h0, r0⟩ := trodAll_cons hA
  obtain ⟨rfl, rfl, rfl⟩ := trodAll_nil r0
  obtain rfl : args = #[v0] := by cases args; simp_all
  obtain ⟨rfl, rfl⟩ := trodVars_none hV
  obtain ⟨a0, rfl, rfl, rfl, y0⟩ := open_string Tryd.underlying9 (hval 0 9 v0 rfl rfl) h0
  have w0 : a0.size ≤ 140737488351232 := by
    have z := sized_string hsz (j := 0) (t := 9) rfl rfl
    rw [Array.length_toList] at z
    exact z
  clear hA0 hval0 hsz0 hsz
  refine (walk a0 W hG w0).mono fun e W' ⟨he, bel⟩ => ?_
  subst he
  exact ⟨_, rfl, _, _, _, [], _, [], hW', trodAll_mk1 (shut_bool Tryd.underlying4 _), (trodAll_cons_mk (shut_string Tryd.underlying9 y0) trodAll_mk0), rfl, bel.frame _, fun h => by cases h⟩
theorem said : Rows.AddrPathsSaid :=
  OpenClaim.holds_of_cond 7 Tryd.f7 rfl rfl rfl rfl rfl rfl rfl ⟨rfl, rfl, rfl, rfl, rfl⟩ rfl rfl rfl rfl rfl (by kernel_rfl) Tryd.func7 (by kernel_rfl)
    (of_decide_eq_true (by kernel_rfl)) (by unfold Func.isWrapper; first | (rw [if_pos (by decide +kernel)]; kernel_rfl) | (rw [if_neg (by decide +kernel)]; exact ⟨rfl, rfl⟩))
    (fun os started H enc _ F => by rw [OpenClaim.pre_eq_preRow]; exact lifted os started H enc F)
theorem plain (f : FuncId) (fn : Func) (hf : Tryd.pinned.checked.prog.funcNamed "pillarbox/pillarboxlaw05.AddrPaths" = some f) (hfn : Tryd.pinned.checked.prog.funcs[f]? = some fn) :
    false = Tryd.pinned.checked.prog.looks [] ∧ ∀ (j : Nat) t, fn.params[j]? = some t → Tryd.pinned.checked.prog.wantsStandIn t = false := by
  obtain rfl : f = 7 := Option.some.inj ((show Tryd.prog.funcNamed "pillarbox/pillarboxlaw05.AddrPaths" = some 7 by kernel_rfl).symm.trans hf) |>.symm
  obtain rfl : fn = Tryd.f7 := (Option.some.inj (Tryd.func7.symm.trans hfn)).symm
  refine ⟨by kernel_rfl, fun j t ht => ?_⟩
  rw [Tryd.params7] at ht
  have hm : t ∈ [9] := by simpa using Array.mem_of_getElem? ht
  have hall : ([9].all fun u => !Tryd.prog.wantsStandIn u) = true := by kernel_rfl
  exact (show Tryd.prog.wantsStandIn t = false by simpa using List.all_eq_true.1 hall t hm)
theorem card : Rows.AddrPathsCardSaid :=
  Claim7.holds_tied_plain_at .later [] _ _ _ _ said (fun _ h => by cases h) (by kernel_rfl) (fun _ h => by cases h) addrPaths_row_tie rfl ⟨rfl, rfl⟩ (by kernel_rfl) rfl plain (by kernel_rfl)
end Go.Proofs.YthhhaacoiknbpaaDoor.addrPaths
namespace Go.Proofs.YthhhaacoiknbpaaDoor
/-- The tied card, under a short name, for the claim. -/
theorem addrPaths_holds : Rows.AddrPathsCardSaid := addrPaths.card
#print axioms addrPaths_holds
end Go.Proofs.YthhhaacoiknbpaaDoor
