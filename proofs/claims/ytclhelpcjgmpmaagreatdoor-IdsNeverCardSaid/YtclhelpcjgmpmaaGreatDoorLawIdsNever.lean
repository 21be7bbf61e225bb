/- The law IdsNever: for every input the Go function returns true, and its arguments read as they did. No condition: every string and slice takes at most 2^47 - 4096 bytes, as the form has it. -/
import Derived.Test.YtclhelpcjgmpmaaGreatDoorRows
import Derived.Test.YtclhelpcjgmpmaaGreatDoorIdsNever
import Derived.WalkKit
import Derived.ProofKit
import Derived.OpenShut
import Derived.ShutString
import Derived.ChangeOld
import Derived.Below
import Derived.SizedLaws
import Derived.HandedShaped
import Derived.Deep.DeepHandedRow
import Derived.Lay
import Derived.LaidMore
import Derived.LaidLaws
import Derived.SevenTiedAt
import Derived.Test.YtclhelpcjgmpmaaGreatDoorCards
import Derived.Test.YtclhelpcjgmpmaaGreatDoorTie
import Derived.Test.YtclhelpcjgmpmaaGreatDoorWSized
namespace Go.Proofs.YtclhelpcjgmpmaaGreatDoor.idsNever
open Go.ChangeShapes Go.WideShapes Go.ChangeAt Go.RowKit Go.Proofs.YtclhelpcjgmpmaaGreatDoorW.PrintWords Go.Proofs.YtclhelpcjgmpmaaGreatDoor.Plain
open Go.ChangeMaps (open_string shut_string)
set_option linter.unusedVariables false
theorem own : ownKnob Tryz.prog.godebug = none := by kernel_rfl
theorem laidOut : laidOutB Tryz.prog = true := by kernel_rfl
def IsRow (k : IntKind) (w : World) (a : Option Addr) (len cap : Nat) (zs : List Int) : Prop :=
  (a = none ∧ len = 0 ∧ cap = 0 ∧ zs = []) ∨
  ∃ x, a = some x ∧ len ≤ cap ∧ cap ≤ maxLen ∧ zs.length = cap ∧ (∀ i, i < zs.length → w.cell? (x.add i) = some (.int k (zs.getD i 0))) ∧ ∀ n ∈ zs, (Lit.int k n).wf = true
/-- A world for the witness: the listed variables laid. -/
noncomputable def laidW (os : Os) : World := World.laidAll Tryz.prog os Rows.idsNeverRow.laid
theorem laid_met (os : Os) : laidMetH Tryz.prog Rows.idsNeverRow.laid ((laidW os).forCall (fun _ _ => 0) ⟨#[], #[(.slice none 0 0 : Value), (.slice none 0 0 : Value), (.int .i64 0 : Value)], []⟩).memory := by
  rw [MakeChecks.laidMetH_plain _ _ _ (by kernel_rfl)]
  exact laidMet_laidAll _ (by kernel_rfl) (by kernel_rfl)
theorem witness {H : Type} (enc : TypeId × Value → H) (os : Os) : ∃ (w : World) (tape : Tape) (i : Input), w.os = os ∧ (w.forCall tape i).Shaped Tryz.prog ∧ i.vars = [] ∧ Input.okWide Tryz.prog (w.forCall tape i) .any w.heap.size 7 i ∧
      (OpenSpec.ofChange Rows.idsNeverSpec).preRow enc Tryz.prog Tryz.f7 Rows.idsNeverRow.domain false Rows.idsNeverRow.laid (w.forCall tape i).memory i.args ∧ ({ modest := false } : Assume).holds Tryz.prog (lone (Frame.enter Tryz.prog 7 i.args .normal) [] (w.forCall tape i)) := by
  have hx : DataW.whole enc Tryz.prog ((laidW os).forCall (fun _ _ => 0) ⟨#[], #[(.slice none 0 0 : Value), (.slice none 0 0 : Value), (.int .i64 0 : Value)], []⟩).memory Tryz.f7.params.toList Rows.idsNeverSpec.vars false (#[(.slice none 0 0 : Value), (.slice none 0 0 : Value), (.int .i64 0 : Value)] : Array Value).toList 8 = some ([.nil, .nil, .lit (.int .i64 0)], [], []) := by kernel_rfl
  have hok : Input.okWideB Tryz.prog ((laidW os).forCall (fun _ _ => 0) ⟨#[], #[(.slice none 0 0 : Value), (.slice none 0 0 : Value), (.int .i64 0 : Value)], []⟩) 7 ⟨#[], #[(.slice none 0 0 : Value), (.slice none 0 0 : Value), (.int .i64 0 : Value)], []⟩ = true := by kernel_rfl
  exact ⟨laidW os, fun _ _ => 0, ⟨#[], #[(.slice none 0 0 : Value), (.slice none 0 0 : Value), (.int .i64 0 : Value)], []⟩, World.laidAll_os _ _ _, World.shaped_of_ZipB (by kernel_rfl) (by kernel_rfl), (Input.okWide_of_okWideB (base := 0) hok).1, (Input.okWide_of_okWideB hok).2,
    OpenSpec.preRow_of_cond 8 hx (by kernel_rfl) (fun k hk => by cases hk) (by kernel_rfl) (laid_met os), by
      simp only [Assume.holds]
      exact ⟨by simp, by simp, fun _ => Modest.zero, by simp, by simp⟩⟩
set_option maxRecDepth 100000 in
theorem lifted (os : Os) (started : os.Started) (H : Type) (enc : TypeId × Value → H) (F : Stop.Interp) :
    ReturnsInHanded {} Tryz.checked os 7 .any ((OpenSpec.ofChange Rows.idsNeverSpec).preRow enc Tryz.prog Tryz.f7 Rows.idsNeverRow.domain false Rows.idsNeverRow.laid) (((OpenSpec.ofChange Rows.idsNeverSpec).at F).post enc Tryz.prog Tryz.f7 false true false false) := by
  refine returnsInHanded_of_row (C := Tryz.checked) (s := OpenSpec.ofChange Rows.idsNeverSpec) own started (by kernel_rfl) Tryz.func7 (witness enc os) ?_
  intro W base args ds gs before hval0 hW hcnd hk0 hsz0 hL hsh _
  have hG : Fs.GI W := Fs.GI.of (Fs.facts_of_laid hL)
  clear hsh
  have hsz : (DataW.weightsEach Tryz.prog (Tryz.f7.params.toList ++ Rows.idsNeverSpec.plain.varTypes Tryz.prog) (ds ++ gs)).all (· ≤ reachBytes) = true := hsz0
  have hval : ∀ (j : Nat) t v, Tryz.f7.params[j]? = some t → args[j]? = some v → Value.okWide Tryz.prog W .any base t v := hval0
  have hW' := hW
  obtain ⟨p, q, hA0, hV, rfl, hfz, hnd⟩ := hW
  have hA : DataW.TrodAll enc Tryz.prog W 0 (fun _ => true) true Tryz.f7.params.toList args.toList ds p := hA0
  rw [Tryz.params7] at hA hval hsz
  obtain ⟨v0, vs0, d0, ds0, p0, q0, hargs, rfl, rfl, h0, r0⟩ := trodAll_cons hA
  obtain ⟨v1, vs1, d1, ds1, p1, q1, rfl, rfl, rfl, h1, r1⟩ := trodAll_cons r0
  obtain ⟨v2, vs2, d2, ds2, p2, q2, rfl, rfl, rfl, h2, r2⟩ := trodAll_cons r1
  obtain ⟨rfl, rfl, rfl⟩ := trodAll_nil r2
  obtain rfl : args = #[v0, v1, v2] := by cases args; simp_all
  obtain ⟨rfl, rfl⟩ := trodVars_none hV
  obtain ⟨a0, len0, cap0, rfl⟩ := okWide_slice Tryz.underlying41 (hval 0 41 v0 rfl rfl)
  have k0 := h0
  have lt0 : ∀ x ∈ p0, x.block < W.heap.size := by obtain ⟨m, hm⟩ := k0; exact DataW.trod_lt m _ _ _ hm
  obtain ⟨z0, w0⟩ : ∃ zs, IsRow .u8 W a0 len0 cap0 zs := by
    obtain ⟨fuel, hf⟩ := h0
    rcases open_ints Tryz.underlying41 Tryz.underlying5 (by kernel_rfl) hf with ⟨hcs, _⟩ | ⟨x, l, c, zs, hcs, _, hl, hm, hz, _, hcell, hwz⟩
    · simp [Value.cells] at hcs
      obtain ⟨rfl, rfl, rfl⟩ := hcs
      exact ⟨[], .inl ⟨rfl, rfl, rfl, rfl⟩⟩
    · simp [Value.cells] at hcs
      obtain ⟨rfl, rfl, rfl⟩ := hcs
      exact ⟨zs, .inr ⟨_, rfl, hl, hm, by simpa using hz, hcell, hwz⟩⟩
  have y0 : len0 * 1 ≤ 140737488351232 := sized_ints hsz (j := 0) (t := 41) rfl rfl Tryz.underlying41 Tryz.underlying5 (by kernel_rfl) (by kernel_rfl) h0
  obtain ⟨l0, e0, hr0, hm0, hw0, hc0⟩ := ReadsInt.ofRowC w0
  obtain ⟨u0, hu0⟩ := exB l0 hw0
  subst hu0
  obtain ⟨a1, len1, cap1, rfl⟩ := okWide_slice Tryz.underlying41 (hval 1 41 v1 rfl rfl)
  have k1 := h1
  have lt1 : ∀ x ∈ p1, x.block < W.heap.size := by obtain ⟨m, hm⟩ := k1; exact DataW.trod_lt m _ _ _ hm
  obtain ⟨z1, w1⟩ : ∃ zs, IsRow .u8 W a1 len1 cap1 zs := by
    obtain ⟨fuel, hf⟩ := h1
    rcases open_ints Tryz.underlying41 Tryz.underlying5 (by kernel_rfl) hf with ⟨hcs, _⟩ | ⟨x, l, c, zs, hcs, _, hl, hm, hz, _, hcell, hwz⟩
    · simp [Value.cells] at hcs
      obtain ⟨rfl, rfl, rfl⟩ := hcs
      exact ⟨[], .inl ⟨rfl, rfl, rfl, rfl⟩⟩
    · simp [Value.cells] at hcs
      obtain ⟨rfl, rfl, rfl⟩ := hcs
      exact ⟨zs, .inr ⟨_, rfl, hl, hm, by simpa using hz, hcell, hwz⟩⟩
  have y1 : len1 * 1 ≤ 140737488351232 := sized_ints hsz (j := 1) (t := 41) rfl rfl Tryz.underlying41 Tryz.underlying5 (by kernel_rfl) (by kernel_rfl) h1
  obtain ⟨l1, e1, hr1, hm1, hw1, hc1⟩ := ReadsInt.ofRowC w1
  obtain ⟨u1, hu1⟩ := exB l1 hw1
  subst hu1
  obtain ⟨a2, rfl, rfl, rfl, w2⟩ := open_int Tryz.underlying3 (hval 2 3 v2 rfl rfl) h2
  clear hA0 hval0 hsz0 hsz
  refine (Fs.idsNever (w := W) a0 len0 cap0 u0 (by first | exact hr0 | (subst e0; exact hr0)) (by first | exact hc0 | omega) (by omega) a1 len1 cap1 u1 (by first | exact hr1 | (subst e1; exact hr1)) (by first | exact hc1 | omega) (by omega) a2 w2 hG).mono fun e W' ⟨he, bel⟩ => ?_
  subst he
  exact ⟨_, rfl, _, _, _, [], _, [], hW', trodAll_mk1 (shut_bool Tryz.underlying4 _), (trodAll_cons_mk (Below.trod laidOut (by kernel_rfl) (of_decide_eq_true (by kernel_rfl)) k0 bel lt0) (trodAll_cons_mk (Below.trod laidOut (by kernel_rfl) (of_decide_eq_true (by kernel_rfl)) k1 bel lt1) (trodAll_cons_mk (shut_int Tryz.underlying3 w2) trodAll_mk0))), rfl, bel.frame _, fun h => by cases h⟩
theorem said : Rows.IdsNeverSaid :=
  OpenClaim.holds_of_cond 7 Tryz.f7 rfl rfl rfl rfl rfl rfl rfl ⟨rfl, rfl, rfl, rfl, rfl⟩ rfl rfl rfl rfl rfl (by kernel_rfl) Tryz.func7 (by kernel_rfl)
    (of_decide_eq_true (by kernel_rfl)) (by unfold Func.isWrapper; first | (rw [if_pos (by decide +kernel)]; kernel_rfl) | (rw [if_neg (by decide +kernel)]; exact ⟨rfl, rfl⟩))
    (fun os started H enc _ F => by rw [OpenClaim.pre_eq_preRow]; exact lifted os started H enc F)
theorem plain (f : FuncId) (fn : Func) (hf : Tryz.pinned.checked.prog.funcNamed "pillarbox/pillarboxlaw13.IdsNever" = some f) (hfn : Tryz.pinned.checked.prog.funcs[f]? = some fn) :
    true = Tryz.pinned.checked.prog.looks [] ∧ ∀ (j : Nat) t, fn.params[j]? = some t → Tryz.pinned.checked.prog.wantsStandIn t = false := by
  obtain rfl : f = 7 := Option.some.inj ((show Tryz.prog.funcNamed "pillarbox/pillarboxlaw13.IdsNever" = some 7 by kernel_rfl).symm.trans hf) |>.symm
  obtain rfl : fn = Tryz.f7 := (Option.some.inj (Tryz.func7.symm.trans hfn)).symm
  refine ⟨by kernel_rfl, fun j t ht => ?_⟩
  rw [Tryz.params7] at ht
  have hm : t ∈ [41, 41, 3] := by simpa using Array.mem_of_getElem? ht
  have hall : ([41, 41, 3].all fun u => !Tryz.prog.wantsStandIn u) = true := by kernel_rfl
  exact (show Tryz.prog.wantsStandIn t = false by simpa using List.all_eq_true.1 hall t hm)
theorem card : Rows.IdsNeverCardSaid :=
  Claim7.holds_tied_plain_at .later [] _ _ _ _ said (fun _ h => by cases h) (by kernel_rfl) (fun _ h => by cases h) idsNever_row_tie rfl ⟨rfl, rfl⟩ (by kernel_rfl) rfl plain (by kernel_rfl)
end Go.Proofs.YtclhelpcjgmpmaaGreatDoor.idsNever
namespace Go.Proofs.YtclhelpcjgmpmaaGreatDoor
/-- The tied card, under a short name, for the claim. -/
theorem idsNever_holds : Rows.IdsNeverCardSaid := idsNever.card
#print axioms idsNever_holds
end Go.Proofs.YtclhelpcjgmpmaaGreatDoor
