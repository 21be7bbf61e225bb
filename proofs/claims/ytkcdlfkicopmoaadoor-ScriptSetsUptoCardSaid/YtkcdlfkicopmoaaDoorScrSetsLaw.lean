/- The law ScriptSets, walked. -/
import Derived.Test.YtkcdlfkicopmoaaDoorScrRSet
import Derived.Test.YtkcdlfkicopmoaaDoorScrRSame
namespace Go.Proofs.YtkcdlfkicopmoaaDoor.Fs
open Go.RowKit Go.Proofs.YtkcdlfkicopmoaaDoor Go.Proofs.YtkcdlfkicopmoaaDoor.Plain Go.Proofs.YtkcdlfkicopmoaaDoorW.PrintWords Go.Maps
set_option linter.unusedVariables false
set_option linter.unusedSimpArgs false
theorem setP_ok {u : Nm} (hu : u.length ≤ 1048576) : ConfOk ((setP u).getD zeroC) := by
  cases h : setP u with
  | none => exact ⟨by intro n hn; have h : n = 0 := (by simp [zeroC, ConfD.ints] at hn; omega); rw [h]; exact ⟨by decide, by decide⟩, by decide, by decide, by decide⟩
  | some c =>
    obtain ⟨e, hI⟩ := setP_parts h
    have hl := congrArg List.length e
    rw [settingL_parts] at hl
    have h2 := p2L_length c.locals
    have h3 := hexL_length c.host
    simp only [List.length_append, List.length_cons, List.length_nil] at hl
    show ConfOk c
    exact ⟨hI, by omega, by omega, by omega⟩
set_option maxHeartbeats 2000000 in
set_option maxRecDepth 100000 in
theorem scriptSets {w : World} (u : Nm) (hu : u.length ≤ 1048576) (hG : GI w) : Calls Tryd.prog 6 #[.string (S u)] w fun e w' => e = .returned (.bool true) ∧ Below w.heap.size w w' := by
  have hok := setP_ok hu
  have XS := Aside0.mk (setIs u (by omega) w hG)
  have XR := Aside0.mk (fun (X : World) => refSetIs u (by omega) X)
  have XAN := Aside0.mk (fun (X : World) (hX : Below w.heap.size w X) => answersIs X (hG.below hX))
  unfold SetPost at XS XR
  obtain ⟨c, hc⟩ : ∃ c, (setP u).getD zeroC = c := ⟨_, rfl⟩
  obtain ⟨o, ho⟩ : ∃ o, (setP u).isSome = o := ⟨_, rfl⟩
  rw [hc] at hok
  rw [hc, ho] at XS
  simp only [hc, ho] at XR
  have XM := Aside0.mk (fun (X : World) (A B' : Option Addr) (p q : Nat) (hA : NamesAt X A c.locals) (hB : NamesAt X B' c.locals) => refSameIs c c hok hok A B' p q X hA hB rfl)
  clear hok hG hc ho
  go_enter Tryd.func6, Tryd.ntmps6
  go_wp2_with (first
    | (go_at_call 15; refine XS.out.mono ?_; rintro e W1 ⟨hb, A1, c1, he, hn⟩; have he2 : e = .returned (.tuple #[.agg (#[.string (S c.host), .slice A1 c.locals.length c1, .int .i64 c.i0, .int .i64 c.i1, .int .i64 c.i2, .int .i64 c.i3, .int .i64 c.i4, .int .i64 c.i5, .int .i64 c.i6, .int .i64 c.i7, .int .i64 c.i8, .int .i64 c.i9]), .bool o]) := he; clear he; subst he2; have HN1 := Aside0.mk ((show NamesAt W1 A1 c.locals from hn).below (below_alloc (Below.refl _ _) (.cells (#[.string (S c.host), .slice A1 c.locals.length c1, .int .i64 c.i0, .int .i64 c.i1, .int .i64 c.i2, .int .i64 c.i3, .int .i64 c.i4, .int .i64 c.i5, .int .i64 c.i6, .int .i64 c.i7, .int .i64 c.i8, .int .i64 c.i9]) 32))); have HB1 := Aside0.mk (below_alloc hb (.cells (#[.string (S c.host), .slice A1 c.locals.length c1, .int .i64 c.i0, .int .i64 c.i1, .int .i64 c.i2, .int .i64 c.i3, .int .i64 c.i4, .int .i64 c.i5, .int .i64 c.i6, .int .i64 c.i7, .int .i64 c.i8, .int .i64 c.i9]) 32)); have HX1 := Aside0.mk (show (W1.alloc (.cells (#[.string (S c.host), .slice A1 c.locals.length c1, .int .i64 c.i0, .int .i64 c.i1, .int .i64 c.i2, .int .i64 c.i3, .int .i64 c.i4, .int .i64 c.i5, .int .i64 c.i6, .int .i64 c.i7, .int .i64 c.i8, .int .i64 c.i9]) 32)).heap[W1.heap.size]? = some (.cells (cellsC A1 c1 c) 32 (0, 0)) from heapAt rfl (Below.refl _ _)); clear hb hn)
    | (go_at_call 18; refine (XR.out _).mono ?_; rintro e W2 ⟨hb, A2, c2, he, hn⟩; have he2 : e = .returned (.tuple #[.agg (#[.string (S c.host), .slice A2 c.locals.length c2, .int .i64 c.i0, .int .i64 c.i1, .int .i64 c.i2, .int .i64 c.i3, .int .i64 c.i4, .int .i64 c.i5, .int .i64 c.i6, .int .i64 c.i7, .int .i64 c.i8, .int .i64 c.i9]), .bool o]) := he; clear he; subst he2; have HN2 := Aside0.mk ((show NamesAt W2 A2 c.locals from hn).below (below_alloc (Below.refl _ _) (.cells (#[.string (S c.host), .slice A2 c.locals.length c2, .int .i64 c.i0, .int .i64 c.i1, .int .i64 c.i2, .int .i64 c.i3, .int .i64 c.i4, .int .i64 c.i5, .int .i64 c.i6, .int .i64 c.i7, .int .i64 c.i8, .int .i64 c.i9]) 32))); have HM2 := Aside0.mk (HN1.out.below (below_alloc hb (.cells (#[.string (S c.host), .slice A2 c.locals.length c2, .int .i64 c.i0, .int .i64 c.i1, .int .i64 c.i2, .int .i64 c.i3, .int .i64 c.i4, .int .i64 c.i5, .int .i64 c.i6, .int .i64 c.i7, .int .i64 c.i8, .int .i64 c.i9]) 32))); have HB2 := Aside0.mk (below_alloc (chain' HB1.out hb) (.cells (#[.string (S c.host), .slice A2 c.locals.length c2, .int .i64 c.i0, .int .i64 c.i1, .int .i64 c.i2, .int .i64 c.i3, .int .i64 c.i4, .int .i64 c.i5, .int .i64 c.i6, .int .i64 c.i7, .int .i64 c.i8, .int .i64 c.i9]) 32)); have HX2 := Aside0.mk (carry (below_alloc hb (.cells (#[.string (S c.host), .slice A2 c.locals.length c2, .int .i64 c.i0, .int .i64 c.i1, .int .i64 c.i2, .int .i64 c.i3, .int .i64 c.i4, .int .i64 c.i5, .int .i64 c.i6, .int .i64 c.i7, .int .i64 c.i8, .int .i64 c.i9]) 32)) HX1.out); have HY2 := Aside0.mk (show (W2.alloc (.cells (#[.string (S c.host), .slice A2 c.locals.length c2, .int .i64 c.i0, .int .i64 c.i1, .int .i64 c.i2, .int .i64 c.i3, .int .i64 c.i4, .int .i64 c.i5, .int .i64 c.i6, .int .i64 c.i7, .int .i64 c.i8, .int .i64 c.i9]) 32)).heap[W2.heap.size]? = some (.cells (cellsC A2 c2 c) 32 (0, 0)) from heapAt rfl (Below.refl _ _)); clear hb hn)
    | (go_at_call 11; refine (XAN.out _ HB2.out).mono ?_; rintro e W3 ⟨rfl, hb⟩; have HB3 := Aside0.mk (chain' HB2.out hb); have HN3 := Aside0.mk (HN2.out.below hb); have HM3 := Aside0.mk (HM2.out.below hb); obtain ⟨k0, k1, k2, k3, k4, k5, k6, k7, k8, k9, k10, k11⟩ := conf12 (carry hb HX2.out); obtain ⟨j0, j1, j2, j3, j4, j5, j6, j7, j8, j9, j10, j11⟩ := conf12 (carry hb HY2.out); clear hb)
    | (go_at_call 17; refine (XM.out _ _ _ _ _ HM3.out HN3.out).mono ?_; rintro e W5 ⟨rfl, hb⟩; have HB5 := Aside0.mk (chain' HB3.out hb); clear hb))
  all_goals go_ret
  all_goals exact ⟨rfl, HB5.out⟩
end Go.Proofs.YtkcdlfkicopmoaaDoor.Fs
