/- The law ScriptSettings, walked. -/
import Derived.Test.YtkcdlfkicopmoaaDoorScrConfOpen
namespace Go.Proofs.YtkcdlfkicopmoaaDoor.Fs
open Go.RowKit Go.Proofs.YtkcdlfkicopmoaaDoor Go.Proofs.YtkcdlfkicopmoaaDoor.Plain Go.Proofs.YtkcdlfkicopmoaaDoorW.PrintWords Go.Maps
set_option linter.unusedVariables false
set_option linter.unusedSimpArgs false
set_option maxHeartbeats 2000000 in
set_option maxRecDepth 100000 in
theorem scriptSettings {w : World} (v : Value) (hv : ConfOf w v) (hG : GI w) : Calls Tryd.prog 5 #[v] w fun e w' => e = .returned (.bool true) ∧ Below w.heap.size w w' := by
  obtain ⟨c, A, cp, rfl, hA, hI, hb⟩ := hv
  have hok : ConfOk c := ⟨hI, by omega, by omega, by omega⟩
  have hsl := settingL_length c hI (by omega)
  have XG := Aside0.mk (fun (X : World) (hX : Below w.heap.size w X) => settingIs c hok A cp w X hX hA hG)
  have XS := Aside0.mk (fun (X : World) (hX : Below w.heap.size w X) => setIs (settingL c) (by omega) X (hG.below hX))
  rw [set_setting c hI] at XS
  have XAN := Aside0.mk (fun (X : World) (hX : Below w.heap.size w X) => answersIs X (hG.below hX))
  have XR := Aside0.mk (fun (X : World) (hX : Below w.heap.size w X) => refSettingIs c hok A cp X (hA.below hX))
  have XM := Aside0.mk (fun (X : World) (hX : Below w.heap.size w X) (B' : Option Addr) (q : Nat) (hB : NamesAt X B' c.locals) => refSameIs c c hok hok A B' cp q X (hA.below hX) hB rfl)
  obtain ⟨T, hT⟩ : ∃ T, settingL c = T := ⟨_, rfl⟩
  rw [hT] at XG XS XR
  have HB0 := Aside0.mk (below_alloc (Below.refl w.heap.size w) (.cells (#[.string (S c.host), .slice A c.locals.length cp, .int .i64 c.i0, .int .i64 c.i1, .int .i64 c.i2, .int .i64 c.i3, .int .i64 c.i4, .int .i64 c.i5, .int .i64 c.i6, .int .i64 c.i7, .int .i64 c.i8, .int .i64 c.i9]) 32))
  have HX0 := Aside0.mk (show (w.alloc (.cells (#[.string (S c.host), .slice A c.locals.length cp, .int .i64 c.i0, .int .i64 c.i1, .int .i64 c.i2, .int .i64 c.i3, .int .i64 c.i4, .int .i64 c.i5, .int .i64 c.i6, .int .i64 c.i7, .int .i64 c.i8, .int .i64 c.i9]) 32)).heap[w.heap.size]? = some (.cells (cellsC A cp c) 32 (0, 0)) from heapAt rfl (Below.refl _ _))
  clear hA hI hb hok hsl hG hT
  unfold cellsC
  go_enter Tryd.func5, Tryd.ntmps5
  go_wp2_with (first
    | (go_at_call 14; refine (XG.out _ HB0.out).mono ?_; rintro e W1 ⟨rfl, hb⟩; have HB1 := Aside0.mk (chain' HB0.out hb); have HX1 := Aside0.mk (carry hb HX0.out); clear hb)
    | (go_at_call 15; refine (XS.out _ HB1.out).mono ?_; rintro e W2 ⟨hb, A2, c2, he, hn⟩; have he2 : e = .returned (.tuple #[.agg (#[.string (S c.host), .slice A2 c.locals.length c2, .int .i64 c.i0, .int .i64 c.i1, .int .i64 c.i2, .int .i64 c.i3, .int .i64 c.i4, .int .i64 c.i5, .int .i64 c.i6, .int .i64 c.i7, .int .i64 c.i8, .int .i64 c.i9]), .bool true]) := he; clear he; subst he2; have HN2 := Aside0.mk (show NamesAt W2 A2 c.locals from hn); have HB2 := Aside0.mk (below_alloc (chain' HB1.out hb) (.cells (#[.string (S c.host), .slice A2 c.locals.length c2, .int .i64 c.i0, .int .i64 c.i1, .int .i64 c.i2, .int .i64 c.i3, .int .i64 c.i4, .int .i64 c.i5, .int .i64 c.i6, .int .i64 c.i7, .int .i64 c.i8, .int .i64 c.i9]) 32)); have HY2 := Aside0.mk (show (W2.alloc (.cells (#[.string (S c.host), .slice A2 c.locals.length c2, .int .i64 c.i0, .int .i64 c.i1, .int .i64 c.i2, .int .i64 c.i3, .int .i64 c.i4, .int .i64 c.i5, .int .i64 c.i6, .int .i64 c.i7, .int .i64 c.i8, .int .i64 c.i9]) 32)).heap[W2.heap.size]? = some (.cells (cellsC A2 c2 c) 32 (0, 0)) from heapAt rfl (Below.refl _ _)); have HN2' := Aside0.mk (HN2.out.below (below_alloc (Below.refl _ _) (.cells (#[.string (S c.host), .slice A2 c.locals.length c2, .int .i64 c.i0, .int .i64 c.i1, .int .i64 c.i2, .int .i64 c.i3, .int .i64 c.i4, .int .i64 c.i5, .int .i64 c.i6, .int .i64 c.i7, .int .i64 c.i8, .int .i64 c.i9]) 32))); have HX2 := Aside0.mk (carry (below_alloc hb (.cells (#[.string (S c.host), .slice A2 c.locals.length c2, .int .i64 c.i0, .int .i64 c.i1, .int .i64 c.i2, .int .i64 c.i3, .int .i64 c.i4, .int .i64 c.i5, .int .i64 c.i6, .int .i64 c.i7, .int .i64 c.i8, .int .i64 c.i9]) 32)) HX1.out); clear hb hn)
    | (go_at_call 11; refine (XAN.out _ HB2.out).mono ?_; rintro e W3 ⟨rfl, hb⟩; have HB3 := Aside0.mk (chain' HB2.out hb); have HX3 := Aside0.mk (carry hb HX2.out); have HY3 := Aside0.mk (carry hb HY2.out); have HN3 := Aside0.mk (HN2'.out.below hb); obtain ⟨k0, k1, k2, k3, k4, k5, k6, k7, k8, k9, k10, k11⟩ := conf12 HX3.out; clear hb)
    | (go_at_call 16; refine (XR.out _ HB3.out).mono ?_; rintro e W4 ⟨rfl, hb⟩; have HB4 := Aside0.mk (chain' HB3.out hb); have HN4 := Aside0.mk (HN3.out.below hb); clear k0 k1 k2 k3 k4 k5 k6 k7 k8 k9 k10 k11; obtain ⟨k0, k1, k2, k3, k4, k5, k6, k7, k8, k9, k10, k11⟩ := conf12 (carry hb HX3.out); obtain ⟨j0, j1, j2, j3, j4, j5, j6, j7, j8, j9, j10, j11⟩ := conf12 (carry hb HY3.out); clear hb)
    | (go_at_call 17; refine (XM.out _ HB4.out _ _ HN4.out).mono ?_; rintro e W5 ⟨rfl, hb⟩; have HB5 := Aside0.mk (chain' HB4.out hb); clear hb))
  all_goals go_ret
  all_goals exact ⟨rfl, HB5.out⟩
end Go.Proofs.YtkcdlfkicopmoaaDoor.Fs
