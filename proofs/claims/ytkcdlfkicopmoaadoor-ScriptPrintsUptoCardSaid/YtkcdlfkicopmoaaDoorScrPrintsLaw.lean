/- The law ScriptPrints, walked. -/
import Derived.Test.YtkcdlfkicopmoaaDoorScrOpen
import Derived.Test.YtkcdlfkicopmoaaDoorScrBack
import Derived.Test.YtkcdlfkicopmoaaDoorScrRPrint
namespace Go.Proofs.YtkcdlfkicopmoaaDoor.Fs
open Go.RowKit Go.Proofs.YtkcdlfkicopmoaaDoor Go.Proofs.YtkcdlfkicopmoaaDoor.Plain Go.Proofs.YtkcdlfkicopmoaaDoorW.PrintWords Go.Maps
set_option linter.unusedVariables false
set_option linter.unusedSimpArgs false
set_option maxHeartbeats 1000000 in
set_option maxRecDepth 100000 in
theorem scriptPrints {w : World} (v : Value) (hv : StepsOf w v) (hG : GI w) : Calls Tryd.prog 3 #[v] w fun e w' => e = .returned (.bool true) ∧ Below w.heap.size w w' := by
  obtain ⟨A, c, l, rfl, hl, hI, hb⟩ := hv
  have hok := stepsOk hI hb
  have hlen := bulk_len l
  have hpl := printL_length l hI
  have XP := Aside0.mk (printIs A c l (by omega) hok (by omega) w hl hG)
  have HSA := Aside0.mk hl
  have HG := Aside0.mk hG
  have XR := Aside0.mk (fun (X : World) (hX : Below w.heap.size w X) => refPrintIs A c l (by omega) hok (by omega) X (hl.below hX))
  have XM := Aside0.mk (fun (X : World) (A' : Option Addr) (c' : Nat) (h : StepsAt X A' l) => refPrintIs A' c' l (by omega) hok (by omega) X h)
  have XS := Aside0.mk (fun (X : World) (hX : Below w.heap.size w X) => parseIs (printL l) (by omega) X (hG.below hX))
  have HPB := parse_print l hok
  rw [HPB] at XS
  have XAN := Aside0.mk (fun (X : World) (hX : Below w.heap.size w X) => answersIs X (hG.below hX))
  obtain ⟨T, hT⟩ : ∃ T, printL l = T := ⟨_, rfl⟩
  rw [hT] at XP XR XM XS
  have HLL := Aside0.mk hb
  clear hok hlen hpl hT hG hl hI hb HPB
  go_enter Tryd.func3, Tryd.ntmps3
  have HF := Aside0.mk True.intro
  go_wp2_with (first
    | (go_at_call 9; refine XP.out.mono ?_; rintro e W1 ⟨rfl, hb⟩; have HB1 := Aside0.mk hb; clear hb)
    | (go_at_call 10; refine (XS.out _ HB1.out).mono ?_; rintro e W2 ⟨hb, m, rfl, hm⟩; obtain ⟨A2, c2, rfl⟩ := hm.slice; have HB2 := Aside0.mk (chain' HB1.out hb); have HM := Aside0.mk hm; clear hb hm)
    | (go_at_call 11; refine (XAN.out _ HB2.out).mono ?_; rintro e W3 ⟨rfl, hb⟩; have HB3 := Aside0.mk (chain' HB2.out hb); have HM3 := Aside0.mk (HM.out.step hb).at_; clear hb)
    | (go_at_call 12; clear HF; refine (XR.out _ HB3.out).mono ?_; rintro e W4 ⟨rfl, hb⟩; have HB4 := Aside0.mk (chain' HB3.out hb); have HM4 := Aside0.mk (HM3.out.below hb); clear hb)
    | (go_at_call 12; refine (XM.out _ _ _ HM4.out).mono ?_; rintro e W5 ⟨rfl, hb⟩; have HB5 := Aside0.mk (chain' HB4.out hb); clear hb))
  all_goals go_ret
  all_goals exact ⟨rfl, HB5.out⟩
end Go.Proofs.YtkcdlfkicopmoaaDoor.Fs
