/- ref27: Print. -/
import Derived.Test.YtkcdlfkicopmoaaDoorScrRLine
namespace Go.Proofs.YtkcdlfkicopmoaaDoor.Fs
open Go.RowKit Go.Proofs.YtkcdlfkicopmoaaDoor Go.Proofs.YtkcdlfkicopmoaaDoor.Plain Go.Proofs.YtkcdlfkicopmoaaDoorW.PrintWords Go.Maps
set_option linter.unusedVariables false
set_option linter.unusedSimpArgs false
set_option maxHeartbeats 1000000 in
set_option maxRecDepth 100000 in
theorem refPrintIs (A : Option Addr) (c : Nat) (l : List StepD) (hn : l.length ≤ 1073741824) (hok : ∀ x ∈ l, StepOk x) (hT : (printL l).length ≤ 1099511627776) (w : World) (h : StepsAt w A l) :
    Calls Tryd.prog 12 #[.slice A l.length c] w fun e W' => e = .returned (.string (S (printL l))) ∧ Below w.heap.size w W' := by
  have HS := Aside0.mk h
  have HOK := Aside0.mk hok
  have HT := Aside0.mk hT
  clear h hok hT
  go_enter Tryd.func12, Tryd.ntmps12
  go_wp2
  go_loopw [3, 4] (fun v3 v4 wr => ∃ i : Nat, i ≤ l.length ∧ v4 = .int .i64 i ∧ v3 = .string (S (printL (l.take i))) ∧ Aside0 (Below w.heap.size w wr)) (fun _ v4 _ => l.length - (intOf v4).toNat)
  case atStart => exact ⟨0, by omega, rfl, rfl, ⟨Below.refl _ _⟩⟩
  case round =>
    obtain ⟨i, hi, rfl, rfl, HB⟩ := hrel
    by_cases hlt : i < l.length
    · obtain ⟨ad, rfl, hcell⟩ := (HS.out.below HB.out) i hlt
      have hok := HOK.out _ (List.getElem_mem hlt)
      have HP := Aside0.mk (printL_succ hlt)
      have hL : (printL (l.take i)).length + (stepL l[i]).length ≤ 1099511627776 := by
        have h1 := congrArg List.length (printL_succ hlt)
        have h2 := printL_take l (i + 1)
        have h3 := HT.out
        rw [List.length_append] at h1
        omega
      obtain ⟨x, hx⟩ : ∃ x, l[i] = x := ⟨_, rfl⟩
      rw [hx] at hcell hok HP hL
      obtain ⟨d0, d1, d2, d3⟩ := stepCells hcell
      have XL := refLineIs x.kind x.a x.b x.text hok.kind hok.a hok.b hok.text wr
      obtain ⟨t, ht⟩ : ∃ t, stepL x = t := ⟨_, rfl⟩
      have ht' : stepL ⟨x.kind, x.a, x.b, x.text⟩ = t := ht
      obtain ⟨T, hT⟩ : ∃ T, printL (l.take i) = T := ⟨_, rfl⟩
      rw [ht'] at XL
      rw [ht, hT] at HP hL
      rw [hT]
      have hz1 : (S T).size = T.length := S_size T
      have hz2 : (S t).size = t.length := S_size t
      clear hx hok hcell ht ht' hT
      go_wp2_with (go_at_call 27; refine XL.mono ?_; rintro e W3 ⟨rfl, hb⟩; have HB3 := Aside0.mk (chain' HB.out hb); clear hb XL)
      go_roundw
      case rel => exact ⟨i + 1, by omega, by go_num, by rw [HP.out, S_append], HB3⟩
      case measure => simp [intOf]; omega
    · obtain rfl : i = l.length := by omega
      rw [List.take_length]
      go_wp2
      go_ret
      exact ⟨rfl, HB.out⟩
end Go.Proofs.YtkcdlfkicopmoaaDoor.Fs
