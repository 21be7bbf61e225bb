/- The law ScriptLine, walked. -/
import Derived.Test.YtkcdlfkicopmoaaDoorScrOpen
import Derived.Test.YtkcdlfkicopmoaaDoorScrRR
namespace Go.Proofs.YtkcdlfkicopmoaaDoor.Fs
open Go.RowKit Go.Proofs.YtkcdlfkicopmoaaDoor Go.Proofs.YtkcdlfkicopmoaaDoor.Plain Go.Proofs.YtkcdlfkicopmoaaDoorW.PrintWords Go.Maps
set_option linter.unusedVariables false
set_option linter.unusedSimpArgs false
set_option maxHeartbeats 1000000 in
set_option maxRecDepth 100000 in
theorem scriptLine {w : World} (v : Value) (hv : StepsOf w v) (u : Nm) (hu : u.length ≤ 1048576) (hG : GI w) : Calls Tryd.prog 7 #[v, .string (S u)] w fun e w' => e = .returned (.bool true) ∧ Below w.heap.size w w' := by
  obtain ⟨A, c, l, rfl, hl, hI, hb⟩ := hv
  have hok := stepsOk hI hb
  have hlen := bulk_len l
  have hpl := printL_length l hI
  have hln : l.length ≤ 1048576 := by omega
  have XP := Aside0.mk (fun (X : World) (hX : Below w.heap.size w X) => printIs A c l (by omega) hok (by omega) X (hl.below hX) (hG.below hX))
  have XAN := Aside0.mk (fun (X : World) (hX : Below w.heap.size w X) => answersIs X (hG.below hX))
  have XR := Aside0.mk (fun X => refReadLineIs u (by omega) X)
  have XS := Aside0.mk (fun (X : World) (hX : Below w.heap.size w X) => parseIs (printL l ++ u ++ [10] ++ printL l) (by simp; omega) X (hG.below hX))
  have HPB := Aside0.mk (fun (h10 : (10 : UInt8) ∉ u) (hr : readP u = none) => show parseP readP (printL l ++ u ++ [10] ++ printL l) = .inr (l.length + 1) by
    have e : printL l ++ u ++ [10] ++ printL l = printL l ++ (u ++ 10 :: printL l) := by simp
    unfold parseP
    rw [e, goP_print l 1 _ hok, cuts_app h10, goP_line, hr]
    show Sum.inr (1 + l.length) = _
    rw [Nat.add_comm])
  have hpl2 : (printL l).length ≤ 15728640 := by omega
  obtain ⟨T, hT⟩ : ∃ T, printL l = T := ⟨_, rfl⟩
  rw [hT] at XP XS HPB hpl2
  have hz1 : (S T).size = T.length := S_size T
  have hz2 : (S u).size = u.length := S_size u
  have HB0 := Aside0.mk (Below.refl w.heap.size w)
  clear hok hlen hpl hT hG hl hI hb
  go_enter Tryd.func7, Tryd.ntmps7
  go_wp2
  go_loopw [5] (fun v5 wr => ∃ i : Nat, i ≤ u.length ∧ v5 = .int .i64 i ∧ wr = w ∧ Aside0 ((10 : UInt8) ∉ u.take i)) (fun v5 _ => u.length - (intOf v5).toNat)
  case atStart => exact ⟨0, by omega, rfl, rfl, ⟨by simp⟩⟩
  case round =>
    obtain ⟨i, hi, rfl, rfl, HN⟩ := hrel
    by_cases hlt : i < u.length
    · obtain ⟨b, hb⟩ : ∃ b, u[i] = b := ⟨_, rfl⟩
      have hgb : ∀ pf, (S u)[i]'pf = b := fun _ => hb
      by_cases h10 : b = 10
      · subst h10
        clear hb
        go_wp2_with (go_at_call 11; refine (XAN.out _ HB0.out).mono ?_; rintro e W3 ⟨rfl, hb⟩; have HB3 := Aside0.mk hb; clear hb)
        go_ret
        exact ⟨rfl, HB3.out⟩
      · have hne : ((b.toNat : Int) == 10) = false := toNat_ne (b := 10) h10
        have HN2 := Aside0.mk (show (10 : UInt8) ∉ u.take (i + 1) by
          rw [List.take_add_one, List.getElem?_eq_getElem hlt, hb, List.mem_append]
          rintro (h | h)
          · exact HN.out h
          · simp at h; exact h10 h.symm)
        clear hb h10 HN
        go_wp2
        go_roundw
        case rel => exact ⟨i + 1, by omega, by go_num, by trivial, HN2⟩
        case measure => simp [intOf] <;> omega
    · obtain rfl : i = u.length := by omega
      have h10 := HN.out
      rw [List.take_length] at h10
      cases hr : readP u with
      | some x =>
        obtain ⟨ex, eo⟩ := readX_some hr
        rw [ex, eo] at XR
        clear hr ex eo h10 HN
        go_wp2_with (first
          | (go_at_call 19; refine (XR.out _).mono ?_; rintro e W2 ⟨rfl, hb⟩; have HB2 := Aside0.mk hb; clear hb)
          | (go_at_call 11; refine (XAN.out _ (below_alloc HB2.out _)).mono ?_; rintro e W3 ⟨rfl, hb⟩; have HB3 := Aside0.mk (chain' (below_alloc HB2.out _) hb); clear hb))
        go_ret
        exact ⟨rfl, HB3.out⟩
      | none =>
        obtain ⟨ex, eo⟩ := readX_none hr
        have hpp := HPB.out h10 hr
        have HES := Aside0.mk (show S T ++ S u ++ (⟨#[10]⟩ : ByteArray) ++ S T = S (T ++ u ++ [10] ++ T) by rw [show (⟨#[10]⟩ : ByteArray) = S [10] from rfl]; simp only [S_append])
        rw [hpp, ← HES.out] at XS
        rw [ex, eo] at XR
        clear hr ex eo h10 HN hpp HPB HES
        go_wp2_with (first
          | (go_at_call 19; refine (XR.out _).mono ?_; rintro e W2 ⟨rfl, hb⟩; have HB2 := Aside0.mk (below_alloc hb (.cells #[.int .i64 0, .int .i64 0, .int .i64 0, .string (S [])] 39)); clear hb XR)
          | (go_at_call 9; refine (XP.out _ (by first | exact HB4.out | exact HB2.out)).mono ?_; rintro e W4 ⟨rfl, hb⟩; have HB4 := Aside0.mk (chain' (by first | exact HB4.out | exact HB2.out) hb); clear hb)
          | (go_at_call 10; refine (XS.out _ HB4.out).mono ?_; rintro e W5 ⟨hb, rfl⟩; have HB5 := Aside0.mk (chain' HB4.out hb); clear hb)
          | (go_at_call 11; refine (XAN.out _ HB5.out).mono ?_; rintro e W3 ⟨rfl, hb⟩; have HB3 := Aside0.mk (chain' HB5.out hb); clear hb))
        all_goals go_ret
        all_goals exact ⟨rfl, HB3.out⟩
end Go.Proofs.YtkcdlfkicopmoaaDoor.Fs
