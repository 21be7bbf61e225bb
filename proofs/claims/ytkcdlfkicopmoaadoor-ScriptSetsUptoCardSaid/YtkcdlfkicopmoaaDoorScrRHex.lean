/- ref27: Hex; the law ScriptHex. -/
import Derived.Test.YtkcdlfkicopmoaaDoorScrAns
namespace Go.Proofs.YtkcdlfkicopmoaaDoor.Fs
open Go.RowKit Go.Proofs.YtkcdlfkicopmoaaDoor Go.Proofs.YtkcdlfkicopmoaaDoor.Plain Go.Proofs.YtkcdlfkicopmoaaDoorW.PrintWords Go.Maps
set_option linter.unusedVariables false
set_option linter.unusedSimpArgs false
theorem hexCut (q : Nat) (h : q < 16) : (⟨#[48, 49, 50, 51, 52, 53, 54, 55, 56, 57, 97, 98, 99, 100, 101, 102]⟩ : ByteArray).extract q (q + 1) = S [hexd q] := by
  have hq : q = 0 ∨ q = 1 ∨ q = 2 ∨ q = 3 ∨ q = 4 ∨ q = 5 ∨ q = 6 ∨ q = 7 ∨ q = 8 ∨ q = 9 ∨ q = 10 ∨ q = 11 ∨ q = 12 ∨ q = 13 ∨ q = 14 ∨ q = 15 := by omega
  show (S [48, 49, 50, 51, 52, 53, 54, 55, 56, 57, 97, 98, 99, 100, 101, 102]).extract q (q + 1) = _
  rw [S_extract]
  rcases hq with rfl | rfl | rfl | rfl | rfl | rfl | rfl | rfl | rfl | rfl | rfl | rfl | rfl | rfl | rfl | rfl
  all_goals rfl
theorem wrapQ (q : Nat) (h : q < 16) : IntKind.u8.wrap (q : Int) = (q : Int) ∧ IntKind.u8.wrap ((q : Int) + 1) = (q : Int) + 1 := by
  have key : ∀ m : Fin 16, IntKind.u8.wrap ((m : Nat) : Int) = ((m : Nat) : Int) ∧ IntKind.u8.wrap (((m : Nat) : Int) + 1) = ((m : Nat) : Int) + 1 := by decide +kernel
  exact key ⟨q, h⟩
theorem hexSl (q : Nat) (h : q < 16) (W : World) : (Instr.slice 9 (.string ⟨#[48, 49, 50, 51, 52, 53, 54, 55, 56, 57, 97, 98, 99, 100, 101, 102]⟩) (some (.int .u8 (q : Int))) (some (.int .u8 ((q : Int) + 1))) none).run Tryd.prog W = .ok (.string (S [hexd q])) W := by
  rw [run_slice_string (P := Tryd.prog) (w := W) _ _ _ _ (q : Int) ((q : Int) + 1) Tryd.underlying9 (by omega) (by omega) (by show _ ≤ (16 : Int); omega), show ((q : Int) + 1).toNat = q + 1 by omega, Int.toNat_natCast, hexCut q h]
set_option maxHeartbeats 1000000 in
set_option maxRecDepth 100000 in
theorem refHexIs (u : Nm) (hu : u.length ≤ 1073741824) (w : World) : Calls Tryd.prog 21 #[.string (S u)] w fun e W' => e = .returned (.string (S (hexL u))) ∧ Below w.heap.size w W' := by
  go_enter Tryd.func21, Tryd.ntmps21
  go_wp2
  go_loopw [3, 4] (fun v3 v4 wr => ∃ i : Nat, i ≤ u.length ∧ v4 = .int .i64 i ∧ v3 = .string (S (hexL (u.take i))) ∧ Aside0 (Below w.heap.size w wr)) (fun _ v4 _ => u.length - (intOf v4).toNat)
  case atStart => exact ⟨0, by omega, rfl, rfl, ⟨Below.refl _ _⟩⟩
  case round =>
    obtain ⟨i, hi, rfl, rfl, HB⟩ := hrel
    by_cases hlt : i < u.length
    · obtain ⟨b, hb⟩ : ∃ b, u[i] = b := ⟨_, rfl⟩
      have hgb : ∀ pf, (S u)[i]'pf = b := fun _ => hb
      have hblt := b.toNat_lt
      obtain ⟨q, hq⟩ : ∃ q : Nat, b.toNat / 16 = q := ⟨_, rfl⟩
      obtain ⟨r, hr⟩ : ∃ r : Nat, b.toNat % 16 = r := ⟨_, rfl⟩
      have hq1 : (b.toNat : Int) / 16 = (q : Int) := by omega
      have hr1 : (b.toNat : Int).tmod 16 = (r : Int) := by rw [Int.tmod_eq_emod_of_nonneg (by omega)]; omega
      have hq3 : q < 16 := by omega
      have hr3 : r < 16 := by omega
      have hv1 := hexSl q hq3
      have hv2 := hexSl r hr3
      obtain ⟨hw1, hw2⟩ := wrapQ q hq3
      obtain ⟨hw3, hw4⟩ := wrapQ r hr3
      have HS := Aside0.mk (show hexL (u.take (i + 1)) = hexL (u.take i) ++ [hexd q, hexd r] by rw [List.take_add_one, List.getElem?_eq_getElem hlt, hb, ← hq, ← hr]; exact hexL_snoc _ _)
      obtain ⟨T, hT⟩ : ∃ T, hexL (u.take i) = T := ⟨_, rfl⟩
      have hTl : T.length ≤ 2147483648 := by rw [← hT, hexL_length, List.length_take]; omega
      have hz : (S T).size = T.length := S_size T
      have hz1 : (S [hexd q]).size = 1 := rfl
      have hz2 : (S [hexd r]).size = 1 := rfl
      have hc1 : (9223372036854775807 < T.length + 1) = False := by simp; omega
      have hc2 : (9223372036854775807 < T.length + 1 + 1) = False := by simp; omega
      rw [hT] at HS ⊢
      have HE := Aside0.mk (show S T ++ S [hexd q] ++ S [hexd r] = S (T ++ [hexd q, hexd r]) by rw [S_append, S_append, List.append_assoc]; rfl)
      clear hb hblt hq hr hT
      go_wp2
      go_region_law (fail)
      all_goals go_wp2
      all_goals exact ⟨⟨i + 1, by omega, by go_num, by rw [HS.out, ← HE.out], ⟨below_drew1 HB.out⟩⟩, by simp [intOf]; omega⟩
    · obtain rfl : i = u.length := by omega
      have HE := Aside0.mk (show hexL (u.take u.length) = hexL u by rw [List.take_length])
      go_wp2
      go_ret
      exact ⟨congrArg (fun s => Ending.returned (.string (S s))) HE.out, HB.out⟩
set_option maxHeartbeats 1000000 in
theorem scriptHex {w : World} (u : Nm) (hu : u.length ≤ 1048576) (hG : GI w) : Calls Tryd.prog 8 #[.string (S u)] w fun e w' => e = .returned (.bool true) ∧ Below w.heap.size w w' := by
  have HA := Aside0.mk (answersIs w hG)
  have HX := Aside0.mk (fun X : World => hexIs u (by omega) X)
  have HR := Aside0.mk (fun X : World => refHexIs u (by omega) X)
  obtain ⟨T, hT⟩ : ∃ T, hexL u = T := ⟨_, rfl⟩
  rw [hT] at HX HR
  clear hT hG
  go_enter Tryd.func8, Tryd.ntmps8
  go_wp2_with (first
    | (go_at_call 11; refine HA.out.mono ?_; rintro e W1 ⟨rfl, hb⟩; have HB1 := Aside0.mk hb; clear hb)
    | (go_at_call 20; refine (HX.out _).mono ?_; rintro e W2 ⟨rfl, hb⟩; have HB2 := Aside0.mk (chain' HB1.out hb); clear hb)
    | (go_at_call 21; refine (HR.out _).mono ?_; rintro e W3 ⟨rfl, hb⟩; have HB3 := Aside0.mk (chain' HB2.out hb); clear hb))
  all_goals go_ret
  all_goals exact ⟨rfl, HB3.out⟩
end Go.Proofs.YtkcdlfkicopmoaaDoor.Fs
