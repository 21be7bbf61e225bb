/- script: what the laws ask of a program that does something ('answers'). -/
import Derived.Test.YtkcdlfkicopmoaaDoorScrBack
namespace Go.Proofs.YtkcdlfkicopmoaaDoor.Fs
open Go.RowKit Go.Proofs.YtkcdlfkicopmoaaDoor Go.Proofs.YtkcdlfkicopmoaaDoor.Plain Go.Proofs.YtkcdlfkicopmoaaDoorW.PrintWords Go.Maps
set_option linter.unusedVariables false
set_option linter.unusedSimpArgs false
theorem itoa0 : Lib.itoa 0 = [48] := by
  show Lib.decDigits 0 = _
  rw [Lib.decDigits]; rfl
theorem itoa2 : Lib.itoa 2 = [50] := by
  show Lib.decDigits 2 = _
  rw [Lib.decDigits]; rfl
theorem itoa7 : Lib.itoa 7 = [55] := by
  show Lib.decDigits 7 = _
  rw [Lib.decDigits]; rfl
theorem itoaM : Lib.itoa (-1) = [45, 49] := by
  show 45 :: Lib.decDigits 1 = _
  rw [Lib.decDigits]; rfl
def xA : StepD := ⟨2, -1, 0, [97]⟩
def cA : ConfD := ⟨[97], [], 0, 0, 0, 0, 0, 0, 7, 0, 0, 0⟩
theorem xA_ok : StepOk xA := ⟨⟨by decide, by decide⟩, ⟨by decide, by decide⟩, ⟨by decide, by decide⟩, by decide⟩
theorem cA_ok : ConfOk cA := ⟨by intro n hn; have h : n = 0 ∨ n = 7 := (by simp [cA, ConfD.ints] at hn; omega); rcases h with rfl | rfl <;> exact ⟨by decide, by decide⟩, by decide, by decide, by decide⟩
theorem print_xA : printL [xA] = [50, 32, 45, 49, 32, 48, 32, 120, 54, 49, 10] := by
  show Lib.join [Lib.itoa 2, Lib.itoa (-1), Lib.itoa 0, 120 :: hexL [97]] [32] ++ [10] ++ [] = _
  rw [itoa2, itoaM, itoa0]
  rfl
theorem parse_xA : parseP readP [50, 32, 45, 49, 32, 48, 32, 120, 54, 49, 10] = .inl [xA] := by
  rw [← print_xA]
  exact parse_print _ (by intro x hx; rw [List.mem_singleton] at hx; rw [hx]; exact xA_ok)
theorem parse_no : parseP readP [48, 10] = .inr 1 := by
  unfold parseP
  rw [show ([48, 10] : Nm) = [48] ++ 10 :: [] from rfl, cuts_app (by decide), goP_line]
  have : readP [48] = none := by
    unfold readP
    rw [cuts_none (by decide)]
  rw [this]
theorem set_cA : setP (settingL cA) = some cA := set_setting _ cA_ok.ints
theorem hex16 : hexL [16] = [49, 48] := rfl
theorem set_len : (settingL cA).length ≤ 268435456 := by
  unfold settingL
  show (Lib.join [Lib.itoa 0, Lib.itoa 0, Lib.itoa 0, Lib.itoa 0, Lib.itoa 0, Lib.itoa 0, Lib.itoa 7, Lib.itoa 0, Lib.itoa 0, Lib.itoa 0, 120 :: hexL [97]] [32] ++ [32] ++ (Lib.join [Lib.itoa 0] [32] ++ [10])).length ≤ _
  rw [itoa0, itoa7]
  decide
theorem stepsNew {W : World} {b : Nat} {s : StepD} {t : TypeId} {fr : Nat × Nat} (h : W.heap[b]? = some (.cells #[.int .i64 s.kind, .int .i64 s.a, .int .i64 s.b, .string (S s.text)] t fr)) : StepsAt W (some ⟨b, 0, none⟩) [s] := by
  intro j hj
  obtain rfl : j = 0 := by simpa using hj
  refine ⟨_, rfl, fun i hi => ?_⟩
  have e : (⟨b, 0, none⟩ : Addr).add (0 * 4 + i) = ⟨b, i, none⟩ := by unfold Addr.add; split <;> simp_all
  rw [e]
  unfold World.cell?
  simp only []
  rw [h]
  rfl
theorem tOne {w0 W : World} {v : Value} {s : StepD} (h : TRow w0 v [s] W) : ∃ g c, v = .slice (some ⟨g, 0, none⟩) 1 c ∧ W.cell? ⟨g, 1, none⟩ = some (.int .i64 s.a) := by
  obtain ⟨A, c, rfl⟩ := h.slice
  have hr := h.row
  obtain ⟨ad, e, hc⟩ := h.at_ 0 (by simp)
  rcases hr.2 with ⟨h0, _⟩ | ⟨g, cap, cur, e2, _⟩
  · injection h0 with h1 _ _
    rw [e] at h1
    cases h1
  · injection e2 with e1 _ _
    subst e1
    cases e
    refine ⟨g, c, rfl, ?_⟩
    have := hc 1 (by omega)
    have e3 : (⟨g, 0, none⟩ : Addr).add (0 * 4 + 1) = ⟨g, 1, none⟩ := by unfold Addr.add; split <;> simp_all
    rw [e3] at this
    exact this
theorem cellAlloc {W : World} {a : Addr} {v : Value} (o : Obj) (h : W.cell? a = some v) : (W.alloc o).cell? a = some v :=
  (World.cell?_of_block ((below_alloc (Below.refl _ _) o).block _ (World.block_lt_of_cell? _ _ h))).trans h
set_option maxHeartbeats 4000000 in
set_option maxRecDepth 100000 in
theorem answersIs (w : World) (hG : GI w) : Calls Tryd.prog 11 #[] w fun e w' => e = .returned (.bool true) ∧ Below w.heap.size w w' := by
  have HB0 := Aside0.mk (Below.refl w.heap.size w)
  have HG := Aside0.mk hG
  have XP := printIs (some ⟨w.heap.size, 0, none⟩) 1 [xA] (by decide) (by intro x hx; rw [List.mem_singleton] at hx; rw [hx]; exact xA_ok) (by rw [print_xA]; decide) (w.alloc (.cells #[.int .i64 2, .int .i64 (-1), .int .i64 0, .string ⟨#[97]⟩] 39)) (stepsNew (s := xA) (heap_alloc_new w _)) (hG.below (below_alloc (Below.refl _ _) _))
  rw [print_xA, show S [50, 32, 45, 49, 32, 48, 32, 120, 54, 49, 10] = ⟨#[50, 32, 45, 49, 32, 48, 32, 120, 54, 49, 10]⟩ from rfl, show [xA].length = 1 from rfl] at XP
  have HR1 := Aside0.mk (show ∀ X : World, Below w.heap.size w X → Calls Tryd.prog 10 #[.string ⟨#[50, 32, 45, 49, 32, 48, 32, 120, 54, 49, 10]⟩] X fun e W' => Below X.heap.size X W' ∧ ∃ g c, e = .returned (.tuple #[.slice (some ⟨g, 0, none⟩) 1 c, .int .i64 0, .int .i64 0]) ∧ W'.cell? ⟨g, 1, none⟩ = some (.int .i64 (-1)) from fun (X : World) (hX : Below w.heap.size w X) => (parseIs [50, 32, 45, 49, 32, 48, 32, 120, 54, 49, 10] (by decide) X (hG.below hX)).mono (by
    rw [parse_xA]
    rintro e W' ⟨h1, v, h2, h3⟩
    obtain ⟨g, c, h4, h5⟩ := tOne h3
    subst h4
    exact ⟨h1, g, c, h2, h5⟩))
  have HR2 := Aside0.mk (show ∀ X : World, Below w.heap.size w X → Calls Tryd.prog 10 #[.string ⟨#[48, 10]⟩] X fun e W' => Below X.heap.size X W' ∧ e = .returned (.tuple #[.slice none 0 0, .int .i64 1, .int .i64 8]) from fun (X : World) (hX : Below w.heap.size w X) => (parseIs [48, 10] (by decide) X (hG.below hX)).mono (by
    rw [parse_no]
    rintro e W' ⟨h1, h2⟩
    exact ⟨h1, h2⟩))
  obtain ⟨L, hL⟩ : ∃ L, settingL cA = L := ⟨_, rfl⟩
  have HSE := Aside0.mk (show ∀ X : World, Below w.heap.size w X → Calls Tryd.prog 14 #[.agg #[.string ⟨#[97]⟩, .slice none 0 0, .int .i64 0, .int .i64 0, .int .i64 0, .int .i64 0, .int .i64 0, .int .i64 0, .int .i64 7, .int .i64 0, .int .i64 0, .int .i64 0]] X fun e W' => e = .returned (.string (S (settingL cA))) ∧ Below X.heap.size X W' from fun (X : World) (hX : Below w.heap.size w X) => settingIs cA cA_ok none 0 X X (Below.refl _ _) (fun j hj => absurd hj (by simp [cA])) (hG.below hX))
  have HST := Aside0.mk (show ∀ X : World, Below w.heap.size w X → Calls Tryd.prog 15 #[.string (S (settingL cA))] X fun e W' => Below X.heap.size X W' ∧ ∃ A cp, e = .returned (.tuple #[.agg #[.string ⟨#[97]⟩, .slice A 0 cp, .int .i64 0, .int .i64 0, .int .i64 0, .int .i64 0, .int .i64 0, .int .i64 0, .int .i64 7, .int .i64 0, .int .i64 0, .int .i64 0], .bool true]) from fun (X : World) (hX : Below w.heap.size w X) => (setIs (settingL cA) set_len X (hG.below hX)).mono (by
    rw [set_cA]
    rintro e W' ⟨h1, A, cp, h2, -⟩
    exact ⟨h1, A, cp, h2⟩))
  have HHX := Aside0.mk (fun (X : World) => hexIs [16] (by decide) X)
  rw [hL] at HSE HST
  rw [hex16, show S [16] = ⟨#[16]⟩ from rfl, show S [49, 48] = ⟨#[49, 48]⟩ from rfl] at HHX
  clear hG hL
  go_enter Tryd.func11, Tryd.ntmps11
  go_wp2_with (first
    | (go_at_call 9; refine XP.mono ?_; rintro e W1 ⟨rfl, hb⟩; have HB1 := Aside0.mk (chain' (below_alloc HB0.out _) hb); clear hb)
    | (go_at_call 10; refine (HR1.out _ HB1.out).mono ?_; rintro e W2 ⟨hb, g, c, rfl, hc⟩; have HB2 := Aside0.mk (chain' HB1.out hb); have HC2 := Aside0.mk hc; clear hb hc HR1)
    | (go_at_call 10; refine (HR2.out _ HB2.out).mono ?_; rintro e W3 ⟨hb, rfl⟩; have HC3 := Aside0.mk ((World.cell?_of_block (hb.block _ (World.block_lt_of_cell? _ _ HC2.out))).trans HC2.out); have HB3 := Aside0.mk (chain' HB2.out hb); clear hb)
    | (go_at_call 14; refine (HSE.out _ HB3.out).mono ?_; rintro e W4 ⟨rfl, hb⟩; have HC4 := Aside0.mk ((World.cell?_of_block (hb.block _ (World.block_lt_of_cell? _ _ HC3.out))).trans HC3.out); have HB4 := Aside0.mk (chain' HB3.out hb); clear hb)
    | (go_at_call 15; refine (HST.out _ HB4.out).mono ?_; rintro e W5 ⟨hb, A5, c5, rfl⟩; have HC5 := cellAlloc (.cells #[.string ⟨#[97]⟩, .slice A5 0 c5, .int .i64 0, .int .i64 0, .int .i64 0, .int .i64 0, .int .i64 0, .int .i64 0, .int .i64 7, .int .i64 0, .int .i64 0, .int .i64 0] 32) ((World.cell?_of_block (hb.block _ (World.block_lt_of_cell? _ _ HC4.out))).trans HC4.out); have HC6 := (confCells (heap_alloc_new W5 (.cells #[.string ⟨#[97]⟩, .slice A5 0 c5, .int .i64 0, .int .i64 0, .int .i64 0, .int .i64 0, .int .i64 0, .int .i64 0, .int .i64 7, .int .i64 0, .int .i64 0, .int .i64 0] 32))).2.2.2.2.2.2.2.2.1; have HB5 := Aside0.mk (chain' HB4.out hb); clear hb)
    | (go_at_call 20; refine (HHX.out _).mono ?_; rintro e W6 ⟨rfl, hb⟩; have HB6 := Aside0.mk hb; clear hb))
  all_goals go_ret
  all_goals exact ⟨rfl, chain' (below_alloc HB5.out _) HB6.out⟩
end Go.Proofs.YtkcdlfkicopmoaaDoor.Fs
