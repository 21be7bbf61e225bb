/- The law ScriptReads, walked. -/
import Derived.Test.YtkcdlfkicopmoaaDoorScrOpen
import Derived.Test.YtkcdlfkicopmoaaDoorScrRPrint
import Derived.Test.YtkcdlfkicopmoaaDoorScrRR
namespace Go.Proofs.YtkcdlfkicopmoaaDoor.Fs
open Go.RowKit Go.Proofs.YtkcdlfkicopmoaaDoor Go.Proofs.YtkcdlfkicopmoaaDoor.Plain Go.Proofs.YtkcdlfkicopmoaaDoorW.PrintWords Go.Maps
set_option linter.unusedVariables false
set_option linter.unusedSimpArgs false
theorem goP_inl : ∀ (u : Nm) (n : Nat) (xs : List StepD), goP readP n (cuts 10 u) = .inl xs → printL xs = u ∧ ∀ x ∈ xs, StepI x ∧ x.text.length ≤ u.length := by
  intro u
  induction u using split_ind 10 with
  | h0 u h =>
    intro n xs hg
    rw [cuts_none h, goP_one] at hg
    split at hg
    · rename_i he
      cases hg
      exact ⟨he.symm, fun x hx => by simp at hx⟩
    · cases hg
  | h1 a b ha ih =>
    intro n xs hg
    rw [cuts_app ha, goP_line] at hg
    cases hr : readP a with
    | none => rw [hr] at hg; cases hg
    | some x =>
      rw [hr] at hg
      simp only [] at hg
      cases hgo : goP readP (n + 1) (cuts 10 b) with
      | inr k => rw [hgo] at hg; cases hg
      | inl ys =>
        rw [hgo] at hg
        have hxs : [x] ++ ys = xs := by injection hg
        obtain ⟨i1, i2⟩ := ih (n + 1) ys hgo
        obtain ⟨e, j0, j1, j2⟩ := readP_some hr
        have ht : x.text.length ≤ a.length := by
          have h1 : (120 :: hexL x.text : Nm) ∈ cuts 32 a := by rw [(readP_parts hr).1]; simp
          have h2 := cuts_mem_length h1
          rw [List.length_cons, hexL_length] at h2
          omega
        subst hxs
        refine ⟨?_, fun y hy => ?_⟩
        · show stepL x ++ printL ys = _
          rw [i1, e]
          simp
        · rcases List.mem_cons.1 hy with rfl | hy
          · exact ⟨⟨j0, j1, j2⟩, by simp; omega⟩
          · obtain ⟨k1, k2⟩ := i2 y hy
            exact ⟨k1, by simp; omega⟩
theorem printL_count : ∀ l : List StepD, l.length ≤ (printL l).length
  | [] => Nat.zero_le _
  | x :: l => by
    have := printL_count l
    have h1 : 1 ≤ (stepL x).length := by unfold stepL lineL; simp
    simp only [printL, List.flatMap_cons, List.length_append, List.length_cons] at this ⊢
    omega
set_option maxHeartbeats 1000000 in
set_option maxRecDepth 100000 in
theorem scriptReads {w : World} (u : Nm) (hu : u.length ≤ 1048576) (hG : GI w) : Calls Tryd.prog 4 #[.string (S u)] w fun e w' => e = .returned (.bool true) ∧ Below w.heap.size w w' := by
  have XP := Aside0.mk (parseIs u (by omega) w hG)
  have XR := Aside0.mk (fun X => refReadIs u (by omega) X)
  have XAN := Aside0.mk (fun (X : World) (hX : Below w.heap.size w X) => answersIs X (hG.below hX))
  have HF := Aside0.mk True.intro
  cases hp : parseP readP u with
  | inl xs =>
    obtain ⟨h1, h2⟩ := goP_inl u 1 xs hp
    have hn : xs.length ≤ 1048576 := by have := printL_count xs; rw [h1] at this; omega
    have XM := Aside0.mk (fun (X : World) (A' : Option Addr) (c' : Nat) (h : StepsAt X A' xs) => refPrintIs A' c' xs (by omega) (fun x hx => ⟨(h2 x hx).1.1, (h2 x hx).1.2.1, (h2 x hx).1.2.2, by have := (h2 x hx).2; omega⟩) (by rw [h1]; omega) X h)
    rw [hp] at XP XR
    obtain ⟨T, hT⟩ : ∃ T, printL xs = T := ⟨_, rfl⟩
    rw [hT] at XM
    clear hG h1 h2 hn hp hT
    go_enter Tryd.func4, Tryd.ntmps4
    go_wp2_with (first
      | (go_at_call 10; refine XP.out.mono ?_; rintro e W1 ⟨hb, m, rfl, hm⟩; obtain ⟨A1, c1, rfl⟩ := hm.slice; have HB1 := Aside0.mk hb; have HM1 := Aside0.mk hm; clear hb hm)
      | (go_at_call 13; refine (XR.out _).mono ?_; rintro e W2 ⟨hb, m, rfl, hm⟩; obtain ⟨A2, c2, rfl⟩ := hm.slice; have HB2 := Aside0.mk (chain' HB1.out hb); have HM2 := Aside0.mk hm; have HL2 := Aside0.mk (HM1.out.step hb); clear hb hm)
      | (go_at_call 11; refine (XAN.out _ HB2.out).mono ?_; rintro e W3 ⟨rfl, hb⟩; have HB3 := Aside0.mk (chain' HB2.out hb); have HM3 := Aside0.mk (HM2.out.step hb).at_; have HL3 := Aside0.mk (HL2.out.step hb).at_; clear hb)
      | (go_at_call 12; clear HF; refine (XM.out _ _ _ HL3.out).mono ?_; rintro e W4 ⟨rfl, hb⟩; have HB4 := Aside0.mk (chain' HB3.out hb); have HM4 := Aside0.mk (HM3.out.below hb); clear hb)
      | (go_at_call 12; refine (XM.out _ _ _ HM4.out).mono ?_; rintro e W5 ⟨rfl, hb⟩; have HB5 := Aside0.mk (chain' HB4.out hb); clear hb))
    all_goals go_ret
    all_goals exact ⟨rfl, HB5.out⟩
  | inr k =>
    have XM := Aside0.mk (fun (X : World) => show Calls Tryd.prog 12 #[.slice none 0 0] X (fun e W' => e = .returned (.string (S [])) ∧ Below X.heap.size X W') from refPrintIs none 0 [] (by simp) (fun x hx => by simp at hx) (by simp [printL]) X (fun j hj => by simp at hj))
    rw [hp] at XP XR
    clear hG hp
    go_enter Tryd.func4, Tryd.ntmps4
    go_wp2_with (first
      | (go_at_call 10; refine XP.out.mono ?_; rintro e W1 ⟨hb, rfl⟩; have HB1 := Aside0.mk hb; clear hb)
      | (go_at_call 13; refine (XR.out _).mono ?_; rintro e W2 ⟨hb, rfl⟩; have HB2 := Aside0.mk (chain' HB1.out hb); clear hb)
      | (go_at_call 11; refine (XAN.out _ HB2.out).mono ?_; rintro e W3 ⟨rfl, hb⟩; have HB3 := Aside0.mk (chain' HB2.out hb); clear hb)
      | (go_at_call 12; clear HF; refine (XM.out _).mono ?_; rintro e W4 ⟨rfl, hb⟩; have HB4 := Aside0.mk (chain' HB3.out hb); clear hb)
      | (go_at_call 12; refine (XM.out _).mono ?_; rintro e W5 ⟨rfl, hb⟩; have HB5 := Aside0.mk (chain' HB4.out hb); clear hb))
    all_goals go_ret
    all_goals exact ⟨rfl, HB5.out⟩
end Go.Proofs.YtkcdlfkicopmoaaDoor.Fs
