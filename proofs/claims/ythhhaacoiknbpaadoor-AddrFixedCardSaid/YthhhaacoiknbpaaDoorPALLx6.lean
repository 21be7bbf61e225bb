-- printed by a program of this session out of the translation. Not trusted: Lean checks it.
import Derived.Test.YthhhaacoiknbpaaDoorPALLx0
import Derived.Test.YthhhaacoiknbpaaDoorPALLx1
import Derived.Test.YthhhaacoiknbpaaDoorPALLx2
import Derived.Test.YthhhaacoiknbpaaDoorPALLx3
import Derived.Test.YthhhaacoiknbpaaDoorPALLx4
namespace Go.Proofs.YthhhaacoiknbpaaDoor.PALL
open Go.RowKit Go.Proofs.YthhhaacoiknbpaaDoorW.PrintWords Go.Proofs.YthhhaacoiknbpaaDoorW.PrintLast Go.Proofs.YthhhaacoiknbpaaDoorW.PrintMore
attribute [local go_sem] max2_int min2_int max_two min_two max_three min_three max_four min_four   -- for this text's walks alone
set_option linter.unusedVariables false
set_option linter.unusedSimpArgs false

/-! ### pillarboxlaw05_AddrFixed: function 4 -/
def pillarboxlaw05_AddrFixed.f (k : Nat) (a0 : ByteArray) : Option (Bool) := if (a0.size : Int) > 500 then ((pillarboxlaw05_answers.f k).bind fun t190 => (some t190)) else ((addr_Parse.f k a0).bind fun bt191 => (if bt191.2 = true then ((addr_Parse.f k bt191.1).bind fun bt194 => ((addr_Split.f k bt191.1).bind fun bt196 => ((pillarboxlaw05_answers.f k).bind fun t199 => (if t199 = true then (if bt194.2 = true then (if bt194.1.toList = bt191.1.toList then (if bt196.2.2 = true then (if bt196.1.size + 1 ≤ 9223372036854775807 then (if bt196.1.size + 1 + bt196.2.1.size ≤ 9223372036854775807 then (if ((bt196.1 ++ (⟨#[64]⟩ : ByteArray)) ++ bt196.2.1).toList = bt191.1.toList then ((addr_Domain.f k bt196.2.1).bind fun t200 => (if t200 = true then ((pillarboxref05_Small.f bt196.2.1).bind fun t201 => (if t201.toList = bt196.2.1.toList then (some (decide ((bt191.1.size : Int) ≤ 64))) else (some false))) else (some false))) else (some false)) else (none)) else (none)) else (some false)) else (some false)) else (some false)) else (some false))))) else ((pillarboxlaw05_answers.f k).bind fun t193 => (if t193 = true then (some (bt191.1.toList == ([] : List UInt8))) else (some false)))))
theorem pillarboxlaw05_AddrFixed.mono : ∀ a0 k, LeO (pillarboxlaw05_AddrFixed.f k a0) (pillarboxlaw05_AddrFixed.f (k + 1) a0) := by
  intro a0 k
  unfold pillarboxlaw05_AddrFixed.f
  repeat' first
      | (with_reducible exact addr_Domain.mono _ _)
      | (with_reducible exact addr_Parse.mono _ _)
      | (with_reducible exact addr_Split.mono _ _)
      | (with_reducible exact pillarboxlaw05_answers.mono _)
      | (with_reducible exact LeO.refl _)
      | (with_reducible exact LeO.none _)
      | (with_reducible refine LeO.ite ?_ ?_)
      | (with_reducible refine LeO.bind ?_ (fun _ => ?_))
      | exact addr_Domain.mono _ _
      | exact addr_Parse.mono _ _
      | exact addr_Split.mono _ _
      | exact pillarboxlaw05_answers.mono _
      | exact LeO.none _
      | refine LeO.ite ?_ ?_
      | refine LeO.bind ?_ (fun _ => ?_)
set_option maxHeartbeats 8000000 in
set_option maxRecDepth 100000 in
theorem pillarboxlaw05_AddrFixed.calls (k : Nat) (a0 : ByteArray) (r : Bool) (w : World) (hG : Glob w) (h : pillarboxlaw05_AddrFixed.f k a0 = some r) :
    Calls Tryd.prog 4 #[.string a0] w fun e w' => e = .returned (.bool r) ∧ Below w.heap.size w w' := by
  have HB := Aside0.mk (Below.refl w.heap.size w)
  have H : (if (a0.size : Int) > 500 then ((pillarboxlaw05_answers.f k).bind fun t190 => (some t190)) else ((addr_Parse.f k a0).bind fun bt191 => (if bt191.2 = true then ((addr_Parse.f k bt191.1).bind fun bt194 => ((addr_Split.f k bt191.1).bind fun bt196 => ((pillarboxlaw05_answers.f k).bind fun t199 => (if t199 = true then (if bt194.2 = true then (if bt194.1.toList = bt191.1.toList then (if bt196.2.2 = true then (if bt196.1.size + 1 ≤ 9223372036854775807 then (if bt196.1.size + 1 + bt196.2.1.size ≤ 9223372036854775807 then (if ((bt196.1 ++ (⟨#[64]⟩ : ByteArray)) ++ bt196.2.1).toList = bt191.1.toList then ((addr_Domain.f k bt196.2.1).bind fun t200 => (if t200 = true then ((pillarboxref05_Small.f bt196.2.1).bind fun t201 => (if t201.toList = bt196.2.1.toList then (some (decide ((bt191.1.size : Int) ≤ 64))) else (some false))) else (some false))) else (some false)) else (none)) else (none)) else (some false)) else (some false)) else (some false)) else (some false))))) else ((pillarboxlaw05_answers.f k).bind fun t193 => (if t193 = true then (some (bt191.1.toList == ([] : List UInt8))) else (some false)))))) = some r := h
  clear h
  by_cases c2 : (a0.size : Int) > 500
  · rw [if_pos c2] at H
    have c2b0 : decide (500 < (a0.size : Int)) = true := decide_eq_true c2
    have c2b1 : decide (500 < a0.size) = true := decide_eq_true (by omega)
    clear c2
    replace H := Option.bind_eq_some_iff.mp H
    obtain ⟨t190, A30, H⟩ := H
    replace H : (some t190) = some r := H
    have A3 := Aside0.mk A30
    clear A30
    obtain rfl := Option.some.inj H
    go_enter Tryd.func4, Tryd.ntmps4
    go_wp2_with (first | ((with_reducible refine gate_callee (f := 8) rfl ?_); refine goesL_ (some 13) rfl rfl Tryd.func8 (by kernel_rfl) rfl #[] rfl (by (try simp only [List.map_toArray, List.map_cons, List.map_nil]); first | done | rfl | (simp only [List.length_drop, List.length_take]; rfl)) ?_; (with_reducible refine (pillarboxlaw05_answers.calls k  t190 _ ?side1 A3.out).mono ?_); (case side1 => first | exact hG | exact Glob.below hG (by repeat (first | (with_reducible first | exact HB.out | apply below_alloc | apply pw_below_drewN | apply below_drew1) | exact HB.out))); rintro e w4 ⟨rfl, hb⟩; refine ⟨_, rfl, ?_⟩; have n0_ := Aside0.mk (below_step (by repeat (first | (with_reducible first | exact HB.out | apply below_alloc | apply pw_below_drewN | apply below_drew1) | exact HB.out)) hb); clear HB; have HB := n0_; clear n0_; (try clear hb); (try clear hb2); (try clear hk); (try clear hi)))
    go_ret
    exact ⟨by first | rfl | (simp [errW_none, errW_some] <;> rfl) | (simp [*, errW_none, errW_some] <;> rfl), by repeat (first | (with_reducible first | exact HB.out | apply below_alloc | apply pw_below_drewN | apply below_drew1) | exact HB.out)⟩
  · rw [if_neg c2] at H
    have c2b0 : decide (500 < (a0.size : Int)) = false := decide_eq_false c2
    have c2b1 : decide (500 < a0.size) = false := decide_eq_false (by omega)
    clear c2
    replace H := Option.bind_eq_some_iff.mp H
    obtain ⟨⟨t191, t192⟩, A50, H⟩ := H
    replace H : (if t192 = true then ((addr_Parse.f k t191).bind fun bt194 => ((addr_Split.f k t191).bind fun bt196 => ((pillarboxlaw05_answers.f k).bind fun t199 => (if t199 = true then (if bt194.2 = true then (if bt194.1.toList = t191.toList then (if bt196.2.2 = true then (if bt196.1.size + 1 ≤ 9223372036854775807 then (if bt196.1.size + 1 + bt196.2.1.size ≤ 9223372036854775807 then (if ((bt196.1 ++ (⟨#[64]⟩ : ByteArray)) ++ bt196.2.1).toList = t191.toList then ((addr_Domain.f k bt196.2.1).bind fun t200 => (if t200 = true then ((pillarboxref05_Small.f bt196.2.1).bind fun t201 => (if t201.toList = bt196.2.1.toList then (some (decide ((t191.size : Int) ≤ 64))) else (some false))) else (some false))) else (some false)) else (none)) else (none)) else (some false)) else (some false)) else (some false)) else (some false))))) else ((pillarboxlaw05_answers.f k).bind fun t193 => (if t193 = true then (some (t191.toList == ([] : List UInt8))) else (some false)))) = some r := H
    have A5 := Aside0.mk A50
    clear A50
    by_cases c6 : t192 = true
    · subst c6
      have H1 : ((addr_Parse.f k t191).bind fun bt194 => ((addr_Split.f k t191).bind fun bt196 => ((pillarboxlaw05_answers.f k).bind fun t199 => (if t199 = true then (if bt194.2 = true then (if bt194.1.toList = t191.toList then (if bt196.2.2 = true then (if bt196.1.size + 1 ≤ 9223372036854775807 then (if bt196.1.size + 1 + bt196.2.1.size ≤ 9223372036854775807 then (if ((bt196.1 ++ (⟨#[64]⟩ : ByteArray)) ++ bt196.2.1).toList = t191.toList then ((addr_Domain.f k bt196.2.1).bind fun t200 => (if t200 = true then ((pillarboxref05_Small.f bt196.2.1).bind fun t201 => (if t201.toList = bt196.2.1.toList then (some (decide ((t191.size : Int) ≤ 64))) else (some false))) else (some false))) else (some false)) else (none)) else (none)) else (some false)) else (some false)) else (some false)) else (some false))))) = some r := by rw [if_pos rfl] at H; exact H
      clear H
      have H := H1
      clear H1
      replace H := Option.bind_eq_some_iff.mp H
      obtain ⟨⟨t194, t195⟩, A70, H⟩ := H
      replace H : ((addr_Split.f k t191).bind fun bt196 => ((pillarboxlaw05_answers.f k).bind fun t199 => (if t199 = true then (if t195 = true then (if t194.toList = t191.toList then (if bt196.2.2 = true then (if bt196.1.size + 1 ≤ 9223372036854775807 then (if bt196.1.size + 1 + bt196.2.1.size ≤ 9223372036854775807 then (if ((bt196.1 ++ (⟨#[64]⟩ : ByteArray)) ++ bt196.2.1).toList = t191.toList then ((addr_Domain.f k bt196.2.1).bind fun t200 => (if t200 = true then ((pillarboxref05_Small.f bt196.2.1).bind fun t201 => (if t201.toList = bt196.2.1.toList then (some (decide ((t191.size : Int) ≤ 64))) else (some false))) else (some false))) else (some false)) else (none)) else (none)) else (some false)) else (some false)) else (some false)) else (some false)))) = some r := H
      have A7 := Aside0.mk A70
      clear A70
      replace H := Option.bind_eq_some_iff.mp H
      obtain ⟨⟨t196, t197, t198⟩, A80, H⟩ := H
      replace H : ((pillarboxlaw05_answers.f k).bind fun t199 => (if t199 = true then (if t195 = true then (if t194.toList = t191.toList then (if t198 = true then (if t196.size + 1 ≤ 9223372036854775807 then (if t196.size + 1 + t197.size ≤ 9223372036854775807 then (if ((t196 ++ (⟨#[64]⟩ : ByteArray)) ++ t197).toList = t191.toList then ((addr_Domain.f k t197).bind fun t200 => (if t200 = true then ((pillarboxref05_Small.f t197).bind fun t201 => (if t201.toList = t197.toList then (some (decide ((t191.size : Int) ≤ 64))) else (some false))) else (some false))) else (some false)) else (none)) else (none)) else (some false)) else (some false)) else (some false)) else (some false))) = some r := H
      have A8 := Aside0.mk A80
      clear A80
      replace H := Option.bind_eq_some_iff.mp H
      obtain ⟨t199, A90, H⟩ := H
      replace H : (if t199 = true then (if t195 = true then (if t194.toList = t191.toList then (if t198 = true then (if t196.size + 1 ≤ 9223372036854775807 then (if t196.size + 1 + t197.size ≤ 9223372036854775807 then (if ((t196 ++ (⟨#[64]⟩ : ByteArray)) ++ t197).toList = t191.toList then ((addr_Domain.f k t197).bind fun t200 => (if t200 = true then ((pillarboxref05_Small.f t197).bind fun t201 => (if t201.toList = t197.toList then (some (decide ((t191.size : Int) ≤ 64))) else (some false))) else (some false))) else (some false)) else (none)) else (none)) else (some false)) else (some false)) else (some false)) else (some false)) = some r := H
      have A9 := Aside0.mk A90
      clear A90
      by_cases c10 : t199 = true
      · subst c10
        have H1 : (if t195 = true then (if t194.toList = t191.toList then (if t198 = true then (if t196.size + 1 ≤ 9223372036854775807 then (if t196.size + 1 + t197.size ≤ 9223372036854775807 then (if ((t196 ++ (⟨#[64]⟩ : ByteArray)) ++ t197).toList = t191.toList then ((addr_Domain.f k t197).bind fun t200 => (if t200 = true then ((pillarboxref05_Small.f t197).bind fun t201 => (if t201.toList = t197.toList then (some (decide ((t191.size : Int) ≤ 64))) else (some false))) else (some false))) else (some false)) else (none)) else (none)) else (some false)) else (some false)) else (some false)) = some r := by rw [if_pos rfl] at H; exact H
        clear H
        have H := H1
        clear H1
        by_cases c11 : t195 = true
        · subst c11
          have H1 : (if t194.toList = t191.toList then (if t198 = true then (if t196.size + 1 ≤ 9223372036854775807 then (if t196.size + 1 + t197.size ≤ 9223372036854775807 then (if ((t196 ++ (⟨#[64]⟩ : ByteArray)) ++ t197).toList = t191.toList then ((addr_Domain.f k t197).bind fun t200 => (if t200 = true then ((pillarboxref05_Small.f t197).bind fun t201 => (if t201.toList = t197.toList then (some (decide ((t191.size : Int) ≤ 64))) else (some false))) else (some false))) else (some false)) else (none)) else (none)) else (some false)) else (some false)) = some r := by rw [if_pos rfl] at H; exact H
          clear H
          have H := H1
          clear H1
          by_cases c12 : t194.toList = t191.toList
          · rw [if_pos c12] at H
            have c12b0 : (t194.toList == t191.toList) = true := beq_iff_eq.mpr c12
            have c12b1 : (t194.toList != t191.toList) = false := bne_eq_false_iff_eq.mpr c12
            clear c12
            by_cases c13 : t198 = true
            · subst c13
              have H1 : (if t196.size + 1 ≤ 9223372036854775807 then (if t196.size + 1 + t197.size ≤ 9223372036854775807 then (if ((t196 ++ (⟨#[64]⟩ : ByteArray)) ++ t197).toList = t191.toList then ((addr_Domain.f k t197).bind fun t200 => (if t200 = true then ((pillarboxref05_Small.f t197).bind fun t201 => (if t201.toList = t197.toList then (some (decide ((t191.size : Int) ≤ 64))) else (some false))) else (some false))) else (some false)) else (none)) else (none)) = some r := by rw [if_pos rfl] at H; exact H
              clear H
              have H := H1
              clear H1
              by_cases c14 : t196.size + 1 ≤ 9223372036854775807
              · rw [if_pos c14] at H
                have c14b0 := eq_true c14
                have c14b1 : decide (t196.size + 1 ≤ 9223372036854775807) = true := decide_eq_true c14
                try have c14b2 : (9223372036854775807 < t196.size + 1) = False := eq_false (Nat.not_lt.2 c14)
                by_cases c15 : t196.size + 1 + t197.size ≤ 9223372036854775807
                · rw [if_pos c15] at H
                  have c15b0 := eq_true c15
                  have c15b1 : decide (t196.size + 1 + t197.size ≤ 9223372036854775807) = true := decide_eq_true c15
                  try have c15b2 : (9223372036854775807 < t196.size + 1 + t197.size) = False := eq_false (Nat.not_lt.2 c15)
                  by_cases c16 : ((t196 ++ (⟨#[64]⟩ : ByteArray)) ++ t197).toList = t191.toList
                  · rw [if_pos c16] at H
                    have c16b0 : (((t196 ++ (⟨#[64]⟩ : ByteArray)) ++ t197).toList == t191.toList) = true := beq_iff_eq.mpr c16
                    have c16b1 : (((t196 ++ (⟨#[64]⟩ : ByteArray)) ++ t197).toList != t191.toList) = false := bne_eq_false_iff_eq.mpr c16
                    clear c16
                    replace H := Option.bind_eq_some_iff.mp H
                    obtain ⟨t200, A170, H⟩ := H
                    replace H : (if t200 = true then ((pillarboxref05_Small.f t197).bind fun t201 => (if t201.toList = t197.toList then (some (decide ((t191.size : Int) ≤ 64))) else (some false))) else (some false)) = some r := H
                    have A17 := Aside0.mk A170
                    clear A170
                    by_cases c18 : t200 = true
                    · subst c18
                      have H1 : ((pillarboxref05_Small.f t197).bind fun t201 => (if t201.toList = t197.toList then (some (decide ((t191.size : Int) ≤ 64))) else (some false))) = some r := by rw [if_pos rfl] at H; exact H
                      clear H
                      have H := H1
                      clear H1
                      replace H := Option.bind_eq_some_iff.mp H
                      obtain ⟨t201, A190, H⟩ := H
                      replace H : (if t201.toList = t197.toList then (some (decide ((t191.size : Int) ≤ 64))) else (some false)) = some r := H
                      have A19 := Aside0.mk A190
                      clear A190
                      by_cases c20 : t201.toList = t197.toList
                      · rw [if_pos c20] at H
                        have c20b0 : (t201.toList == t197.toList) = true := beq_iff_eq.mpr c20
                        have c20b1 : (t201.toList != t197.toList) = false := bne_eq_false_iff_eq.mpr c20
                        clear c20
                        obtain rfl := Option.some.inj H
                        go_enter Tryd.func4, Tryd.ntmps4
                        go_wp2_with (first | ((with_reducible refine gate_callee (f := 9) rfl ?_); refine goesL_ (some 16) rfl rfl Tryd.func9 (by kernel_rfl) rfl #[.string a0] rfl (by (try simp only [List.map_toArray, List.map_cons, List.map_nil]); first | done | rfl | (simp only [List.length_drop, List.length_take]; rfl)) ?_; (with_reducible refine (addr_Parse.calls k a0 t191 true _ ?side1 A5.out).mono ?_); (case side1 => first | exact hG | exact Glob.below hG (by repeat (first | (with_reducible first | exact HB.out | apply below_alloc | apply pw_below_drewN | apply below_drew1) | exact HB.out))); rintro e w21 ⟨rfl, hb⟩; refine ⟨_, rfl, ?_⟩; have n0_ := Aside0.mk (below_step (by repeat (first | (with_reducible first | exact HB.out | apply below_alloc | apply pw_below_drewN | apply below_drew1) | exact HB.out)) hb); clear HB; have HB := n0_; clear n0_; (try clear hb); (try clear hb2); (try clear hk); (try clear hi)) | ((with_reducible refine gate_callee (f := 9) rfl ?_); refine goesL_ (some 28) rfl rfl Tryd.func9 (by kernel_rfl) rfl #[.string t191] rfl (by (try simp only [List.map_toArray, List.map_cons, List.map_nil]); first | done | rfl | (simp only [List.length_drop, List.length_take]; rfl)) ?_; (with_reducible refine (addr_Parse.calls k t191 t194 true _ ?side1 A7.out).mono ?_); (case side1 => first | exact hG | exact Glob.below hG (by repeat (first | (with_reducible first | exact HB.out | apply below_alloc | apply pw_below_drewN | apply below_drew1) | exact HB.out))); rintro e w22 ⟨rfl, hb⟩; refine ⟨_, rfl, ?_⟩; have n0_ := Aside0.mk (below_step (by repeat (first | (with_reducible first | exact HB.out | apply below_alloc | apply pw_below_drewN | apply below_drew1) | exact HB.out)) hb); clear HB; have HB := n0_; clear n0_; (try clear hb); (try clear hb2); (try clear hk); (try clear hi)) | ((with_reducible refine gate_callee (f := 11) rfl ?_); refine goesL_ (some 33) rfl rfl Tryd.func11 (by kernel_rfl) rfl #[.string t191] rfl (by (try simp only [List.map_toArray, List.map_cons, List.map_nil]); first | done | rfl | (simp only [List.length_drop, List.length_take]; rfl)) ?_; (with_reducible refine (addr_Split.calls k t191 t196 t197 true _ ?side1 A8.out).mono ?_); (case side1 => first | exact hG | exact Glob.below hG (by repeat (first | (with_reducible first | exact HB.out | apply below_alloc | apply pw_below_drewN | apply below_drew1) | exact HB.out))); rintro e w23 ⟨rfl, hb⟩; refine ⟨_, rfl, ?_⟩; have n0_ := Aside0.mk (below_step (by repeat (first | (with_reducible first | exact HB.out | apply below_alloc | apply pw_below_drewN | apply below_drew1) | exact HB.out)) hb); clear HB; have HB := n0_; clear n0_; (try clear hb); (try clear hb2); (try clear hk); (try clear hi)) | ((with_reducible refine gate_callee (f := 8) rfl ?_); refine goesL_ (some 37) rfl rfl Tryd.func8 (by kernel_rfl) rfl #[] rfl (by (try simp only [List.map_toArray, List.map_cons, List.map_nil]); first | done | rfl | (simp only [List.length_drop, List.length_take]; rfl)) ?_; (with_reducible refine (pillarboxlaw05_answers.calls k  true _ ?side1 A9.out).mono ?_); (case side1 => first | exact hG | exact Glob.below hG (by repeat (first | (with_reducible first | exact HB.out | apply below_alloc | apply pw_below_drewN | apply below_drew1) | exact HB.out))); rintro e w24 ⟨rfl, hb⟩; refine ⟨_, rfl, ?_⟩; have n0_ := Aside0.mk (below_step (by repeat (first | (with_reducible first | exact HB.out | apply below_alloc | apply pw_below_drewN | apply below_drew1) | exact HB.out)) hb); clear HB; have HB := n0_; clear n0_; (try clear hb); (try clear hb2); (try clear hk); (try clear hi)) | (go_at_call 13; (with_reducible refine (addr_Domain.calls k t197 true _ ?side1 A17.out).mono ?_); (case side1 => first | exact hG | exact Glob.below hG (by repeat (first | (with_reducible first | exact HB.out | apply below_alloc | apply pw_below_drewN | apply below_drew1) | exact HB.out))); rintro e w25 ⟨rfl, hb⟩; have n0_ := Aside0.mk (below_step (by repeat (first | (with_reducible first | exact HB.out | apply below_alloc | apply pw_below_drewN | apply below_drew1) | exact HB.out)) hb); clear HB; have HB := n0_; clear n0_; (try clear hb); (try clear hb2); (try clear hk); (try clear hi)) | (go_at_call 15; (with_reducible refine (pillarboxref05_Small.calls t197 t201 _ ?side1 A19.out).mono ?_); (case side1 => first | exact hG | exact Glob.below hG (by repeat (first | (with_reducible first | exact HB.out | apply below_alloc | apply pw_below_drewN | apply below_drew1) | exact HB.out))); rintro e w26 ⟨rfl, hb⟩; have n0_ := Aside0.mk (below_step (by repeat (first | (with_reducible first | exact HB.out | apply below_alloc | apply pw_below_drewN | apply below_drew1) | exact HB.out)) hb); clear HB; have HB := n0_; clear n0_; (try clear hb); (try clear hb2); (try clear hk); (try clear hi)))
                        go_ret
                        exact ⟨by first | rfl | (simp [errW_none, errW_some] <;> rfl) | (simp [*, errW_none, errW_some] <;> rfl), by repeat (first | (with_reducible first | exact HB.out | apply below_alloc | apply pw_below_drewN | apply below_drew1) | exact HB.out)⟩
                      · rw [if_neg c20] at H
                        have c20b0 : (t201.toList == t197.toList) = false := beq_eq_false_iff_ne.mpr c20
                        have c20b1 : (t201.toList != t197.toList) = true := bne_iff_ne.mpr c20
                        obtain rfl := Option.some.inj H
                        go_enter Tryd.func4, Tryd.ntmps4
                        go_wp2_with (first | ((with_reducible refine gate_callee (f := 9) rfl ?_); refine goesL_ (some 16) rfl rfl Tryd.func9 (by kernel_rfl) rfl #[.string a0] rfl (by (try simp only [List.map_toArray, List.map_cons, List.map_nil]); first | done | rfl | (simp only [List.length_drop, List.length_take]; rfl)) ?_; (with_reducible refine (addr_Parse.calls k a0 t191 true _ ?side1 A5.out).mono ?_); (case side1 => first | exact hG | exact Glob.below hG (by repeat (first | (with_reducible first | exact HB.out | apply below_alloc | apply pw_below_drewN | apply below_drew1) | exact HB.out))); rintro e w27 ⟨rfl, hb⟩; refine ⟨_, rfl, ?_⟩; have n0_ := Aside0.mk (below_step (by repeat (first | (with_reducible first | exact HB.out | apply below_alloc | apply pw_below_drewN | apply below_drew1) | exact HB.out)) hb); clear HB; have HB := n0_; clear n0_; (try clear hb); (try clear hb2); (try clear hk); (try clear hi)) | ((with_reducible refine gate_callee (f := 9) rfl ?_); refine goesL_ (some 28) rfl rfl Tryd.func9 (by kernel_rfl) rfl #[.string t191] rfl (by (try simp only [List.map_toArray, List.map_cons, List.map_nil]); first | done | rfl | (simp only [List.length_drop, List.length_take]; rfl)) ?_; (with_reducible refine (addr_Parse.calls k t191 t194 true _ ?side1 A7.out).mono ?_); (case side1 => first | exact hG | exact Glob.below hG (by repeat (first | (with_reducible first | exact HB.out | apply below_alloc | apply pw_below_drewN | apply below_drew1) | exact HB.out))); rintro e w28 ⟨rfl, hb⟩; refine ⟨_, rfl, ?_⟩; have n0_ := Aside0.mk (below_step (by repeat (first | (with_reducible first | exact HB.out | apply below_alloc | apply pw_below_drewN | apply below_drew1) | exact HB.out)) hb); clear HB; have HB := n0_; clear n0_; (try clear hb); (try clear hb2); (try clear hk); (try clear hi)) | ((with_reducible refine gate_callee (f := 11) rfl ?_); refine goesL_ (some 33) rfl rfl Tryd.func11 (by kernel_rfl) rfl #[.string t191] rfl (by (try simp only [List.map_toArray, List.map_cons, List.map_nil]); first | done | rfl | (simp only [List.length_drop, List.length_take]; rfl)) ?_; (with_reducible refine (addr_Split.calls k t191 t196 t197 true _ ?side1 A8.out).mono ?_); (case side1 => first | exact hG | exact Glob.below hG (by repeat (first | (with_reducible first | exact HB.out | apply below_alloc | apply pw_below_drewN | apply below_drew1) | exact HB.out))); rintro e w29 ⟨rfl, hb⟩; refine ⟨_, rfl, ?_⟩; have n0_ := Aside0.mk (below_step (by repeat (first | (with_reducible first | exact HB.out | apply below_alloc | apply pw_below_drewN | apply below_drew1) | exact HB.out)) hb); clear HB; have HB := n0_; clear n0_; (try clear hb); (try clear hb2); (try clear hk); (try clear hi)) | ((with_reducible refine gate_callee (f := 8) rfl ?_); refine goesL_ (some 37) rfl rfl Tryd.func8 (by kernel_rfl) rfl #[] rfl (by (try simp only [List.map_toArray, List.map_cons, List.map_nil]); first | done | rfl | (simp only [List.length_drop, List.length_take]; rfl)) ?_; (with_reducible refine (pillarboxlaw05_answers.calls k  true _ ?side1 A9.out).mono ?_); (case side1 => first | exact hG | exact Glob.below hG (by repeat (first | (with_reducible first | exact HB.out | apply below_alloc | apply pw_below_drewN | apply below_drew1) | exact HB.out))); rintro e w30 ⟨rfl, hb⟩; refine ⟨_, rfl, ?_⟩; have n0_ := Aside0.mk (below_step (by repeat (first | (with_reducible first | exact HB.out | apply below_alloc | apply pw_below_drewN | apply below_drew1) | exact HB.out)) hb); clear HB; have HB := n0_; clear n0_; (try clear hb); (try clear hb2); (try clear hk); (try clear hi)) | (go_at_call 13; (with_reducible refine (addr_Domain.calls k t197 true _ ?side1 A17.out).mono ?_); (case side1 => first | exact hG | exact Glob.below hG (by repeat (first | (with_reducible first | exact HB.out | apply below_alloc | apply pw_below_drewN | apply below_drew1) | exact HB.out))); rintro e w31 ⟨rfl, hb⟩; have n0_ := Aside0.mk (below_step (by repeat (first | (with_reducible first | exact HB.out | apply below_alloc | apply pw_below_drewN | apply below_drew1) | exact HB.out)) hb); clear HB; have HB := n0_; clear n0_; (try clear hb); (try clear hb2); (try clear hk); (try clear hi)) | (go_at_call 15; (with_reducible refine (pillarboxref05_Small.calls t197 t201 _ ?side1 A19.out).mono ?_); (case side1 => first | exact hG | exact Glob.below hG (by repeat (first | (with_reducible first | exact HB.out | apply below_alloc | apply pw_below_drewN | apply below_drew1) | exact HB.out))); rintro e w32 ⟨rfl, hb⟩; have n0_ := Aside0.mk (below_step (by repeat (first | (with_reducible first | exact HB.out | apply below_alloc | apply pw_below_drewN | apply below_drew1) | exact HB.out)) hb); clear HB; have HB := n0_; clear n0_; (try clear hb); (try clear hb2); (try clear hk); (try clear hi)))
                        go_ret
                        exact ⟨by first | rfl | (simp [errW_none, errW_some] <;> rfl) | (simp [*, errW_none, errW_some] <;> rfl), by repeat (first | (with_reducible first | exact HB.out | apply below_alloc | apply pw_below_drewN | apply below_drew1) | exact HB.out)⟩
                    · replace c18 := Bool.eq_false_iff.mpr c18
                      subst c18
                      have H1 : (some false) = some r := by rw [if_neg (show ¬ (false = true) by decide)] at H; exact H
                      clear H
                      have H := H1
                      clear H1
                      obtain rfl := Option.some.inj H
                      go_enter Tryd.func4, Tryd.ntmps4
                      go_wp2_with (first | ((with_reducible refine gate_callee (f := 9) rfl ?_); refine goesL_ (some 16) rfl rfl Tryd.func9 (by kernel_rfl) rfl #[.string a0] rfl (by (try simp only [List.map_toArray, List.map_cons, List.map_nil]); first | done | rfl | (simp only [List.length_drop, List.length_take]; rfl)) ?_; (with_reducible refine (addr_Parse.calls k a0 t191 true _ ?side1 A5.out).mono ?_); (case side1 => first | exact hG | exact Glob.below hG (by repeat (first | (with_reducible first | exact HB.out | apply below_alloc | apply pw_below_drewN | apply below_drew1) | exact HB.out))); rintro e w33 ⟨rfl, hb⟩; refine ⟨_, rfl, ?_⟩; have n0_ := Aside0.mk (below_step (by repeat (first | (with_reducible first | exact HB.out | apply below_alloc | apply pw_below_drewN | apply below_drew1) | exact HB.out)) hb); clear HB; have HB := n0_; clear n0_; (try clear hb); (try clear hb2); (try clear hk); (try clear hi)) | ((with_reducible refine gate_callee (f := 9) rfl ?_); refine goesL_ (some 28) rfl rfl Tryd.func9 (by kernel_rfl) rfl #[.string t191] rfl (by (try simp only [List.map_toArray, List.map_cons, List.map_nil]); first | done | rfl | (simp only [List.length_drop, List.length_take]; rfl)) ?_; (with_reducible refine (addr_Parse.calls k t191 t194 true _ ?side1 A7.out).mono ?_); (case side1 => first | exact hG | exact Glob.below hG (by repeat (first | (with_reducible first | exact HB.out | apply below_alloc | apply pw_below_drewN | apply below_drew1) | exact HB.out))); rintro e w34 ⟨rfl, hb⟩; refine ⟨_, rfl, ?_⟩; have n0_ := Aside0.mk (below_step (by repeat (first | (with_reducible first | exact HB.out | apply below_alloc | apply pw_below_drewN | apply below_drew1) | exact HB.out)) hb); clear HB; have HB := n0_; clear n0_; (try clear hb); (try clear hb2); (try clear hk); (try clear hi)) | ((with_reducible refine gate_callee (f := 11) rfl ?_); refine goesL_ (some 33) rfl rfl Tryd.func11 (by kernel_rfl) rfl #[.string t191] rfl (by (try simp only [List.map_toArray, List.map_cons, List.map_nil]); first | done | rfl | (simp only [List.length_drop, List.length_take]; rfl)) ?_; (with_reducible refine (addr_Split.calls k t191 t196 t197 true _ ?side1 A8.out).mono ?_); (case side1 => first | exact hG | exact Glob.below hG (by repeat (first | (with_reducible first | exact HB.out | apply below_alloc | apply pw_below_drewN | apply below_drew1) | exact HB.out))); rintro e w35 ⟨rfl, hb⟩; refine ⟨_, rfl, ?_⟩; have n0_ := Aside0.mk (below_step (by repeat (first | (with_reducible first | exact HB.out | apply below_alloc | apply pw_below_drewN | apply below_drew1) | exact HB.out)) hb); clear HB; have HB := n0_; clear n0_; (try clear hb); (try clear hb2); (try clear hk); (try clear hi)) | ((with_reducible refine gate_callee (f := 8) rfl ?_); refine goesL_ (some 37) rfl rfl Tryd.func8 (by kernel_rfl) rfl #[] rfl (by (try simp only [List.map_toArray, List.map_cons, List.map_nil]); first | done | rfl | (simp only [List.length_drop, List.length_take]; rfl)) ?_; (with_reducible refine (pillarboxlaw05_answers.calls k  true _ ?side1 A9.out).mono ?_); (case side1 => first | exact hG | exact Glob.below hG (by repeat (first | (with_reducible first | exact HB.out | apply below_alloc | apply pw_below_drewN | apply below_drew1) | exact HB.out))); rintro e w36 ⟨rfl, hb⟩; refine ⟨_, rfl, ?_⟩; have n0_ := Aside0.mk (below_step (by repeat (first | (with_reducible first | exact HB.out | apply below_alloc | apply pw_below_drewN | apply below_drew1) | exact HB.out)) hb); clear HB; have HB := n0_; clear n0_; (try clear hb); (try clear hb2); (try clear hk); (try clear hi)) | (go_at_call 13; (with_reducible refine (addr_Domain.calls k t197 false _ ?side1 A17.out).mono ?_); (case side1 => first | exact hG | exact Glob.below hG (by repeat (first | (with_reducible first | exact HB.out | apply below_alloc | apply pw_below_drewN | apply below_drew1) | exact HB.out))); rintro e w37 ⟨rfl, hb⟩; have n0_ := Aside0.mk (below_step (by repeat (first | (with_reducible first | exact HB.out | apply below_alloc | apply pw_below_drewN | apply below_drew1) | exact HB.out)) hb); clear HB; have HB := n0_; clear n0_; (try clear hb); (try clear hb2); (try clear hk); (try clear hi)))
                      go_ret
                      exact ⟨by first | rfl | (simp [errW_none, errW_some] <;> rfl) | (simp [*, errW_none, errW_some] <;> rfl), by repeat (first | (with_reducible first | exact HB.out | apply below_alloc | apply pw_below_drewN | apply below_drew1) | exact HB.out)⟩
                  · rw [if_neg c16] at H
                    have c16b0 : (((t196 ++ (⟨#[64]⟩ : ByteArray)) ++ t197).toList == t191.toList) = false := beq_eq_false_iff_ne.mpr c16
                    have c16b1 : (((t196 ++ (⟨#[64]⟩ : ByteArray)) ++ t197).toList != t191.toList) = true := bne_iff_ne.mpr c16
                    obtain rfl := Option.some.inj H
                    go_enter Tryd.func4, Tryd.ntmps4
                    go_wp2_with (first | ((with_reducible refine gate_callee (f := 9) rfl ?_); refine goesL_ (some 16) rfl rfl Tryd.func9 (by kernel_rfl) rfl #[.string a0] rfl (by (try simp only [List.map_toArray, List.map_cons, List.map_nil]); first | done | rfl | (simp only [List.length_drop, List.length_take]; rfl)) ?_; (with_reducible refine (addr_Parse.calls k a0 t191 true _ ?side1 A5.out).mono ?_); (case side1 => first | exact hG | exact Glob.below hG (by repeat (first | (with_reducible first | exact HB.out | apply below_alloc | apply pw_below_drewN | apply below_drew1) | exact HB.out))); rintro e w38 ⟨rfl, hb⟩; refine ⟨_, rfl, ?_⟩; have n0_ := Aside0.mk (below_step (by repeat (first | (with_reducible first | exact HB.out | apply below_alloc | apply pw_below_drewN | apply below_drew1) | exact HB.out)) hb); clear HB; have HB := n0_; clear n0_; (try clear hb); (try clear hb2); (try clear hk); (try clear hi)) | ((with_reducible refine gate_callee (f := 9) rfl ?_); refine goesL_ (some 28) rfl rfl Tryd.func9 (by kernel_rfl) rfl #[.string t191] rfl (by (try simp only [List.map_toArray, List.map_cons, List.map_nil]); first | done | rfl | (simp only [List.length_drop, List.length_take]; rfl)) ?_; (with_reducible refine (addr_Parse.calls k t191 t194 true _ ?side1 A7.out).mono ?_); (case side1 => first | exact hG | exact Glob.below hG (by repeat (first | (with_reducible first | exact HB.out | apply below_alloc | apply pw_below_drewN | apply below_drew1) | exact HB.out))); rintro e w39 ⟨rfl, hb⟩; refine ⟨_, rfl, ?_⟩; have n0_ := Aside0.mk (below_step (by repeat (first | (with_reducible first | exact HB.out | apply below_alloc | apply pw_below_drewN | apply below_drew1) | exact HB.out)) hb); clear HB; have HB := n0_; clear n0_; (try clear hb); (try clear hb2); (try clear hk); (try clear hi)) | ((with_reducible refine gate_callee (f := 11) rfl ?_); refine goesL_ (some 33) rfl rfl Tryd.func11 (by kernel_rfl) rfl #[.string t191] rfl (by (try simp only [List.map_toArray, List.map_cons, List.map_nil]); first | done | rfl | (simp only [List.length_drop, List.length_take]; rfl)) ?_; (with_reducible refine (addr_Split.calls k t191 t196 t197 true _ ?side1 A8.out).mono ?_); (case side1 => first | exact hG | exact Glob.below hG (by repeat (first | (with_reducible first | exact HB.out | apply below_alloc | apply pw_below_drewN | apply below_drew1) | exact HB.out))); rintro e w40 ⟨rfl, hb⟩; refine ⟨_, rfl, ?_⟩; have n0_ := Aside0.mk (below_step (by repeat (first | (with_reducible first | exact HB.out | apply below_alloc | apply pw_below_drewN | apply below_drew1) | exact HB.out)) hb); clear HB; have HB := n0_; clear n0_; (try clear hb); (try clear hb2); (try clear hk); (try clear hi)) | ((with_reducible refine gate_callee (f := 8) rfl ?_); refine goesL_ (some 37) rfl rfl Tryd.func8 (by kernel_rfl) rfl #[] rfl (by (try simp only [List.map_toArray, List.map_cons, List.map_nil]); first | done | rfl | (simp only [List.length_drop, List.length_take]; rfl)) ?_; (with_reducible refine (pillarboxlaw05_answers.calls k  true _ ?side1 A9.out).mono ?_); (case side1 => first | exact hG | exact Glob.below hG (by repeat (first | (with_reducible first | exact HB.out | apply below_alloc | apply pw_below_drewN | apply below_drew1) | exact HB.out))); rintro e w41 ⟨rfl, hb⟩; refine ⟨_, rfl, ?_⟩; have n0_ := Aside0.mk (below_step (by repeat (first | (with_reducible first | exact HB.out | apply below_alloc | apply pw_below_drewN | apply below_drew1) | exact HB.out)) hb); clear HB; have HB := n0_; clear n0_; (try clear hb); (try clear hb2); (try clear hk); (try clear hi)))
                    go_ret
                    exact ⟨by first | rfl | (simp [errW_none, errW_some] <;> rfl) | (simp [*, errW_none, errW_some] <;> rfl), by repeat (first | (with_reducible first | exact HB.out | apply below_alloc | apply pw_below_drewN | apply below_drew1) | exact HB.out)⟩
                · rw [if_neg c15] at H
                  exact absurd H (by simp)
              · rw [if_neg c14] at H
                exact absurd H (by simp)
            · replace c13 := Bool.eq_false_iff.mpr c13
              subst c13
              have H1 : (some false) = some r := by rw [if_neg (show ¬ (false = true) by decide)] at H; exact H
              clear H
              have H := H1
              clear H1
              obtain rfl := Option.some.inj H
              go_enter Tryd.func4, Tryd.ntmps4
              go_wp2_with (first | ((with_reducible refine gate_callee (f := 9) rfl ?_); refine goesL_ (some 16) rfl rfl Tryd.func9 (by kernel_rfl) rfl #[.string a0] rfl (by (try simp only [List.map_toArray, List.map_cons, List.map_nil]); first | done | rfl | (simp only [List.length_drop, List.length_take]; rfl)) ?_; (with_reducible refine (addr_Parse.calls k a0 t191 true _ ?side1 A5.out).mono ?_); (case side1 => first | exact hG | exact Glob.below hG (by repeat (first | (with_reducible first | exact HB.out | apply below_alloc | apply pw_below_drewN | apply below_drew1) | exact HB.out))); rintro e w42 ⟨rfl, hb⟩; refine ⟨_, rfl, ?_⟩; have n0_ := Aside0.mk (below_step (by repeat (first | (with_reducible first | exact HB.out | apply below_alloc | apply pw_below_drewN | apply below_drew1) | exact HB.out)) hb); clear HB; have HB := n0_; clear n0_; (try clear hb); (try clear hb2); (try clear hk); (try clear hi)) | ((with_reducible refine gate_callee (f := 9) rfl ?_); refine goesL_ (some 28) rfl rfl Tryd.func9 (by kernel_rfl) rfl #[.string t191] rfl (by (try simp only [List.map_toArray, List.map_cons, List.map_nil]); first | done | rfl | (simp only [List.length_drop, List.length_take]; rfl)) ?_; (with_reducible refine (addr_Parse.calls k t191 t194 true _ ?side1 A7.out).mono ?_); (case side1 => first | exact hG | exact Glob.below hG (by repeat (first | (with_reducible first | exact HB.out | apply below_alloc | apply pw_below_drewN | apply below_drew1) | exact HB.out))); rintro e w43 ⟨rfl, hb⟩; refine ⟨_, rfl, ?_⟩; have n0_ := Aside0.mk (below_step (by repeat (first | (with_reducible first | exact HB.out | apply below_alloc | apply pw_below_drewN | apply below_drew1) | exact HB.out)) hb); clear HB; have HB := n0_; clear n0_; (try clear hb); (try clear hb2); (try clear hk); (try clear hi)) | ((with_reducible refine gate_callee (f := 11) rfl ?_); refine goesL_ (some 33) rfl rfl Tryd.func11 (by kernel_rfl) rfl #[.string t191] rfl (by (try simp only [List.map_toArray, List.map_cons, List.map_nil]); first | done | rfl | (simp only [List.length_drop, List.length_take]; rfl)) ?_; (with_reducible refine (addr_Split.calls k t191 t196 t197 false _ ?side1 A8.out).mono ?_); (case side1 => first | exact hG | exact Glob.below hG (by repeat (first | (with_reducible first | exact HB.out | apply below_alloc | apply pw_below_drewN | apply below_drew1) | exact HB.out))); rintro e w44 ⟨rfl, hb⟩; refine ⟨_, rfl, ?_⟩; have n0_ := Aside0.mk (below_step (by repeat (first | (with_reducible first | exact HB.out | apply below_alloc | apply pw_below_drewN | apply below_drew1) | exact HB.out)) hb); clear HB; have HB := n0_; clear n0_; (try clear hb); (try clear hb2); (try clear hk); (try clear hi)) | ((with_reducible refine gate_callee (f := 8) rfl ?_); refine goesL_ (some 37) rfl rfl Tryd.func8 (by kernel_rfl) rfl #[] rfl (by (try simp only [List.map_toArray, List.map_cons, List.map_nil]); first | done | rfl | (simp only [List.length_drop, List.length_take]; rfl)) ?_; (with_reducible refine (pillarboxlaw05_answers.calls k  true _ ?side1 A9.out).mono ?_); (case side1 => first | exact hG | exact Glob.below hG (by repeat (first | (with_reducible first | exact HB.out | apply below_alloc | apply pw_below_drewN | apply below_drew1) | exact HB.out))); rintro e w45 ⟨rfl, hb⟩; refine ⟨_, rfl, ?_⟩; have n0_ := Aside0.mk (below_step (by repeat (first | (with_reducible first | exact HB.out | apply below_alloc | apply pw_below_drewN | apply below_drew1) | exact HB.out)) hb); clear HB; have HB := n0_; clear n0_; (try clear hb); (try clear hb2); (try clear hk); (try clear hi)))
              go_ret
              exact ⟨by first | rfl | (simp [errW_none, errW_some] <;> rfl) | (simp [*, errW_none, errW_some] <;> rfl), by repeat (first | (with_reducible first | exact HB.out | apply below_alloc | apply pw_below_drewN | apply below_drew1) | exact HB.out)⟩
          · rw [if_neg c12] at H
            have c12b0 : (t194.toList == t191.toList) = false := beq_eq_false_iff_ne.mpr c12
            have c12b1 : (t194.toList != t191.toList) = true := bne_iff_ne.mpr c12
            obtain rfl := Option.some.inj H
            go_enter Tryd.func4, Tryd.ntmps4
            go_wp2_with (first | ((with_reducible refine gate_callee (f := 9) rfl ?_); refine goesL_ (some 16) rfl rfl Tryd.func9 (by kernel_rfl) rfl #[.string a0] rfl (by (try simp only [List.map_toArray, List.map_cons, List.map_nil]); first | done | rfl | (simp only [List.length_drop, List.length_take]; rfl)) ?_; (with_reducible refine (addr_Parse.calls k a0 t191 true _ ?side1 A5.out).mono ?_); (case side1 => first | exact hG | exact Glob.below hG (by repeat (first | (with_reducible first | exact HB.out | apply below_alloc | apply pw_below_drewN | apply below_drew1) | exact HB.out))); rintro e w46 ⟨rfl, hb⟩; refine ⟨_, rfl, ?_⟩; have n0_ := Aside0.mk (below_step (by repeat (first | (with_reducible first | exact HB.out | apply below_alloc | apply pw_below_drewN | apply below_drew1) | exact HB.out)) hb); clear HB; have HB := n0_; clear n0_; (try clear hb); (try clear hb2); (try clear hk); (try clear hi)) | ((with_reducible refine gate_callee (f := 9) rfl ?_); refine goesL_ (some 28) rfl rfl Tryd.func9 (by kernel_rfl) rfl #[.string t191] rfl (by (try simp only [List.map_toArray, List.map_cons, List.map_nil]); first | done | rfl | (simp only [List.length_drop, List.length_take]; rfl)) ?_; (with_reducible refine (addr_Parse.calls k t191 t194 true _ ?side1 A7.out).mono ?_); (case side1 => first | exact hG | exact Glob.below hG (by repeat (first | (with_reducible first | exact HB.out | apply below_alloc | apply pw_below_drewN | apply below_drew1) | exact HB.out))); rintro e w47 ⟨rfl, hb⟩; refine ⟨_, rfl, ?_⟩; have n0_ := Aside0.mk (below_step (by repeat (first | (with_reducible first | exact HB.out | apply below_alloc | apply pw_below_drewN | apply below_drew1) | exact HB.out)) hb); clear HB; have HB := n0_; clear n0_; (try clear hb); (try clear hb2); (try clear hk); (try clear hi)) | ((with_reducible refine gate_callee (f := 11) rfl ?_); refine goesL_ (some 33) rfl rfl Tryd.func11 (by kernel_rfl) rfl #[.string t191] rfl (by (try simp only [List.map_toArray, List.map_cons, List.map_nil]); first | done | rfl | (simp only [List.length_drop, List.length_take]; rfl)) ?_; (with_reducible refine (addr_Split.calls k t191 t196 t197 t198 _ ?side1 A8.out).mono ?_); (case side1 => first | exact hG | exact Glob.below hG (by repeat (first | (with_reducible first | exact HB.out | apply below_alloc | apply pw_below_drewN | apply below_drew1) | exact HB.out))); rintro e w48 ⟨rfl, hb⟩; refine ⟨_, rfl, ?_⟩; have n0_ := Aside0.mk (below_step (by repeat (first | (with_reducible first | exact HB.out | apply below_alloc | apply pw_below_drewN | apply below_drew1) | exact HB.out)) hb); clear HB; have HB := n0_; clear n0_; (try clear hb); (try clear hb2); (try clear hk); (try clear hi)) | ((with_reducible refine gate_callee (f := 8) rfl ?_); refine goesL_ (some 37) rfl rfl Tryd.func8 (by kernel_rfl) rfl #[] rfl (by (try simp only [List.map_toArray, List.map_cons, List.map_nil]); first | done | rfl | (simp only [List.length_drop, List.length_take]; rfl)) ?_; (with_reducible refine (pillarboxlaw05_answers.calls k  true _ ?side1 A9.out).mono ?_); (case side1 => first | exact hG | exact Glob.below hG (by repeat (first | (with_reducible first | exact HB.out | apply below_alloc | apply pw_below_drewN | apply below_drew1) | exact HB.out))); rintro e w49 ⟨rfl, hb⟩; refine ⟨_, rfl, ?_⟩; have n0_ := Aside0.mk (below_step (by repeat (first | (with_reducible first | exact HB.out | apply below_alloc | apply pw_below_drewN | apply below_drew1) | exact HB.out)) hb); clear HB; have HB := n0_; clear n0_; (try clear hb); (try clear hb2); (try clear hk); (try clear hi)))
            go_ret
            exact ⟨by first | rfl | (simp [errW_none, errW_some] <;> rfl) | (simp [*, errW_none, errW_some] <;> rfl), by repeat (first | (with_reducible first | exact HB.out | apply below_alloc | apply pw_below_drewN | apply below_drew1) | exact HB.out)⟩
        · replace c11 := Bool.eq_false_iff.mpr c11
          subst c11
          have H1 : (some false) = some r := by rw [if_neg (show ¬ (false = true) by decide)] at H; exact H
          clear H
          have H := H1
          clear H1
          obtain rfl := Option.some.inj H
          go_enter Tryd.func4, Tryd.ntmps4
          go_wp2_with (first | ((with_reducible refine gate_callee (f := 9) rfl ?_); refine goesL_ (some 16) rfl rfl Tryd.func9 (by kernel_rfl) rfl #[.string a0] rfl (by (try simp only [List.map_toArray, List.map_cons, List.map_nil]); first | done | rfl | (simp only [List.length_drop, List.length_take]; rfl)) ?_; (with_reducible refine (addr_Parse.calls k a0 t191 true _ ?side1 A5.out).mono ?_); (case side1 => first | exact hG | exact Glob.below hG (by repeat (first | (with_reducible first | exact HB.out | apply below_alloc | apply pw_below_drewN | apply below_drew1) | exact HB.out))); rintro e w50 ⟨rfl, hb⟩; refine ⟨_, rfl, ?_⟩; have n0_ := Aside0.mk (below_step (by repeat (first | (with_reducible first | exact HB.out | apply below_alloc | apply pw_below_drewN | apply below_drew1) | exact HB.out)) hb); clear HB; have HB := n0_; clear n0_; (try clear hb); (try clear hb2); (try clear hk); (try clear hi)) | ((with_reducible refine gate_callee (f := 9) rfl ?_); refine goesL_ (some 28) rfl rfl Tryd.func9 (by kernel_rfl) rfl #[.string t191] rfl (by (try simp only [List.map_toArray, List.map_cons, List.map_nil]); first | done | rfl | (simp only [List.length_drop, List.length_take]; rfl)) ?_; (with_reducible refine (addr_Parse.calls k t191 t194 false _ ?side1 A7.out).mono ?_); (case side1 => first | exact hG | exact Glob.below hG (by repeat (first | (with_reducible first | exact HB.out | apply below_alloc | apply pw_below_drewN | apply below_drew1) | exact HB.out))); rintro e w51 ⟨rfl, hb⟩; refine ⟨_, rfl, ?_⟩; have n0_ := Aside0.mk (below_step (by repeat (first | (with_reducible first | exact HB.out | apply below_alloc | apply pw_below_drewN | apply below_drew1) | exact HB.out)) hb); clear HB; have HB := n0_; clear n0_; (try clear hb); (try clear hb2); (try clear hk); (try clear hi)) | ((with_reducible refine gate_callee (f := 11) rfl ?_); refine goesL_ (some 33) rfl rfl Tryd.func11 (by kernel_rfl) rfl #[.string t191] rfl (by (try simp only [List.map_toArray, List.map_cons, List.map_nil]); first | done | rfl | (simp only [List.length_drop, List.length_take]; rfl)) ?_; (with_reducible refine (addr_Split.calls k t191 t196 t197 t198 _ ?side1 A8.out).mono ?_); (case side1 => first | exact hG | exact Glob.below hG (by repeat (first | (with_reducible first | exact HB.out | apply below_alloc | apply pw_below_drewN | apply below_drew1) | exact HB.out))); rintro e w52 ⟨rfl, hb⟩; refine ⟨_, rfl, ?_⟩; have n0_ := Aside0.mk (below_step (by repeat (first | (with_reducible first | exact HB.out | apply below_alloc | apply pw_below_drewN | apply below_drew1) | exact HB.out)) hb); clear HB; have HB := n0_; clear n0_; (try clear hb); (try clear hb2); (try clear hk); (try clear hi)) | ((with_reducible refine gate_callee (f := 8) rfl ?_); refine goesL_ (some 37) rfl rfl Tryd.func8 (by kernel_rfl) rfl #[] rfl (by (try simp only [List.map_toArray, List.map_cons, List.map_nil]); first | done | rfl | (simp only [List.length_drop, List.length_take]; rfl)) ?_; (with_reducible refine (pillarboxlaw05_answers.calls k  true _ ?side1 A9.out).mono ?_); (case side1 => first | exact hG | exact Glob.below hG (by repeat (first | (with_reducible first | exact HB.out | apply below_alloc | apply pw_below_drewN | apply below_drew1) | exact HB.out))); rintro e w53 ⟨rfl, hb⟩; refine ⟨_, rfl, ?_⟩; have n0_ := Aside0.mk (below_step (by repeat (first | (with_reducible first | exact HB.out | apply below_alloc | apply pw_below_drewN | apply below_drew1) | exact HB.out)) hb); clear HB; have HB := n0_; clear n0_; (try clear hb); (try clear hb2); (try clear hk); (try clear hi)))
          go_ret
          exact ⟨by first | rfl | (simp [errW_none, errW_some] <;> rfl) | (simp [*, errW_none, errW_some] <;> rfl), by repeat (first | (with_reducible first | exact HB.out | apply below_alloc | apply pw_below_drewN | apply below_drew1) | exact HB.out)⟩
      · replace c10 := Bool.eq_false_iff.mpr c10
        subst c10
        have H1 : (some false) = some r := by rw [if_neg (show ¬ (false = true) by decide)] at H; exact H
        clear H
        have H := H1
        clear H1
        obtain rfl := Option.some.inj H
        go_enter Tryd.func4, Tryd.ntmps4
        go_wp2_with (first | ((with_reducible refine gate_callee (f := 9) rfl ?_); refine goesL_ (some 16) rfl rfl Tryd.func9 (by kernel_rfl) rfl #[.string a0] rfl (by (try simp only [List.map_toArray, List.map_cons, List.map_nil]); first | done | rfl | (simp only [List.length_drop, List.length_take]; rfl)) ?_; (with_reducible refine (addr_Parse.calls k a0 t191 true _ ?side1 A5.out).mono ?_); (case side1 => first | exact hG | exact Glob.below hG (by repeat (first | (with_reducible first | exact HB.out | apply below_alloc | apply pw_below_drewN | apply below_drew1) | exact HB.out))); rintro e w54 ⟨rfl, hb⟩; refine ⟨_, rfl, ?_⟩; have n0_ := Aside0.mk (below_step (by repeat (first | (with_reducible first | exact HB.out | apply below_alloc | apply pw_below_drewN | apply below_drew1) | exact HB.out)) hb); clear HB; have HB := n0_; clear n0_; (try clear hb); (try clear hb2); (try clear hk); (try clear hi)) | ((with_reducible refine gate_callee (f := 9) rfl ?_); refine goesL_ (some 28) rfl rfl Tryd.func9 (by kernel_rfl) rfl #[.string t191] rfl (by (try simp only [List.map_toArray, List.map_cons, List.map_nil]); first | done | rfl | (simp only [List.length_drop, List.length_take]; rfl)) ?_; (with_reducible refine (addr_Parse.calls k t191 t194 t195 _ ?side1 A7.out).mono ?_); (case side1 => first | exact hG | exact Glob.below hG (by repeat (first | (with_reducible first | exact HB.out | apply below_alloc | apply pw_below_drewN | apply below_drew1) | exact HB.out))); rintro e w55 ⟨rfl, hb⟩; refine ⟨_, rfl, ?_⟩; have n0_ := Aside0.mk (below_step (by repeat (first | (with_reducible first | exact HB.out | apply below_alloc | apply pw_below_drewN | apply below_drew1) | exact HB.out)) hb); clear HB; have HB := n0_; clear n0_; (try clear hb); (try clear hb2); (try clear hk); (try clear hi)) | ((with_reducible refine gate_callee (f := 11) rfl ?_); refine goesL_ (some 33) rfl rfl Tryd.func11 (by kernel_rfl) rfl #[.string t191] rfl (by (try simp only [List.map_toArray, List.map_cons, List.map_nil]); first | done | rfl | (simp only [List.length_drop, List.length_take]; rfl)) ?_; (with_reducible refine (addr_Split.calls k t191 t196 t197 t198 _ ?side1 A8.out).mono ?_); (case side1 => first | exact hG | exact Glob.below hG (by repeat (first | (with_reducible first | exact HB.out | apply below_alloc | apply pw_below_drewN | apply below_drew1) | exact HB.out))); rintro e w56 ⟨rfl, hb⟩; refine ⟨_, rfl, ?_⟩; have n0_ := Aside0.mk (below_step (by repeat (first | (with_reducible first | exact HB.out | apply below_alloc | apply pw_below_drewN | apply below_drew1) | exact HB.out)) hb); clear HB; have HB := n0_; clear n0_; (try clear hb); (try clear hb2); (try clear hk); (try clear hi)) | ((with_reducible refine gate_callee (f := 8) rfl ?_); refine goesL_ (some 37) rfl rfl Tryd.func8 (by kernel_rfl) rfl #[] rfl (by (try simp only [List.map_toArray, List.map_cons, List.map_nil]); first | done | rfl | (simp only [List.length_drop, List.length_take]; rfl)) ?_; (with_reducible refine (pillarboxlaw05_answers.calls k  false _ ?side1 A9.out).mono ?_); (case side1 => first | exact hG | exact Glob.below hG (by repeat (first | (with_reducible first | exact HB.out | apply below_alloc | apply pw_below_drewN | apply below_drew1) | exact HB.out))); rintro e w57 ⟨rfl, hb⟩; refine ⟨_, rfl, ?_⟩; have n0_ := Aside0.mk (below_step (by repeat (first | (with_reducible first | exact HB.out | apply below_alloc | apply pw_below_drewN | apply below_drew1) | exact HB.out)) hb); clear HB; have HB := n0_; clear n0_; (try clear hb); (try clear hb2); (try clear hk); (try clear hi)))
        go_ret
        exact ⟨by first | rfl | (simp [errW_none, errW_some] <;> rfl) | (simp [*, errW_none, errW_some] <;> rfl), by repeat (first | (with_reducible first | exact HB.out | apply below_alloc | apply pw_below_drewN | apply below_drew1) | exact HB.out)⟩
    · replace c6 := Bool.eq_false_iff.mpr c6
      subst c6
      have H1 : ((pillarboxlaw05_answers.f k).bind fun t193 => (if t193 = true then (some (t191.toList == ([] : List UInt8))) else (some false))) = some r := by rw [if_neg (show ¬ (false = true) by decide)] at H; exact H
      clear H
      have H := H1
      clear H1
      replace H := Option.bind_eq_some_iff.mp H
      obtain ⟨t193, A580, H⟩ := H
      replace H : (if t193 = true then (some (t191.toList == ([] : List UInt8))) else (some false)) = some r := H
      have A58 := Aside0.mk A580
      clear A580
      by_cases c59 : t193 = true
      · subst c59
        have H1 : (some (t191.toList == ([] : List UInt8))) = some r := by rw [if_pos rfl] at H; exact H
        clear H
        have H := H1
        clear H1
        obtain rfl := Option.some.inj H
        go_enter Tryd.func4, Tryd.ntmps4
        go_wp2_with (first | ((with_reducible refine gate_callee (f := 9) rfl ?_); refine goesL_ (some 16) rfl rfl Tryd.func9 (by kernel_rfl) rfl #[.string a0] rfl (by (try simp only [List.map_toArray, List.map_cons, List.map_nil]); first | done | rfl | (simp only [List.length_drop, List.length_take]; rfl)) ?_; (with_reducible refine (addr_Parse.calls k a0 t191 false _ ?side1 A5.out).mono ?_); (case side1 => first | exact hG | exact Glob.below hG (by repeat (first | (with_reducible first | exact HB.out | apply below_alloc | apply pw_below_drewN | apply below_drew1) | exact HB.out))); rintro e w60 ⟨rfl, hb⟩; refine ⟨_, rfl, ?_⟩; have n0_ := Aside0.mk (below_step (by repeat (first | (with_reducible first | exact HB.out | apply below_alloc | apply pw_below_drewN | apply below_drew1) | exact HB.out)) hb); clear HB; have HB := n0_; clear n0_; (try clear hb); (try clear hb2); (try clear hk); (try clear hi)) | ((with_reducible refine gate_callee (f := 8) rfl ?_); refine goesL_ (some 21) rfl rfl Tryd.func8 (by kernel_rfl) rfl #[] rfl (by (try simp only [List.map_toArray, List.map_cons, List.map_nil]); first | done | rfl | (simp only [List.length_drop, List.length_take]; rfl)) ?_; (with_reducible refine (pillarboxlaw05_answers.calls k  true _ ?side1 A58.out).mono ?_); (case side1 => first | exact hG | exact Glob.below hG (by repeat (first | (with_reducible first | exact HB.out | apply below_alloc | apply pw_below_drewN | apply below_drew1) | exact HB.out))); rintro e w61 ⟨rfl, hb⟩; refine ⟨_, rfl, ?_⟩; have n0_ := Aside0.mk (below_step (by repeat (first | (with_reducible first | exact HB.out | apply below_alloc | apply pw_below_drewN | apply below_drew1) | exact HB.out)) hb); clear HB; have HB := n0_; clear n0_; (try clear hb); (try clear hb2); (try clear hk); (try clear hi)))
        go_ret
        exact ⟨by first | rfl | (simp [errW_none, errW_some] <;> rfl) | (simp [*, errW_none, errW_some] <;> rfl), by repeat (first | (with_reducible first | exact HB.out | apply below_alloc | apply pw_below_drewN | apply below_drew1) | exact HB.out)⟩
      · replace c59 := Bool.eq_false_iff.mpr c59
        subst c59
        have H1 : (some false) = some r := by rw [if_neg (show ¬ (false = true) by decide)] at H; exact H
        clear H
        have H := H1
        clear H1
        obtain rfl := Option.some.inj H
        go_enter Tryd.func4, Tryd.ntmps4
        go_wp2_with (first | ((with_reducible refine gate_callee (f := 9) rfl ?_); refine goesL_ (some 16) rfl rfl Tryd.func9 (by kernel_rfl) rfl #[.string a0] rfl (by (try simp only [List.map_toArray, List.map_cons, List.map_nil]); first | done | rfl | (simp only [List.length_drop, List.length_take]; rfl)) ?_; (with_reducible refine (addr_Parse.calls k a0 t191 false _ ?side1 A5.out).mono ?_); (case side1 => first | exact hG | exact Glob.below hG (by repeat (first | (with_reducible first | exact HB.out | apply below_alloc | apply pw_below_drewN | apply below_drew1) | exact HB.out))); rintro e w62 ⟨rfl, hb⟩; refine ⟨_, rfl, ?_⟩; have n0_ := Aside0.mk (below_step (by repeat (first | (with_reducible first | exact HB.out | apply below_alloc | apply pw_below_drewN | apply below_drew1) | exact HB.out)) hb); clear HB; have HB := n0_; clear n0_; (try clear hb); (try clear hb2); (try clear hk); (try clear hi)) | ((with_reducible refine gate_callee (f := 8) rfl ?_); refine goesL_ (some 21) rfl rfl Tryd.func8 (by kernel_rfl) rfl #[] rfl (by (try simp only [List.map_toArray, List.map_cons, List.map_nil]); first | done | rfl | (simp only [List.length_drop, List.length_take]; rfl)) ?_; (with_reducible refine (pillarboxlaw05_answers.calls k  false _ ?side1 A58.out).mono ?_); (case side1 => first | exact hG | exact Glob.below hG (by repeat (first | (with_reducible first | exact HB.out | apply below_alloc | apply pw_below_drewN | apply below_drew1) | exact HB.out))); rintro e w63 ⟨rfl, hb⟩; refine ⟨_, rfl, ?_⟩; have n0_ := Aside0.mk (below_step (by repeat (first | (with_reducible first | exact HB.out | apply below_alloc | apply pw_below_drewN | apply below_drew1) | exact HB.out)) hb); clear HB; have HB := n0_; clear n0_; (try clear hb); (try clear hb2); (try clear hk); (try clear hi)))
        go_ret
        exact ⟨by first | rfl | (simp [errW_none, errW_some] <;> rfl) | (simp [*, errW_none, errW_some] <;> rfl), by repeat (first | (with_reducible first | exact HB.out | apply below_alloc | apply pw_below_drewN | apply below_drew1) | exact HB.out)⟩

/-! ### pillarboxlaw05_AddrJoins: function 5 -/
def pillarboxlaw05_AddrJoins.f (k : Nat) (a0 : ByteArray) (a1 : ByteArray) : Option (Bool) := if (wrap64 ((a0.size : Int) + (a1.size : Int))) > 500 then ((pillarboxlaw05_answers.f k).bind fun t202 => (some t202)) else ((pillarboxlaw05_answers.f k).bind fun t203 => (if t203 = true then (if a0.size + 1 ≤ 9223372036854775807 then (if a0.size + 1 + a1.size ≤ 9223372036854775807 then ((addr_Domain.f k ((a0 ++ (⟨#[46]⟩ : ByteArray)) ++ a1)).bind fun t204 => ((pillarboxref05_Domain.f k ((a0 ++ (⟨#[46]⟩ : ByteArray)) ++ a1)).bind fun t205 => (if (t204 == t205) = true then ((addr_Domain.f k (a0 ++ (⟨#[46]⟩ : ByteArray))).bind fun t206 => (if t206 = true then (some false) else (if 1 + a0.size ≤ 9223372036854775807 then ((addr_Domain.f k ((⟨#[46]⟩ : ByteArray) ++ a0)).bind fun t207 => (if t207 = true then (some false) else ((addr_Domain.f k (⟨#[]⟩ : ByteArray)).bind fun t208 => (some (!t208))))) else (none)))) else (some false)))) else (none)) else (none)) else (some false)))
theorem pillarboxlaw05_AddrJoins.mono : ∀ a0 a1 k, LeO (pillarboxlaw05_AddrJoins.f k a0 a1) (pillarboxlaw05_AddrJoins.f (k + 1) a0 a1) := by
  intro a0 a1 k
  unfold pillarboxlaw05_AddrJoins.f
  repeat' first
      | (with_reducible exact addr_Domain.mono _ _)
      | (with_reducible exact pillarboxlaw05_answers.mono _)
      | (with_reducible exact pillarboxref05_Domain.mono _ _)
      | (with_reducible exact LeO.refl _)
      | (with_reducible exact LeO.none _)
      | (with_reducible refine LeO.ite ?_ ?_)
      | (with_reducible refine LeO.bind ?_ (fun _ => ?_))
      | exact addr_Domain.mono _ _
      | exact pillarboxlaw05_answers.mono _
      | exact pillarboxref05_Domain.mono _ _
      | exact LeO.none _
      | refine LeO.ite ?_ ?_
      | refine LeO.bind ?_ (fun _ => ?_)
set_option maxHeartbeats 8000000 in
set_option maxRecDepth 100000 in
theorem pillarboxlaw05_AddrJoins.calls (k : Nat) (a0 : ByteArray) (a1 : ByteArray) (r : Bool) (w : World) (hG : Glob w) (h : pillarboxlaw05_AddrJoins.f k a0 a1 = some r) :
    Calls Tryd.prog 5 #[.string a0, .string a1] w fun e w' => e = .returned (.bool r) ∧ Below w.heap.size w w' := by
  have HB := Aside0.mk (Below.refl w.heap.size w)
  have H : (if (wrap64 ((a0.size : Int) + (a1.size : Int))) > 500 then ((pillarboxlaw05_answers.f k).bind fun t202 => (some t202)) else ((pillarboxlaw05_answers.f k).bind fun t203 => (if t203 = true then (if a0.size + 1 ≤ 9223372036854775807 then (if a0.size + 1 + a1.size ≤ 9223372036854775807 then ((addr_Domain.f k ((a0 ++ (⟨#[46]⟩ : ByteArray)) ++ a1)).bind fun t204 => ((pillarboxref05_Domain.f k ((a0 ++ (⟨#[46]⟩ : ByteArray)) ++ a1)).bind fun t205 => (if (t204 == t205) = true then ((addr_Domain.f k (a0 ++ (⟨#[46]⟩ : ByteArray))).bind fun t206 => (if t206 = true then (some false) else (if 1 + a0.size ≤ 9223372036854775807 then ((addr_Domain.f k ((⟨#[46]⟩ : ByteArray) ++ a0)).bind fun t207 => (if t207 = true then (some false) else ((addr_Domain.f k (⟨#[]⟩ : ByteArray)).bind fun t208 => (some (!t208))))) else (none)))) else (some false)))) else (none)) else (none)) else (some false)))) = some r := h
  clear h
  by_cases c3 : (wrap64 ((a0.size : Int) + (a1.size : Int))) > 500
  · rw [if_pos c3] at H
    have c3b0 : decide (500 < (wrap64 ((a0.size : Int) + (a1.size : Int)))) = true := decide_eq_true c3
    clear c3
    replace H := Option.bind_eq_some_iff.mp H
    obtain ⟨t202, A40, H⟩ := H
    replace H : (some t202) = some r := H
    have A4 := Aside0.mk A40
    clear A40
    obtain rfl := Option.some.inj H
    go_enter Tryd.func5, Tryd.ntmps5
    go_wp2_with (first | ((with_reducible refine gate_callee (f := 8) rfl ?_); refine goesL_ (some 11) rfl rfl Tryd.func8 (by kernel_rfl) rfl #[] rfl (by (try simp only [List.map_toArray, List.map_cons, List.map_nil]); first | done | rfl | (simp only [List.length_drop, List.length_take]; rfl)) ?_; (with_reducible refine (pillarboxlaw05_answers.calls k  t202 _ ?side1 A4.out).mono ?_); (case side1 => first | exact hG | exact Glob.below hG (by repeat (first | (with_reducible first | exact HB.out | apply below_alloc | apply pw_below_drewN | apply below_drew1) | exact HB.out))); rintro e w5 ⟨rfl, hb⟩; refine ⟨_, rfl, ?_⟩; have n0_ := Aside0.mk (below_step (by repeat (first | (with_reducible first | exact HB.out | apply below_alloc | apply pw_below_drewN | apply below_drew1) | exact HB.out)) hb); clear HB; have HB := n0_; clear n0_; (try clear hb); (try clear hb2); (try clear hk); (try clear hi)))
    go_ret
    exact ⟨by first | rfl | (simp [errW_none, errW_some] <;> rfl) | (simp [*, errW_none, errW_some] <;> rfl), by repeat (first | (with_reducible first | exact HB.out | apply below_alloc | apply pw_below_drewN | apply below_drew1) | exact HB.out)⟩
  · rw [if_neg c3] at H
    have c3b0 : decide (500 < (wrap64 ((a0.size : Int) + (a1.size : Int)))) = false := decide_eq_false c3
    clear c3
    replace H := Option.bind_eq_some_iff.mp H
    obtain ⟨t203, A60, H⟩ := H
    replace H : (if t203 = true then (if a0.size + 1 ≤ 9223372036854775807 then (if a0.size + 1 + a1.size ≤ 9223372036854775807 then ((addr_Domain.f k ((a0 ++ (⟨#[46]⟩ : ByteArray)) ++ a1)).bind fun t204 => ((pillarboxref05_Domain.f k ((a0 ++ (⟨#[46]⟩ : ByteArray)) ++ a1)).bind fun t205 => (if (t204 == t205) = true then ((addr_Domain.f k (a0 ++ (⟨#[46]⟩ : ByteArray))).bind fun t206 => (if t206 = true then (some false) else (if 1 + a0.size ≤ 9223372036854775807 then ((addr_Domain.f k ((⟨#[46]⟩ : ByteArray) ++ a0)).bind fun t207 => (if t207 = true then (some false) else ((addr_Domain.f k (⟨#[]⟩ : ByteArray)).bind fun t208 => (some (!t208))))) else (none)))) else (some false)))) else (none)) else (none)) else (some false)) = some r := H
    have A6 := Aside0.mk A60
    clear A60
    by_cases c7 : t203 = true
    · subst c7
      have H1 : (if a0.size + 1 ≤ 9223372036854775807 then (if a0.size + 1 + a1.size ≤ 9223372036854775807 then ((addr_Domain.f k ((a0 ++ (⟨#[46]⟩ : ByteArray)) ++ a1)).bind fun t204 => ((pillarboxref05_Domain.f k ((a0 ++ (⟨#[46]⟩ : ByteArray)) ++ a1)).bind fun t205 => (if (t204 == t205) = true then ((addr_Domain.f k (a0 ++ (⟨#[46]⟩ : ByteArray))).bind fun t206 => (if t206 = true then (some false) else (if 1 + a0.size ≤ 9223372036854775807 then ((addr_Domain.f k ((⟨#[46]⟩ : ByteArray) ++ a0)).bind fun t207 => (if t207 = true then (some false) else ((addr_Domain.f k (⟨#[]⟩ : ByteArray)).bind fun t208 => (some (!t208))))) else (none)))) else (some false)))) else (none)) else (none)) = some r := by rw [if_pos rfl] at H; exact H
      clear H
      have H := H1
      clear H1
      by_cases c8 : a0.size + 1 ≤ 9223372036854775807
      · rw [if_pos c8] at H
        have c8b0 := eq_true c8
        have c8b1 : decide (a0.size + 1 ≤ 9223372036854775807) = true := decide_eq_true c8
        try have c8b2 : (9223372036854775807 < a0.size + 1) = False := eq_false (Nat.not_lt.2 c8)
        try rw [IntWalk.wrap64_in _ ⟨by omega, by omega⟩] at c3b0
        try rw [IntWalk.wrap64_in _ ⟨by omega, by omega⟩] at c3b0
        by_cases c9 : a0.size + 1 + a1.size ≤ 9223372036854775807
        · rw [if_pos c9] at H
          have c9b0 := eq_true c9
          have c9b1 : decide (a0.size + 1 + a1.size ≤ 9223372036854775807) = true := decide_eq_true c9
          try have c9b2 : (9223372036854775807 < a0.size + 1 + a1.size) = False := eq_false (Nat.not_lt.2 c9)
          try rw [IntWalk.wrap64_in _ ⟨by omega, by omega⟩] at c3b0
          try rw [IntWalk.wrap64_in _ ⟨by omega, by omega⟩] at c3b0
          replace H := Option.bind_eq_some_iff.mp H
          obtain ⟨t204, A100, H⟩ := H
          replace H : ((pillarboxref05_Domain.f k ((a0 ++ (⟨#[46]⟩ : ByteArray)) ++ a1)).bind fun t205 => (if (t204 == t205) = true then ((addr_Domain.f k (a0 ++ (⟨#[46]⟩ : ByteArray))).bind fun t206 => (if t206 = true then (some false) else (if 1 + a0.size ≤ 9223372036854775807 then ((addr_Domain.f k ((⟨#[46]⟩ : ByteArray) ++ a0)).bind fun t207 => (if t207 = true then (some false) else ((addr_Domain.f k (⟨#[]⟩ : ByteArray)).bind fun t208 => (some (!t208))))) else (none)))) else (some false))) = some r := H
          have A10 := Aside0.mk A100
          clear A100
          replace H := Option.bind_eq_some_iff.mp H
          obtain ⟨t205, A110, H⟩ := H
          replace H : (if (t204 == t205) = true then ((addr_Domain.f k (a0 ++ (⟨#[46]⟩ : ByteArray))).bind fun t206 => (if t206 = true then (some false) else (if 1 + a0.size ≤ 9223372036854775807 then ((addr_Domain.f k ((⟨#[46]⟩ : ByteArray) ++ a0)).bind fun t207 => (if t207 = true then (some false) else ((addr_Domain.f k (⟨#[]⟩ : ByteArray)).bind fun t208 => (some (!t208))))) else (none)))) else (some false)) = some r := H
          have A11 := Aside0.mk A110
          clear A110
          by_cases c12 : (t204 == t205) = true
          · rw [if_pos c12] at H
            have c12b0 : (t204 == t205) = true := c12
            (try (have c12b1 : decide (t204 = t205) = true := by simpa using c12))
            (try (have c12b2 : (t204 == t205) = true := by simpa using c12))
            clear c12
            replace H := Option.bind_eq_some_iff.mp H
            obtain ⟨t206, A130, H⟩ := H
            replace H : (if t206 = true then (some false) else (if 1 + a0.size ≤ 9223372036854775807 then ((addr_Domain.f k ((⟨#[46]⟩ : ByteArray) ++ a0)).bind fun t207 => (if t207 = true then (some false) else ((addr_Domain.f k (⟨#[]⟩ : ByteArray)).bind fun t208 => (some (!t208))))) else (none))) = some r := H
            have A13 := Aside0.mk A130
            clear A130
            by_cases c14 : t206 = true
            · subst c14
              have H1 : (some false) = some r := by rw [if_pos rfl] at H; exact H
              clear H
              have H := H1
              clear H1
              obtain rfl := Option.some.inj H
              go_enter Tryd.func5, Tryd.ntmps5
              go_wp2_with (first | ((with_reducible refine gate_callee (f := 8) rfl ?_); refine goesL_ (some 12) rfl rfl Tryd.func8 (by kernel_rfl) rfl #[] rfl (by (try simp only [List.map_toArray, List.map_cons, List.map_nil]); first | done | rfl | (simp only [List.length_drop, List.length_take]; rfl)) ?_; (with_reducible refine (pillarboxlaw05_answers.calls k  true _ ?side1 A6.out).mono ?_); (case side1 => first | exact hG | exact Glob.below hG (by repeat (first | (with_reducible first | exact HB.out | apply below_alloc | apply pw_below_drewN | apply below_drew1) | exact HB.out))); rintro e w15 ⟨rfl, hb⟩; refine ⟨_, rfl, ?_⟩; have n0_ := Aside0.mk (below_step (by repeat (first | (with_reducible first | exact HB.out | apply below_alloc | apply pw_below_drewN | apply below_drew1) | exact HB.out)) hb); clear HB; have HB := n0_; clear n0_; (try clear hb); (try clear hb2); (try clear hk); (try clear hi)) | (go_at_call 13; (with_reducible refine (addr_Domain.calls k ((a0 ++ (⟨#[46]⟩ : ByteArray)) ++ a1) t204 _ ?side1 A10.out).mono ?_); (case side1 => first | exact hG | exact Glob.below hG (by repeat (first | (with_reducible first | exact HB.out | apply below_alloc | apply pw_below_drewN | apply below_drew1) | exact HB.out))); rintro e w16 ⟨rfl, hb⟩; have n0_ := Aside0.mk (below_step (by repeat (first | (with_reducible first | exact HB.out | apply below_alloc | apply pw_below_drewN | apply below_drew1) | exact HB.out)) hb); clear HB; have HB := n0_; clear n0_; (try clear hb); (try clear hb2); (try clear hk); (try clear hi)) | (go_at_call 14; (with_reducible refine (pillarboxref05_Domain.calls k ((a0 ++ (⟨#[46]⟩ : ByteArray)) ++ a1) t205 _ ?side1 A11.out).mono ?_); (case side1 => first | exact hG | exact Glob.below hG (by repeat (first | (with_reducible first | exact HB.out | apply below_alloc | apply pw_below_drewN | apply below_drew1) | exact HB.out))); rintro e w17 ⟨rfl, hb⟩; have n0_ := Aside0.mk (below_step (by repeat (first | (with_reducible first | exact HB.out | apply below_alloc | apply pw_below_drewN | apply below_drew1) | exact HB.out)) hb); clear HB; have HB := n0_; clear n0_; (try clear hb); (try clear hb2); (try clear hk); (try clear hi)) | (go_at_call 13; (with_reducible refine (addr_Domain.calls k (a0 ++ (⟨#[46]⟩ : ByteArray)) true _ ?side1 A13.out).mono ?_); (case side1 => first | exact hG | exact Glob.below hG (by repeat (first | (with_reducible first | exact HB.out | apply below_alloc | apply pw_below_drewN | apply below_drew1) | exact HB.out))); rintro e w18 ⟨rfl, hb⟩; have n0_ := Aside0.mk (below_step (by repeat (first | (with_reducible first | exact HB.out | apply below_alloc | apply pw_below_drewN | apply below_drew1) | exact HB.out)) hb); clear HB; have HB := n0_; clear n0_; (try clear hb); (try clear hb2); (try clear hk); (try clear hi)))
              go_ret
              exact ⟨by first | rfl | (simp [errW_none, errW_some] <;> rfl) | (simp [*, errW_none, errW_some] <;> rfl), by repeat (first | (with_reducible first | exact HB.out | apply below_alloc | apply pw_below_drewN | apply below_drew1) | exact HB.out)⟩
            · replace c14 := Bool.eq_false_iff.mpr c14
              subst c14
              have H1 : (if 1 + a0.size ≤ 9223372036854775807 then ((addr_Domain.f k ((⟨#[46]⟩ : ByteArray) ++ a0)).bind fun t207 => (if t207 = true then (some false) else ((addr_Domain.f k (⟨#[]⟩ : ByteArray)).bind fun t208 => (some (!t208))))) else (none)) = some r := by rw [if_neg (show ¬ (false = true) by decide)] at H; exact H
              clear H
              have H := H1
              clear H1
              by_cases c19 : 1 + a0.size ≤ 9223372036854775807
              · rw [if_pos c19] at H
                have c19b0 := eq_true c19
                have c19b1 : decide (1 + a0.size ≤ 9223372036854775807) = true := decide_eq_true c19
                try have c19b2 : (9223372036854775807 < 1 + a0.size) = False := eq_false (Nat.not_lt.2 c19)
                try rw [IntWalk.wrap64_in _ ⟨by omega, by omega⟩] at c3b0
                try rw [IntWalk.wrap64_in _ ⟨by omega, by omega⟩] at c3b0
                replace H := Option.bind_eq_some_iff.mp H
                obtain ⟨t207, A200, H⟩ := H
                replace H : (if t207 = true then (some false) else ((addr_Domain.f k (⟨#[]⟩ : ByteArray)).bind fun t208 => (some (!t208)))) = some r := H
                have A20 := Aside0.mk A200
                clear A200
                by_cases c21 : t207 = true
                · subst c21
                  have H1 : (some false) = some r := by rw [if_pos rfl] at H; exact H
                  clear H
                  have H := H1
                  clear H1
                  obtain rfl := Option.some.inj H
                  go_enter Tryd.func5, Tryd.ntmps5
                  go_wp2_with (first | ((with_reducible refine gate_callee (f := 8) rfl ?_); refine goesL_ (some 12) rfl rfl Tryd.func8 (by kernel_rfl) rfl #[] rfl (by (try simp only [List.map_toArray, List.map_cons, List.map_nil]); first | done | rfl | (simp only [List.length_drop, List.length_take]; rfl)) ?_; (with_reducible refine (pillarboxlaw05_answers.calls k  true _ ?side1 A6.out).mono ?_); (case side1 => first | exact hG | exact Glob.below hG (by repeat (first | (with_reducible first | exact HB.out | apply below_alloc | apply pw_below_drewN | apply below_drew1) | exact HB.out))); rintro e w22 ⟨rfl, hb⟩; refine ⟨_, rfl, ?_⟩; have n0_ := Aside0.mk (below_step (by repeat (first | (with_reducible first | exact HB.out | apply below_alloc | apply pw_below_drewN | apply below_drew1) | exact HB.out)) hb); clear HB; have HB := n0_; clear n0_; (try clear hb); (try clear hb2); (try clear hk); (try clear hi)) | (go_at_call 13; (with_reducible refine (addr_Domain.calls k ((a0 ++ (⟨#[46]⟩ : ByteArray)) ++ a1) t204 _ ?side1 A10.out).mono ?_); (case side1 => first | exact hG | exact Glob.below hG (by repeat (first | (with_reducible first | exact HB.out | apply below_alloc | apply pw_below_drewN | apply below_drew1) | exact HB.out))); rintro e w23 ⟨rfl, hb⟩; have n0_ := Aside0.mk (below_step (by repeat (first | (with_reducible first | exact HB.out | apply below_alloc | apply pw_below_drewN | apply below_drew1) | exact HB.out)) hb); clear HB; have HB := n0_; clear n0_; (try clear hb); (try clear hb2); (try clear hk); (try clear hi)) | (go_at_call 14; (with_reducible refine (pillarboxref05_Domain.calls k ((a0 ++ (⟨#[46]⟩ : ByteArray)) ++ a1) t205 _ ?side1 A11.out).mono ?_); (case side1 => first | exact hG | exact Glob.below hG (by repeat (first | (with_reducible first | exact HB.out | apply below_alloc | apply pw_below_drewN | apply below_drew1) | exact HB.out))); rintro e w24 ⟨rfl, hb⟩; have n0_ := Aside0.mk (below_step (by repeat (first | (with_reducible first | exact HB.out | apply below_alloc | apply pw_below_drewN | apply below_drew1) | exact HB.out)) hb); clear HB; have HB := n0_; clear n0_; (try clear hb); (try clear hb2); (try clear hk); (try clear hi)) | (go_at_call 13; (with_reducible refine (addr_Domain.calls k (a0 ++ (⟨#[46]⟩ : ByteArray)) false _ ?side1 A13.out).mono ?_); (case side1 => first | exact hG | exact Glob.below hG (by repeat (first | (with_reducible first | exact HB.out | apply below_alloc | apply pw_below_drewN | apply below_drew1) | exact HB.out))); rintro e w25 ⟨rfl, hb⟩; have n0_ := Aside0.mk (below_step (by repeat (first | (with_reducible first | exact HB.out | apply below_alloc | apply pw_below_drewN | apply below_drew1) | exact HB.out)) hb); clear HB; have HB := n0_; clear n0_; (try clear hb); (try clear hb2); (try clear hk); (try clear hi)) | (go_at_call 13; (with_reducible refine (addr_Domain.calls k ((⟨#[46]⟩ : ByteArray) ++ a0) true _ ?side1 A20.out).mono ?_); (case side1 => first | exact hG | exact Glob.below hG (by repeat (first | (with_reducible first | exact HB.out | apply below_alloc | apply pw_below_drewN | apply below_drew1) | exact HB.out))); rintro e w26 ⟨rfl, hb⟩; have n0_ := Aside0.mk (below_step (by repeat (first | (with_reducible first | exact HB.out | apply below_alloc | apply pw_below_drewN | apply below_drew1) | exact HB.out)) hb); clear HB; have HB := n0_; clear n0_; (try clear hb); (try clear hb2); (try clear hk); (try clear hi)))
                  go_ret
                  exact ⟨by first | rfl | (simp [errW_none, errW_some] <;> rfl) | (simp [*, errW_none, errW_some] <;> rfl), by repeat (first | (with_reducible first | exact HB.out | apply below_alloc | apply pw_below_drewN | apply below_drew1) | exact HB.out)⟩
                · replace c21 := Bool.eq_false_iff.mpr c21
                  subst c21
                  have H1 : ((addr_Domain.f k (⟨#[]⟩ : ByteArray)).bind fun t208 => (some (!t208))) = some r := by rw [if_neg (show ¬ (false = true) by decide)] at H; exact H
                  clear H
                  have H := H1
                  clear H1
                  replace H := Option.bind_eq_some_iff.mp H
                  obtain ⟨t208, A270, H⟩ := H
                  replace H : (some (!t208)) = some r := H
                  have A27 := Aside0.mk A270
                  clear A270
                  obtain rfl := Option.some.inj H
                  go_enter Tryd.func5, Tryd.ntmps5
                  go_wp2_with (first | ((with_reducible refine gate_callee (f := 8) rfl ?_); refine goesL_ (some 12) rfl rfl Tryd.func8 (by kernel_rfl) rfl #[] rfl (by (try simp only [List.map_toArray, List.map_cons, List.map_nil]); first | done | rfl | (simp only [List.length_drop, List.length_take]; rfl)) ?_; (with_reducible refine (pillarboxlaw05_answers.calls k  true _ ?side1 A6.out).mono ?_); (case side1 => first | exact hG | exact Glob.below hG (by repeat (first | (with_reducible first | exact HB.out | apply below_alloc | apply pw_below_drewN | apply below_drew1) | exact HB.out))); rintro e w28 ⟨rfl, hb⟩; refine ⟨_, rfl, ?_⟩; have n0_ := Aside0.mk (below_step (by repeat (first | (with_reducible first | exact HB.out | apply below_alloc | apply pw_below_drewN | apply below_drew1) | exact HB.out)) hb); clear HB; have HB := n0_; clear n0_; (try clear hb); (try clear hb2); (try clear hk); (try clear hi)) | (go_at_call 13; (with_reducible refine (addr_Domain.calls k ((a0 ++ (⟨#[46]⟩ : ByteArray)) ++ a1) t204 _ ?side1 A10.out).mono ?_); (case side1 => first | exact hG | exact Glob.below hG (by repeat (first | (with_reducible first | exact HB.out | apply below_alloc | apply pw_below_drewN | apply below_drew1) | exact HB.out))); rintro e w29 ⟨rfl, hb⟩; have n0_ := Aside0.mk (below_step (by repeat (first | (with_reducible first | exact HB.out | apply below_alloc | apply pw_below_drewN | apply below_drew1) | exact HB.out)) hb); clear HB; have HB := n0_; clear n0_; (try clear hb); (try clear hb2); (try clear hk); (try clear hi)) | (go_at_call 14; (with_reducible refine (pillarboxref05_Domain.calls k ((a0 ++ (⟨#[46]⟩ : ByteArray)) ++ a1) t205 _ ?side1 A11.out).mono ?_); (case side1 => first | exact hG | exact Glob.below hG (by repeat (first | (with_reducible first | exact HB.out | apply below_alloc | apply pw_below_drewN | apply below_drew1) | exact HB.out))); rintro e w30 ⟨rfl, hb⟩; have n0_ := Aside0.mk (below_step (by repeat (first | (with_reducible first | exact HB.out | apply below_alloc | apply pw_below_drewN | apply below_drew1) | exact HB.out)) hb); clear HB; have HB := n0_; clear n0_; (try clear hb); (try clear hb2); (try clear hk); (try clear hi)) | (go_at_call 13; (with_reducible refine (addr_Domain.calls k (a0 ++ (⟨#[46]⟩ : ByteArray)) false _ ?side1 A13.out).mono ?_); (case side1 => first | exact hG | exact Glob.below hG (by repeat (first | (with_reducible first | exact HB.out | apply below_alloc | apply pw_below_drewN | apply below_drew1) | exact HB.out))); rintro e w31 ⟨rfl, hb⟩; have n0_ := Aside0.mk (below_step (by repeat (first | (with_reducible first | exact HB.out | apply below_alloc | apply pw_below_drewN | apply below_drew1) | exact HB.out)) hb); clear HB; have HB := n0_; clear n0_; (try clear hb); (try clear hb2); (try clear hk); (try clear hi)) | (go_at_call 13; (with_reducible refine (addr_Domain.calls k ((⟨#[46]⟩ : ByteArray) ++ a0) false _ ?side1 A20.out).mono ?_); (case side1 => first | exact hG | exact Glob.below hG (by repeat (first | (with_reducible first | exact HB.out | apply below_alloc | apply pw_below_drewN | apply below_drew1) | exact HB.out))); rintro e w32 ⟨rfl, hb⟩; have n0_ := Aside0.mk (below_step (by repeat (first | (with_reducible first | exact HB.out | apply below_alloc | apply pw_below_drewN | apply below_drew1) | exact HB.out)) hb); clear HB; have HB := n0_; clear n0_; (try clear hb); (try clear hb2); (try clear hk); (try clear hi)) | (go_at_call 13; (with_reducible refine (addr_Domain.calls k (⟨#[]⟩ : ByteArray) t208 _ ?side1 A27.out).mono ?_); (case side1 => first | exact hG | exact Glob.below hG (by repeat (first | (with_reducible first | exact HB.out | apply below_alloc | apply pw_below_drewN | apply below_drew1) | exact HB.out))); rintro e w33 ⟨rfl, hb⟩; have n0_ := Aside0.mk (below_step (by repeat (first | (with_reducible first | exact HB.out | apply below_alloc | apply pw_below_drewN | apply below_drew1) | exact HB.out)) hb); clear HB; have HB := n0_; clear n0_; (try clear hb); (try clear hb2); (try clear hk); (try clear hi)))
                  go_ret
                  exact ⟨by first | rfl | (simp [errW_none, errW_some] <;> rfl) | (simp [*, errW_none, errW_some] <;> rfl), by repeat (first | (with_reducible first | exact HB.out | apply below_alloc | apply pw_below_drewN | apply below_drew1) | exact HB.out)⟩
              · rw [if_neg c19] at H
                exact absurd H (by simp)
          · rw [if_neg c12] at H
            have c12b0 : (t204 == t205) = false := by simpa using c12
            (try (have c12b1 : decide (t204 = t205) = false := by simpa using c12))
            (try (have c12b2 : (t204 == t205) = false := by simpa using c12))
            (try (have c12b3 : ¬ (t204 = t205) := by simpa using c12))
            clear c12
            obtain rfl := Option.some.inj H
            go_enter Tryd.func5, Tryd.ntmps5
            go_wp2_with (first | ((with_reducible refine gate_callee (f := 8) rfl ?_); refine goesL_ (some 12) rfl rfl Tryd.func8 (by kernel_rfl) rfl #[] rfl (by (try simp only [List.map_toArray, List.map_cons, List.map_nil]); first | done | rfl | (simp only [List.length_drop, List.length_take]; rfl)) ?_; (with_reducible refine (pillarboxlaw05_answers.calls k  true _ ?side1 A6.out).mono ?_); (case side1 => first | exact hG | exact Glob.below hG (by repeat (first | (with_reducible first | exact HB.out | apply below_alloc | apply pw_below_drewN | apply below_drew1) | exact HB.out))); rintro e w34 ⟨rfl, hb⟩; refine ⟨_, rfl, ?_⟩; have n0_ := Aside0.mk (below_step (by repeat (first | (with_reducible first | exact HB.out | apply below_alloc | apply pw_below_drewN | apply below_drew1) | exact HB.out)) hb); clear HB; have HB := n0_; clear n0_; (try clear hb); (try clear hb2); (try clear hk); (try clear hi)) | (go_at_call 13; (with_reducible refine (addr_Domain.calls k ((a0 ++ (⟨#[46]⟩ : ByteArray)) ++ a1) t204 _ ?side1 A10.out).mono ?_); (case side1 => first | exact hG | exact Glob.below hG (by repeat (first | (with_reducible first | exact HB.out | apply below_alloc | apply pw_below_drewN | apply below_drew1) | exact HB.out))); rintro e w35 ⟨rfl, hb⟩; have n0_ := Aside0.mk (below_step (by repeat (first | (with_reducible first | exact HB.out | apply below_alloc | apply pw_below_drewN | apply below_drew1) | exact HB.out)) hb); clear HB; have HB := n0_; clear n0_; (try clear hb); (try clear hb2); (try clear hk); (try clear hi)) | (go_at_call 14; (with_reducible refine (pillarboxref05_Domain.calls k ((a0 ++ (⟨#[46]⟩ : ByteArray)) ++ a1) t205 _ ?side1 A11.out).mono ?_); (case side1 => first | exact hG | exact Glob.below hG (by repeat (first | (with_reducible first | exact HB.out | apply below_alloc | apply pw_below_drewN | apply below_drew1) | exact HB.out))); rintro e w36 ⟨rfl, hb⟩; have n0_ := Aside0.mk (below_step (by repeat (first | (with_reducible first | exact HB.out | apply below_alloc | apply pw_below_drewN | apply below_drew1) | exact HB.out)) hb); clear HB; have HB := n0_; clear n0_; (try clear hb); (try clear hb2); (try clear hk); (try clear hi)))
            go_ret
            exact ⟨by first | rfl | (simp [errW_none, errW_some] <;> rfl) | (simp [*, errW_none, errW_some] <;> rfl), by repeat (first | (with_reducible first | exact HB.out | apply below_alloc | apply pw_below_drewN | apply below_drew1) | exact HB.out)⟩
        · rw [if_neg c9] at H
          exact absurd H (by simp)
      · rw [if_neg c8] at H
        exact absurd H (by simp)
    · replace c7 := Bool.eq_false_iff.mpr c7
      subst c7
      have H1 : (some false) = some r := by rw [if_neg (show ¬ (false = true) by decide)] at H; exact H
      clear H
      have H := H1
      clear H1
      obtain rfl := Option.some.inj H
      go_enter Tryd.func5, Tryd.ntmps5
      go_wp2_with (first | ((with_reducible refine gate_callee (f := 8) rfl ?_); refine goesL_ (some 12) rfl rfl Tryd.func8 (by kernel_rfl) rfl #[] rfl (by (try simp only [List.map_toArray, List.map_cons, List.map_nil]); first | done | rfl | (simp only [List.length_drop, List.length_take]; rfl)) ?_; (with_reducible refine (pillarboxlaw05_answers.calls k  false _ ?side1 A6.out).mono ?_); (case side1 => first | exact hG | exact Glob.below hG (by repeat (first | (with_reducible first | exact HB.out | apply below_alloc | apply pw_below_drewN | apply below_drew1) | exact HB.out))); rintro e w37 ⟨rfl, hb⟩; refine ⟨_, rfl, ?_⟩; have n0_ := Aside0.mk (below_step (by repeat (first | (with_reducible first | exact HB.out | apply below_alloc | apply pw_below_drewN | apply below_drew1) | exact HB.out)) hb); clear HB; have HB := n0_; clear n0_; (try clear hb); (try clear hb2); (try clear hk); (try clear hi)))
      go_ret
      exact ⟨by first | rfl | (simp [errW_none, errW_some] <;> rfl) | (simp [*, errW_none, errW_some] <;> rfl), by repeat (first | (with_reducible first | exact HB.out | apply below_alloc | apply pw_below_drewN | apply below_drew1) | exact HB.out)⟩

def pillarboxref05_Great.f (a0 : ByteArray) : Option ByteArray := if a0.size ≤ 1000000 then some (Plain.S (a0.data.toList.map greatB)) else none
set_option maxHeartbeats 1000000 in
theorem pillarboxref05_Great.calls (a0 : ByteArray) (r : ByteArray) (w : World) (hG : Glob w) (h : pillarboxref05_Great.f a0 = some r) :
    Calls Tryd.prog 16 #[.string a0] w fun e w' => e = .returned (.string r) ∧ Below w.heap.size w w' := by
  unfold pillarboxref05_Great.f at h
  by_cases hz : a0.size ≤ 1000000
  · rw [if_pos hz] at h
    have H := Aside0.mk (Option.some.inj h)
    clear h
    obtain ⟨u, hu⟩ : ∃ u, a0.data.toList = u := ⟨_, rfl⟩
    have hul : u.length = a0.size := by rw [← hu, Array.length_toList]; rfl
    have hst := Turned.start greatB a0 5 w
    rw [hu] at hst
    have HS := Aside0.mk hst
    have HU := Aside0.mk hu
    have HL := Aside0.mk hul
    clear hst hu hul
    have kc := Lib.run_convert_string_bytes (P := Tryd.prog) w 9 35 5 a0 Tryd.underlying9 Tryd.underlying35 Tryd.underlying5
    go_enter Tryd.func16, Tryd.ntmps16
    go_wp2
    clear kc
    go_loopw [4] (fun v4 wr => ∃ k : Nat, k ≤ a0.size ∧ v4 = .int .i64 k ∧ Turned greatB u w.heap.size 5 k wr ∧ Below w.heap.size w wr) (fun v4 _ => a0.size - (intOf v4).toNat)
    case atStart =>
      exact ⟨0, by omega, rfl, HS.out, ⟨rfl, rfl, rfl, by rw [Lib.bytesWorld_size]; omega, fun k hk => Lib.bytesWorld_at_old w _ a0 k hk⟩⟩
    case round =>
      obtain ⟨k, hk, rfl, hT, hb⟩ := hrel
      have hbs := hb.size
      by_cases hlt : k < a0.size
      · obtain ⟨x, hx⟩ : ∃ x, u[k]? = some x := ⟨_, List.getElem?_eq_getElem (by have := HL.out; omega)⟩
        obtain ⟨hc, hf⟩ := hT.cell hx (Nat.le_refl _)
        have hx255 := x.toNat_lt
        have HX := Aside0.mk hx
        clear hx
        by_cases h1 : 97 ≤ (x.toNat : Int)
        · by_cases h2 : (x.toNat : Int) ≤ 122
          · have hy := greatB_yes (x := x) ⟨by omega, by omega⟩
            have HY := Aside0.mk hy
            clear hy
            go_wp2
            go_roundw
            case rel =>
              refine ⟨k + 1, by omega, by go_num, ?_, hb.setCell (Nat.le_refl _) _⟩
              have := hT.put HX.out
              rw [HY.out] at this
              exact this
            case measure => simp [intOf]; omega
          · have hy := greatB_no (x := x) (fun h => h2 (by omega))
            have HY := Aside0.mk hy
            clear hy
            go_wp2
            go_roundw
            case rel => exact ⟨k + 1, by omega, by go_num, hT.skip HX.out HY.out, hb⟩
            case measure => simp [intOf]; omega
        · have hy := greatB_no (x := x) (fun h => h1 (by omega))
          have HY := Aside0.mk hy
          clear hy
          go_wp2
          go_roundw
          case rel => exact ⟨k + 1, by omega, by go_num, hT.skip HX.out HY.out, hb⟩
          case measure => simp [intOf]; omega
      · have hk' : k = u.length := by have := HL.out; omega
        rw [hk'] at hT
        have hC := hT.read (by have := HL.out; omega)
        have hcv := Kd.C_string (P := Tryd.prog) (A := some ⟨w.heap.size, 0, none⟩) (c := grownCap w a0.size 0 5) Tryd.underlying35 Tryd.underlying5 Tryd.underlying9 hC
        rw [Plain.B_length, List.length_map, HL.out, Plain.strOfNums_B] at hcv
        clear hk' hT hC
        go_wp2
        go_ret
        rw [← H.out, HU.out]
        exact ⟨rfl, hb⟩
  · rw [if_neg hz] at h
    cases h

/-! ### pillarboxlaw05_AddrCases: function 6 -/
def pillarboxlaw05_AddrCases.j0 : Nat → ByteArray → ByteArray → Bool → Option (Bool)
  | 0, _, _, _ => none
  | k + 1, x3, x4, x24 => if x24 = true then ((pillarboxlaw05_answers.f k).bind fun t212 => (some t212)) else (if x3.size + 1 ≤ 9223372036854775807 then ((pillarboxref05_Great.f x4).bind fun t213 => (if x3.size + 1 + t213.size ≤ 9223372036854775807 then ((addr_Parse.f k ((x3 ++ (⟨#[64]⟩ : ByteArray)) ++ t213)).bind fun bt214 => (if x3.size + 1 + x4.size ≤ 9223372036854775807 then ((addr_Parse.f k ((x3 ++ (⟨#[64]⟩ : ByteArray)) ++ x4)).bind fun bt216 => ((pillarboxref05_Great.f x3).bind fun t218 => (if t218.size + 1 ≤ 9223372036854775807 then (if t218.size + 1 + x4.size ≤ 9223372036854775807 then ((addr_Parse.f k ((t218 ++ (⟨#[64]⟩ : ByteArray)) ++ x4)).bind fun bt219 => ((pillarboxlaw05_answers.f k).bind fun t221 => (if t221 = true then (if bt214.2 = true then (if bt216.2 = true then (if bt219.2 = true then (if bt214.1.toList = bt216.1.toList then ((pillarboxref05_Great.f x3).bind fun t222 => (some ((bt219.1.toList == bt216.1.toList) == (t222.toList == x3.toList)))) else (some false)) else (some false)) else (some false)) else (some false)) else (some false)))) else (none)) else (none)))) else (none))) else (none))) else (none))
def pillarboxlaw05_AddrCases.f (k : Nat) (a0 : ByteArray) : Option (Bool) := (pillarboxref05_Split.f k a0).bind fun bt209 => (if bt209.2.2 = true then (pillarboxlaw05_AddrCases.j0 k bt209.1 bt209.2.1 (decide ((a0.size : Int) > 64))) else (pillarboxlaw05_AddrCases.j0 k bt209.1 bt209.2.1 true))
theorem pillarboxlaw05_AddrCases.mono_l : ∀ k, (∀ y0 y1 y2, LeO (pillarboxlaw05_AddrCases.j0 k y0 y1 y2) (pillarboxlaw05_AddrCases.j0 (k + 1) y0 y1 y2))
  | 0 => fun _ _ _ r h => by simp [pillarboxlaw05_AddrCases.j0] at h
  | k + 1 => by
    have ih0 := pillarboxlaw05_AddrCases.mono_l k
    · intro y0 y1 y2
      unfold pillarboxlaw05_AddrCases.j0
      repeat' first
      | (with_reducible exact ih0 _ _ _)
      | (with_reducible exact addr_Parse.mono _ _)
      | (with_reducible exact pillarboxlaw05_answers.mono _)
      | (with_reducible exact pillarboxref05_Split.mono _ _)
      | (with_reducible exact LeO.refl _)
      | (with_reducible exact LeO.none _)
      | (with_reducible refine LeO.ite ?_ ?_)
      | (with_reducible refine LeO.bind ?_ (fun _ => ?_))
      | exact ih0 _ _ _
      | exact addr_Parse.mono _ _
      | exact pillarboxlaw05_answers.mono _
      | exact pillarboxref05_Split.mono _ _
      | exact LeO.none _
      | refine LeO.ite ?_ ?_
      | refine LeO.bind ?_ (fun _ => ?_)
theorem pillarboxlaw05_AddrCases.mono : ∀ a0 k, LeO (pillarboxlaw05_AddrCases.f k a0) (pillarboxlaw05_AddrCases.f (k + 1) a0) := by
  intro a0 k
  have ih0 := pillarboxlaw05_AddrCases.mono_l k
  unfold pillarboxlaw05_AddrCases.f
  repeat' first
      | (with_reducible exact ih0 _ _ _)
      | (with_reducible exact addr_Parse.mono _ _)
      | (with_reducible exact pillarboxlaw05_answers.mono _)
      | (with_reducible exact pillarboxref05_Split.mono _ _)
      | (with_reducible exact LeO.refl _)
      | (with_reducible exact LeO.none _)
      | (with_reducible refine LeO.ite ?_ ?_)
      | (with_reducible refine LeO.bind ?_ (fun _ => ?_))
      | exact ih0 _ _ _
      | exact addr_Parse.mono _ _
      | exact pillarboxlaw05_answers.mono _
      | exact pillarboxref05_Split.mono _ _
      | exact LeO.none _
      | refine LeO.ite ?_ ?_
      | refine LeO.bind ?_ (fun _ => ?_)
set_option maxHeartbeats 8000000 in
set_option maxRecDepth 100000 in
theorem pillarboxlaw05_AddrCases.calls (k : Nat) (a0 : ByteArray) (r : Bool) (w : World) (hG : Glob w) (h : pillarboxlaw05_AddrCases.f k a0 = some r) :
    Calls Tryd.prog 6 #[.string a0] w fun e w' => e = .returned (.bool r) ∧ Below w.heap.size w w' := by
  have HB := Aside0.mk (Below.refl w.heap.size w)
  have H : ((pillarboxref05_Split.f k a0).bind fun bt209 => (if bt209.2.2 = true then (pillarboxlaw05_AddrCases.j0 k bt209.1 bt209.2.1 (decide ((a0.size : Int) > 64))) else (pillarboxlaw05_AddrCases.j0 k bt209.1 bt209.2.1 true))) = some r := h
  clear h
  replace H := Option.bind_eq_some_iff.mp H
  obtain ⟨⟨t209, t210, t211⟩, A20, H⟩ := H
  replace H : (if t211 = true then (pillarboxlaw05_AddrCases.j0 k t209 t210 (decide ((a0.size : Int) > 64))) else (pillarboxlaw05_AddrCases.j0 k t209 t210 true)) = some r := H
  have A2 := Aside0.mk A20
  clear A20
  have HC3 := Aside0.mk H
  clear H
  go_enter Tryd.func6, Tryd.ntmps6
  go_upto_region 2 with (first | ((with_reducible refine gate_callee (f := 12) rfl ?_); refine goesL_ (some 14) rfl rfl Tryd.func12 (by kernel_rfl) rfl #[.string a0] rfl (by (try simp only [List.map_toArray, List.map_cons, List.map_nil]); first | done | rfl | (simp only [List.length_drop, List.length_take]; rfl)) ?_; (with_reducible refine (pillarboxref05_Split.calls k a0 t209 t210 t211 _ ?side1 A2.out).mono ?_); (case side1 => first | exact hG | exact Glob.below hG (by repeat (first | (with_reducible first | exact HB.out | apply below_alloc | apply pw_below_drewN | apply below_drew1) | exact HB.out))); rintro e w4 ⟨rfl, hb⟩; refine ⟨_, rfl, ?_⟩; have n0_ := Aside0.mk (below_step (by repeat (first | (with_reducible first | exact HB.out | apply below_alloc | apply pw_below_drewN | apply below_drew1) | exact HB.out)) hb); clear HB; have HB := n0_; clear n0_; (try clear hb); (try clear hb2); (try clear hk); (try clear hi)))
  (try simp only [Act.put, List.setIfInBounds_toArray, List.set_cons_zero, List.set_cons_succ])
  go_cut [24] (fun v24 wc => ∃ (kq : Nat) (x24_2 : Bool), v24 = .bool x24_2 ∧ Aside0 (pillarboxlaw05_AddrCases.j0 kq t209 t210 x24_2 = some r) ∧ Aside0 (kq ≤ k) ∧ Aside0 (Below w.heap.size w wc))
  case first =>
    have H := HC3.out
    clear HC3
    by_cases c5 : t211 = true
    · subst c5
      have H1 : (pillarboxlaw05_AddrCases.j0 k t209 t210 (decide ((a0.size : Int) > 64))) = some r := by rw [if_pos rfl] at H; exact H
      clear H
      have H := H1
      clear H1
      have H' := Aside0.mk H
      clear H
      go_wp2
      go_meet
      case rel => exact ⟨_, (decide ((a0.size : Int) > 64)), (by first | rfl | (simp; done) | (simp [*]; done)), H', ⟨by first | omega | exact Nat.le_refl _⟩, ⟨by repeat (first | (with_reducible first | exact HB.out | apply below_alloc | apply pw_below_drewN | apply below_drew1) | exact HB.out)⟩⟩
    · replace c5 := Bool.eq_false_iff.mpr c5
      subst c5
      have H1 : (pillarboxlaw05_AddrCases.j0 k t209 t210 true) = some r := by rw [if_neg (show ¬ (false = true) by decide)] at H; exact H
      clear H
      have H := H1
      clear H1
      have H' := Aside0.mk H
      clear H
      go_wp2
      go_meet
      case rel => exact ⟨_, (true), (by first | rfl | (simp; done) | (simp [*]; done)), H', ⟨by first | omega | exact Nat.le_refl _⟩, ⟨by repeat (first | (with_reducible first | exact HB.out | apply below_alloc | apply pw_below_drewN | apply below_drew1) | exact HB.out)⟩⟩
  case rest =>
    clear HC3
    try clear c1
    try clear p2
    try clear c5
    obtain ⟨kq, x24_2, rfl, HA, HJ2, HB⟩ := hcut
    cases kq with
    | zero => exact absurd HA.out (by simp [pillarboxlaw05_AddrCases.j0])
    | succ kj2 =>
      have H := HA.out
      clear HA
      simp only [pillarboxlaw05_AddrCases.j0] at H
      by_cases c6 : x24_2 = true
      · subst c6
        have H1 : ((pillarboxlaw05_answers.f kj2).bind fun t212 => (some t212)) = some r := by rw [if_pos rfl] at H; exact H
        clear H
        have H := H1
        clear H1
        replace H := Option.bind_eq_some_iff.mp H
        obtain ⟨t212, A70, H⟩ := H
        replace H : (some t212) = some r := H
        have A7 := Aside0.mk A70
        clear A70
        obtain rfl := Option.some.inj H
        go_wp2_with (first | ((with_reducible refine gate_callee (f := 8) rfl ?_); refine goesL_ (some 25) rfl rfl Tryd.func8 (by kernel_rfl) rfl #[] rfl (by (try simp only [List.map_toArray, List.map_cons, List.map_nil]); first | done | rfl | (simp only [List.length_drop, List.length_take]; rfl)) ?_; (with_reducible refine (pillarboxlaw05_answers.calls kj2  t212 _ ?side1 A7.out).mono ?_); (case side1 => first | exact hG | exact Glob.below hG (by repeat (first | (with_reducible first | exact HB.out | apply below_alloc | apply pw_below_drewN | apply below_drew1) | exact HB.out))); rintro e w8 ⟨rfl, hb⟩; refine ⟨_, rfl, ?_⟩; have n0_ := Aside0.mk (below_step (by repeat (first | (with_reducible first | exact HB.out | apply below_alloc | apply pw_below_drewN | apply below_drew1) | exact HB.out)) hb); clear HB; have HB := n0_; clear n0_; (try clear hb); (try clear hb2); (try clear hk); (try clear hi)))
        go_ret
        exact ⟨by first | rfl | (simp [errW_none, errW_some] <;> rfl) | (simp [*, errW_none, errW_some] <;> rfl), by repeat (first | (with_reducible first | exact HB.out | apply below_alloc | apply pw_below_drewN | apply below_drew1) | exact HB.out)⟩
      · replace c6 := Bool.eq_false_iff.mpr c6
        subst c6
        have H1 : (if t209.size + 1 ≤ 9223372036854775807 then ((pillarboxref05_Great.f t210).bind fun t213 => (if t209.size + 1 + t213.size ≤ 9223372036854775807 then ((addr_Parse.f kj2 ((t209 ++ (⟨#[64]⟩ : ByteArray)) ++ t213)).bind fun bt214 => (if t209.size + 1 + t210.size ≤ 9223372036854775807 then ((addr_Parse.f kj2 ((t209 ++ (⟨#[64]⟩ : ByteArray)) ++ t210)).bind fun bt216 => ((pillarboxref05_Great.f t209).bind fun t218 => (if t218.size + 1 ≤ 9223372036854775807 then (if t218.size + 1 + t210.size ≤ 9223372036854775807 then ((addr_Parse.f kj2 ((t218 ++ (⟨#[64]⟩ : ByteArray)) ++ t210)).bind fun bt219 => ((pillarboxlaw05_answers.f kj2).bind fun t221 => (if t221 = true then (if bt214.2 = true then (if bt216.2 = true then (if bt219.2 = true then (if bt214.1.toList = bt216.1.toList then ((pillarboxref05_Great.f t209).bind fun t222 => (some ((bt219.1.toList == bt216.1.toList) == (t222.toList == t209.toList)))) else (some false)) else (some false)) else (some false)) else (some false)) else (some false)))) else (none)) else (none)))) else (none))) else (none))) else (none)) = some r := by rw [if_neg (show ¬ (false = true) by decide)] at H; exact H
        clear H
        have H := H1
        clear H1
        by_cases c9 : t209.size + 1 ≤ 9223372036854775807
        · rw [if_pos c9] at H
          have c9b0 := eq_true c9
          have c9b1 : decide (t209.size + 1 ≤ 9223372036854775807) = true := decide_eq_true c9
          try have c9b2 : (9223372036854775807 < t209.size + 1) = False := eq_false (Nat.not_lt.2 c9)
          replace H := Option.bind_eq_some_iff.mp H
          obtain ⟨t213, A100, H⟩ := H
          replace H : (if t209.size + 1 + t213.size ≤ 9223372036854775807 then ((addr_Parse.f kj2 ((t209 ++ (⟨#[64]⟩ : ByteArray)) ++ t213)).bind fun bt214 => (if t209.size + 1 + t210.size ≤ 9223372036854775807 then ((addr_Parse.f kj2 ((t209 ++ (⟨#[64]⟩ : ByteArray)) ++ t210)).bind fun bt216 => ((pillarboxref05_Great.f t209).bind fun t218 => (if t218.size + 1 ≤ 9223372036854775807 then (if t218.size + 1 + t210.size ≤ 9223372036854775807 then ((addr_Parse.f kj2 ((t218 ++ (⟨#[64]⟩ : ByteArray)) ++ t210)).bind fun bt219 => ((pillarboxlaw05_answers.f kj2).bind fun t221 => (if t221 = true then (if bt214.2 = true then (if bt216.2 = true then (if bt219.2 = true then (if bt214.1.toList = bt216.1.toList then ((pillarboxref05_Great.f t209).bind fun t222 => (some ((bt219.1.toList == bt216.1.toList) == (t222.toList == t209.toList)))) else (some false)) else (some false)) else (some false)) else (some false)) else (some false)))) else (none)) else (none)))) else (none))) else (none)) = some r := H
          have A10 := Aside0.mk A100
          clear A100
          by_cases c11 : t209.size + 1 + t213.size ≤ 9223372036854775807
          · rw [if_pos c11] at H
            have c11b0 := eq_true c11
            have c11b1 : decide (t209.size + 1 + t213.size ≤ 9223372036854775807) = true := decide_eq_true c11
            try have c11b2 : (9223372036854775807 < t209.size + 1 + t213.size) = False := eq_false (Nat.not_lt.2 c11)
            replace H := Option.bind_eq_some_iff.mp H
            obtain ⟨⟨t214, t215⟩, A120, H⟩ := H
            replace H : (if t209.size + 1 + t210.size ≤ 9223372036854775807 then ((addr_Parse.f kj2 ((t209 ++ (⟨#[64]⟩ : ByteArray)) ++ t210)).bind fun bt216 => ((pillarboxref05_Great.f t209).bind fun t218 => (if t218.size + 1 ≤ 9223372036854775807 then (if t218.size + 1 + t210.size ≤ 9223372036854775807 then ((addr_Parse.f kj2 ((t218 ++ (⟨#[64]⟩ : ByteArray)) ++ t210)).bind fun bt219 => ((pillarboxlaw05_answers.f kj2).bind fun t221 => (if t221 = true then (if t215 = true then (if bt216.2 = true then (if bt219.2 = true then (if t214.toList = bt216.1.toList then ((pillarboxref05_Great.f t209).bind fun t222 => (some ((bt219.1.toList == bt216.1.toList) == (t222.toList == t209.toList)))) else (some false)) else (some false)) else (some false)) else (some false)) else (some false)))) else (none)) else (none)))) else (none)) = some r := H
            have A12 := Aside0.mk A120
            clear A120
            by_cases c13 : t209.size + 1 + t210.size ≤ 9223372036854775807
            · rw [if_pos c13] at H
              have c13b0 := eq_true c13
              have c13b1 : decide (t209.size + 1 + t210.size ≤ 9223372036854775807) = true := decide_eq_true c13
              try have c13b2 : (9223372036854775807 < t209.size + 1 + t210.size) = False := eq_false (Nat.not_lt.2 c13)
              replace H := Option.bind_eq_some_iff.mp H
              obtain ⟨⟨t216, t217⟩, A140, H⟩ := H
              replace H : ((pillarboxref05_Great.f t209).bind fun t218 => (if t218.size + 1 ≤ 9223372036854775807 then (if t218.size + 1 + t210.size ≤ 9223372036854775807 then ((addr_Parse.f kj2 ((t218 ++ (⟨#[64]⟩ : ByteArray)) ++ t210)).bind fun bt219 => ((pillarboxlaw05_answers.f kj2).bind fun t221 => (if t221 = true then (if t215 = true then (if t217 = true then (if bt219.2 = true then (if t214.toList = t216.toList then ((pillarboxref05_Great.f t209).bind fun t222 => (some ((bt219.1.toList == t216.toList) == (t222.toList == t209.toList)))) else (some false)) else (some false)) else (some false)) else (some false)) else (some false)))) else (none)) else (none))) = some r := H
              have A14 := Aside0.mk A140
              clear A140
              replace H := Option.bind_eq_some_iff.mp H
              obtain ⟨t218, A150, H⟩ := H
              replace H : (if t218.size + 1 ≤ 9223372036854775807 then (if t218.size + 1 + t210.size ≤ 9223372036854775807 then ((addr_Parse.f kj2 ((t218 ++ (⟨#[64]⟩ : ByteArray)) ++ t210)).bind fun bt219 => ((pillarboxlaw05_answers.f kj2).bind fun t221 => (if t221 = true then (if t215 = true then (if t217 = true then (if bt219.2 = true then (if t214.toList = t216.toList then ((pillarboxref05_Great.f t209).bind fun t222 => (some ((bt219.1.toList == t216.toList) == (t222.toList == t209.toList)))) else (some false)) else (some false)) else (some false)) else (some false)) else (some false)))) else (none)) else (none)) = some r := H
              have A15 := Aside0.mk A150
              clear A150
              by_cases c16 : t218.size + 1 ≤ 9223372036854775807
              · rw [if_pos c16] at H
                have c16b0 := eq_true c16
                have c16b1 : decide (t218.size + 1 ≤ 9223372036854775807) = true := decide_eq_true c16
                try have c16b2 : (9223372036854775807 < t218.size + 1) = False := eq_false (Nat.not_lt.2 c16)
                by_cases c17 : t218.size + 1 + t210.size ≤ 9223372036854775807
                · rw [if_pos c17] at H
                  have c17b0 := eq_true c17
                  have c17b1 : decide (t218.size + 1 + t210.size ≤ 9223372036854775807) = true := decide_eq_true c17
                  try have c17b2 : (9223372036854775807 < t218.size + 1 + t210.size) = False := eq_false (Nat.not_lt.2 c17)
                  replace H := Option.bind_eq_some_iff.mp H
                  obtain ⟨⟨t219, t220⟩, A180, H⟩ := H
                  replace H : ((pillarboxlaw05_answers.f kj2).bind fun t221 => (if t221 = true then (if t215 = true then (if t217 = true then (if t220 = true then (if t214.toList = t216.toList then ((pillarboxref05_Great.f t209).bind fun t222 => (some ((t219.toList == t216.toList) == (t222.toList == t209.toList)))) else (some false)) else (some false)) else (some false)) else (some false)) else (some false))) = some r := H
                  have A18 := Aside0.mk A180
                  clear A180
                  replace H := Option.bind_eq_some_iff.mp H
                  obtain ⟨t221, A190, H⟩ := H
                  replace H : (if t221 = true then (if t215 = true then (if t217 = true then (if t220 = true then (if t214.toList = t216.toList then ((pillarboxref05_Great.f t209).bind fun t222 => (some ((t219.toList == t216.toList) == (t222.toList == t209.toList)))) else (some false)) else (some false)) else (some false)) else (some false)) else (some false)) = some r := H
                  have A19 := Aside0.mk A190
                  clear A190
                  by_cases c20 : t221 = true
                  · subst c20
                    have H1 : (if t215 = true then (if t217 = true then (if t220 = true then (if t214.toList = t216.toList then ((pillarboxref05_Great.f t209).bind fun t222 => (some ((t219.toList == t216.toList) == (t222.toList == t209.toList)))) else (some false)) else (some false)) else (some false)) else (some false)) = some r := by rw [if_pos rfl] at H; exact H
                    clear H
                    have H := H1
                    clear H1
                    by_cases c21 : t215 = true
                    · subst c21
                      have H1 : (if t217 = true then (if t220 = true then (if t214.toList = t216.toList then ((pillarboxref05_Great.f t209).bind fun t222 => (some ((t219.toList == t216.toList) == (t222.toList == t209.toList)))) else (some false)) else (some false)) else (some false)) = some r := by rw [if_pos rfl] at H; exact H
                      clear H
                      have H := H1
                      clear H1
                      by_cases c22 : t217 = true
                      · subst c22
                        have H1 : (if t220 = true then (if t214.toList = t216.toList then ((pillarboxref05_Great.f t209).bind fun t222 => (some ((t219.toList == t216.toList) == (t222.toList == t209.toList)))) else (some false)) else (some false)) = some r := by rw [if_pos rfl] at H; exact H
                        clear H
                        have H := H1
                        clear H1
                        by_cases c23 : t220 = true
                        · subst c23
                          have H1 : (if t214.toList = t216.toList then ((pillarboxref05_Great.f t209).bind fun t222 => (some ((t219.toList == t216.toList) == (t222.toList == t209.toList)))) else (some false)) = some r := by rw [if_pos rfl] at H; exact H
                          clear H
                          have H := H1
                          clear H1
                          by_cases c24 : t214.toList = t216.toList
                          · rw [if_pos c24] at H
                            have c24b0 : (t214.toList == t216.toList) = true := beq_iff_eq.mpr c24
                            have c24b1 : (t214.toList != t216.toList) = false := bne_eq_false_iff_eq.mpr c24
                            clear c24
                            replace H := Option.bind_eq_some_iff.mp H
                            obtain ⟨t222, A250, H⟩ := H
                            replace H : (some ((t219.toList == t216.toList) == (t222.toList == t209.toList))) = some r := H
                            have A25 := Aside0.mk A250
                            clear A250
                            obtain rfl := Option.some.inj H
                            go_wp2_with (first | ((with_reducible refine gate_callee (f := 16) rfl ?_); refine goesL_ (some 30) rfl rfl Tryd.func16 (by kernel_rfl) rfl #[.string t210] rfl (by (try simp only [List.map_toArray, List.map_cons, List.map_nil]); first | done | rfl | (simp only [List.length_drop, List.length_take]; rfl)) ?_; (with_reducible refine (pillarboxref05_Great.calls t210 t213 _ ?side1 A10.out).mono ?_); (case side1 => first | exact hG | exact Glob.below hG (by repeat (first | (with_reducible first | exact HB.out | apply below_alloc | apply pw_below_drewN | apply below_drew1) | exact HB.out))); rintro e w26 ⟨rfl, hb⟩; refine ⟨_, rfl, ?_⟩; have n0_ := Aside0.mk (below_step (by repeat (first | (with_reducible first | exact HB.out | apply below_alloc | apply pw_below_drewN | apply below_drew1) | exact HB.out)) hb); clear HB; have HB := n0_; clear n0_; (try clear hb); (try clear hb2); (try clear hk); (try clear hi)) | ((with_reducible refine gate_callee (f := 9) rfl ?_); refine goesL_ (some 32) rfl rfl Tryd.func9 (by kernel_rfl) rfl #[.string ((t209 ++ (⟨#[64]⟩ : ByteArray)) ++ t213)] rfl (by (try simp only [List.map_toArray, List.map_cons, List.map_nil]); first | done | rfl | (simp only [List.length_drop, List.length_take]; rfl)) ?_; (with_reducible refine (addr_Parse.calls kj2 ((t209 ++ (⟨#[64]⟩ : ByteArray)) ++ t213) t214 true _ ?side1 A12.out).mono ?_); (case side1 => first | exact hG | exact Glob.below hG (by repeat (first | (with_reducible first | exact HB.out | apply below_alloc | apply pw_below_drewN | apply below_drew1) | exact HB.out))); rintro e w27 ⟨rfl, hb⟩; refine ⟨_, rfl, ?_⟩; have n0_ := Aside0.mk (below_step (by repeat (first | (with_reducible first | exact HB.out | apply below_alloc | apply pw_below_drewN | apply below_drew1) | exact HB.out)) hb); clear HB; have HB := n0_; clear n0_; (try clear hb); (try clear hb2); (try clear hk); (try clear hi)) | ((with_reducible refine gate_callee (f := 9) rfl ?_); refine goesL_ (some 40) rfl rfl Tryd.func9 (by kernel_rfl) rfl #[.string ((t209 ++ (⟨#[64]⟩ : ByteArray)) ++ t210)] rfl (by (try simp only [List.map_toArray, List.map_cons, List.map_nil]); first | done | rfl | (simp only [List.length_drop, List.length_take]; rfl)) ?_; (with_reducible refine (addr_Parse.calls kj2 ((t209 ++ (⟨#[64]⟩ : ByteArray)) ++ t210) t216 true _ ?side1 A14.out).mono ?_); (case side1 => first | exact hG | exact Glob.below hG (by repeat (first | (with_reducible first | exact HB.out | apply below_alloc | apply pw_below_drewN | apply below_drew1) | exact HB.out))); rintro e w28 ⟨rfl, hb⟩; refine ⟨_, rfl, ?_⟩; have n0_ := Aside0.mk (below_step (by repeat (first | (with_reducible first | exact HB.out | apply below_alloc | apply pw_below_drewN | apply below_drew1) | exact HB.out)) hb); clear HB; have HB := n0_; clear n0_; (try clear hb); (try clear hb2); (try clear hk); (try clear hi)) | ((with_reducible refine gate_callee (f := 16) rfl ?_); refine goesL_ (some 45) rfl rfl Tryd.func16 (by kernel_rfl) rfl #[.string t209] rfl (by (try simp only [List.map_toArray, List.map_cons, List.map_nil]); first | done | rfl | (simp only [List.length_drop, List.length_take]; rfl)) ?_; (with_reducible refine (pillarboxref05_Great.calls t209 t218 _ ?side1 A15.out).mono ?_); (case side1 => first | exact hG | exact Glob.below hG (by repeat (first | (with_reducible first | exact HB.out | apply below_alloc | apply pw_below_drewN | apply below_drew1) | exact HB.out))); rintro e w29 ⟨rfl, hb⟩; refine ⟨_, rfl, ?_⟩; have n0_ := Aside0.mk (below_step (by repeat (first | (with_reducible first | exact HB.out | apply below_alloc | apply pw_below_drewN | apply below_drew1) | exact HB.out)) hb); clear HB; have HB := n0_; clear n0_; (try clear hb); (try clear hb2); (try clear hk); (try clear hi)) | ((with_reducible refine gate_callee (f := 9) rfl ?_); refine goesL_ (some 49) rfl rfl Tryd.func9 (by kernel_rfl) rfl #[.string ((t218 ++ (⟨#[64]⟩ : ByteArray)) ++ t210)] rfl (by (try simp only [List.map_toArray, List.map_cons, List.map_nil]); first | done | rfl | (simp only [List.length_drop, List.length_take]; rfl)) ?_; (with_reducible refine (addr_Parse.calls kj2 ((t218 ++ (⟨#[64]⟩ : ByteArray)) ++ t210) t219 true _ ?side1 A18.out).mono ?_); (case side1 => first | exact hG | exact Glob.below hG (by repeat (first | (with_reducible first | exact HB.out | apply below_alloc | apply pw_below_drewN | apply below_drew1) | exact HB.out))); rintro e w30 ⟨rfl, hb⟩; refine ⟨_, rfl, ?_⟩; have n0_ := Aside0.mk (below_step (by repeat (first | (with_reducible first | exact HB.out | apply below_alloc | apply pw_below_drewN | apply below_drew1) | exact HB.out)) hb); clear HB; have HB := n0_; clear n0_; (try clear hb); (try clear hb2); (try clear hk); (try clear hi)) | ((with_reducible refine gate_callee (f := 8) rfl ?_); refine goesL_ (some 52) rfl rfl Tryd.func8 (by kernel_rfl) rfl #[] rfl (by (try simp only [List.map_toArray, List.map_cons, List.map_nil]); first | done | rfl | (simp only [List.length_drop, List.length_take]; rfl)) ?_; (with_reducible refine (pillarboxlaw05_answers.calls kj2  true _ ?side1 A19.out).mono ?_); (case side1 => first | exact hG | exact Glob.below hG (by repeat (first | (with_reducible first | exact HB.out | apply below_alloc | apply pw_below_drewN | apply below_drew1) | exact HB.out))); rintro e w31 ⟨rfl, hb⟩; refine ⟨_, rfl, ?_⟩; have n0_ := Aside0.mk (below_step (by repeat (first | (with_reducible first | exact HB.out | apply below_alloc | apply pw_below_drewN | apply below_drew1) | exact HB.out)) hb); clear HB; have HB := n0_; clear n0_; (try clear hb); (try clear hb2); (try clear hk); (try clear hi)) | (go_at_call 16; (with_reducible refine (pillarboxref05_Great.calls t209 t222 _ ?side1 A25.out).mono ?_); (case side1 => first | exact hG | exact Glob.below hG (by repeat (first | (with_reducible first | exact HB.out | apply below_alloc | apply pw_below_drewN | apply below_drew1) | exact HB.out))); rintro e w32 ⟨rfl, hb⟩; have n0_ := Aside0.mk (below_step (by repeat (first | (with_reducible first | exact HB.out | apply below_alloc | apply pw_below_drewN | apply below_drew1) | exact HB.out)) hb); clear HB; have HB := n0_; clear n0_; (try clear hb); (try clear hb2); (try clear hk); (try clear hi)))
                            go_ret
                            exact ⟨by first | rfl | (simp [errW_none, errW_some] <;> rfl) | (simp [*, errW_none, errW_some] <;> rfl), by repeat (first | (with_reducible first | exact HB.out | apply below_alloc | apply pw_below_drewN | apply below_drew1) | exact HB.out)⟩
                          · rw [if_neg c24] at H
                            have c24b0 : (t214.toList == t216.toList) = false := beq_eq_false_iff_ne.mpr c24
                            have c24b1 : (t214.toList != t216.toList) = true := bne_iff_ne.mpr c24
                            obtain rfl := Option.some.inj H
                            go_wp2_with (first | ((with_reducible refine gate_callee (f := 16) rfl ?_); refine goesL_ (some 30) rfl rfl Tryd.func16 (by kernel_rfl) rfl #[.string t210] rfl (by (try simp only [List.map_toArray, List.map_cons, List.map_nil]); first | done | rfl | (simp only [List.length_drop, List.length_take]; rfl)) ?_; (with_reducible refine (pillarboxref05_Great.calls t210 t213 _ ?side1 A10.out).mono ?_); (case side1 => first | exact hG | exact Glob.below hG (by repeat (first | (with_reducible first | exact HB.out | apply below_alloc | apply pw_below_drewN | apply below_drew1) | exact HB.out))); rintro e w33 ⟨rfl, hb⟩; refine ⟨_, rfl, ?_⟩; have n0_ := Aside0.mk (below_step (by repeat (first | (with_reducible first | exact HB.out | apply below_alloc | apply pw_below_drewN | apply below_drew1) | exact HB.out)) hb); clear HB; have HB := n0_; clear n0_; (try clear hb); (try clear hb2); (try clear hk); (try clear hi)) | ((with_reducible refine gate_callee (f := 9) rfl ?_); refine goesL_ (some 32) rfl rfl Tryd.func9 (by kernel_rfl) rfl #[.string ((t209 ++ (⟨#[64]⟩ : ByteArray)) ++ t213)] rfl (by (try simp only [List.map_toArray, List.map_cons, List.map_nil]); first | done | rfl | (simp only [List.length_drop, List.length_take]; rfl)) ?_; (with_reducible refine (addr_Parse.calls kj2 ((t209 ++ (⟨#[64]⟩ : ByteArray)) ++ t213) t214 true _ ?side1 A12.out).mono ?_); (case side1 => first | exact hG | exact Glob.below hG (by repeat (first | (with_reducible first | exact HB.out | apply below_alloc | apply pw_below_drewN | apply below_drew1) | exact HB.out))); rintro e w34 ⟨rfl, hb⟩; refine ⟨_, rfl, ?_⟩; have n0_ := Aside0.mk (below_step (by repeat (first | (with_reducible first | exact HB.out | apply below_alloc | apply pw_below_drewN | apply below_drew1) | exact HB.out)) hb); clear HB; have HB := n0_; clear n0_; (try clear hb); (try clear hb2); (try clear hk); (try clear hi)) | ((with_reducible refine gate_callee (f := 9) rfl ?_); refine goesL_ (some 40) rfl rfl Tryd.func9 (by kernel_rfl) rfl #[.string ((t209 ++ (⟨#[64]⟩ : ByteArray)) ++ t210)] rfl (by (try simp only [List.map_toArray, List.map_cons, List.map_nil]); first | done | rfl | (simp only [List.length_drop, List.length_take]; rfl)) ?_; (with_reducible refine (addr_Parse.calls kj2 ((t209 ++ (⟨#[64]⟩ : ByteArray)) ++ t210) t216 true _ ?side1 A14.out).mono ?_); (case side1 => first | exact hG | exact Glob.below hG (by repeat (first | (with_reducible first | exact HB.out | apply below_alloc | apply pw_below_drewN | apply below_drew1) | exact HB.out))); rintro e w35 ⟨rfl, hb⟩; refine ⟨_, rfl, ?_⟩; have n0_ := Aside0.mk (below_step (by repeat (first | (with_reducible first | exact HB.out | apply below_alloc | apply pw_below_drewN | apply below_drew1) | exact HB.out)) hb); clear HB; have HB := n0_; clear n0_; (try clear hb); (try clear hb2); (try clear hk); (try clear hi)) | ((with_reducible refine gate_callee (f := 16) rfl ?_); refine goesL_ (some 45) rfl rfl Tryd.func16 (by kernel_rfl) rfl #[.string t209] rfl (by (try simp only [List.map_toArray, List.map_cons, List.map_nil]); first | done | rfl | (simp only [List.length_drop, List.length_take]; rfl)) ?_; (with_reducible refine (pillarboxref05_Great.calls t209 t218 _ ?side1 A15.out).mono ?_); (case side1 => first | exact hG | exact Glob.below hG (by repeat (first | (with_reducible first | exact HB.out | apply below_alloc | apply pw_below_drewN | apply below_drew1) | exact HB.out))); rintro e w36 ⟨rfl, hb⟩; refine ⟨_, rfl, ?_⟩; have n0_ := Aside0.mk (below_step (by repeat (first | (with_reducible first | exact HB.out | apply below_alloc | apply pw_below_drewN | apply below_drew1) | exact HB.out)) hb); clear HB; have HB := n0_; clear n0_; (try clear hb); (try clear hb2); (try clear hk); (try clear hi)) | ((with_reducible refine gate_callee (f := 9) rfl ?_); refine goesL_ (some 49) rfl rfl Tryd.func9 (by kernel_rfl) rfl #[.string ((t218 ++ (⟨#[64]⟩ : ByteArray)) ++ t210)] rfl (by (try simp only [List.map_toArray, List.map_cons, List.map_nil]); first | done | rfl | (simp only [List.length_drop, List.length_take]; rfl)) ?_; (with_reducible refine (addr_Parse.calls kj2 ((t218 ++ (⟨#[64]⟩ : ByteArray)) ++ t210) t219 true _ ?side1 A18.out).mono ?_); (case side1 => first | exact hG | exact Glob.below hG (by repeat (first | (with_reducible first | exact HB.out | apply below_alloc | apply pw_below_drewN | apply below_drew1) | exact HB.out))); rintro e w37 ⟨rfl, hb⟩; refine ⟨_, rfl, ?_⟩; have n0_ := Aside0.mk (below_step (by repeat (first | (with_reducible first | exact HB.out | apply below_alloc | apply pw_below_drewN | apply below_drew1) | exact HB.out)) hb); clear HB; have HB := n0_; clear n0_; (try clear hb); (try clear hb2); (try clear hk); (try clear hi)) | ((with_reducible refine gate_callee (f := 8) rfl ?_); refine goesL_ (some 52) rfl rfl Tryd.func8 (by kernel_rfl) rfl #[] rfl (by (try simp only [List.map_toArray, List.map_cons, List.map_nil]); first | done | rfl | (simp only [List.length_drop, List.length_take]; rfl)) ?_; (with_reducible refine (pillarboxlaw05_answers.calls kj2  true _ ?side1 A19.out).mono ?_); (case side1 => first | exact hG | exact Glob.below hG (by repeat (first | (with_reducible first | exact HB.out | apply below_alloc | apply pw_below_drewN | apply below_drew1) | exact HB.out))); rintro e w38 ⟨rfl, hb⟩; refine ⟨_, rfl, ?_⟩; have n0_ := Aside0.mk (below_step (by repeat (first | (with_reducible first | exact HB.out | apply below_alloc | apply pw_below_drewN | apply below_drew1) | exact HB.out)) hb); clear HB; have HB := n0_; clear n0_; (try clear hb); (try clear hb2); (try clear hk); (try clear hi)))
                            go_ret
                            exact ⟨by first | rfl | (simp [errW_none, errW_some] <;> rfl) | (simp [*, errW_none, errW_some] <;> rfl), by repeat (first | (with_reducible first | exact HB.out | apply below_alloc | apply pw_below_drewN | apply below_drew1) | exact HB.out)⟩
                        · replace c23 := Bool.eq_false_iff.mpr c23
                          subst c23
                          have H1 : (some false) = some r := by rw [if_neg (show ¬ (false = true) by decide)] at H; exact H
                          clear H
                          have H := H1
                          clear H1
                          obtain rfl := Option.some.inj H
                          go_wp2_with (first | ((with_reducible refine gate_callee (f := 16) rfl ?_); refine goesL_ (some 30) rfl rfl Tryd.func16 (by kernel_rfl) rfl #[.string t210] rfl (by (try simp only [List.map_toArray, List.map_cons, List.map_nil]); first | done | rfl | (simp only [List.length_drop, List.length_take]; rfl)) ?_; (with_reducible refine (pillarboxref05_Great.calls t210 t213 _ ?side1 A10.out).mono ?_); (case side1 => first | exact hG | exact Glob.below hG (by repeat (first | (with_reducible first | exact HB.out | apply below_alloc | apply pw_below_drewN | apply below_drew1) | exact HB.out))); rintro e w39 ⟨rfl, hb⟩; refine ⟨_, rfl, ?_⟩; have n0_ := Aside0.mk (below_step (by repeat (first | (with_reducible first | exact HB.out | apply below_alloc | apply pw_below_drewN | apply below_drew1) | exact HB.out)) hb); clear HB; have HB := n0_; clear n0_; (try clear hb); (try clear hb2); (try clear hk); (try clear hi)) | ((with_reducible refine gate_callee (f := 9) rfl ?_); refine goesL_ (some 32) rfl rfl Tryd.func9 (by kernel_rfl) rfl #[.string ((t209 ++ (⟨#[64]⟩ : ByteArray)) ++ t213)] rfl (by (try simp only [List.map_toArray, List.map_cons, List.map_nil]); first | done | rfl | (simp only [List.length_drop, List.length_take]; rfl)) ?_; (with_reducible refine (addr_Parse.calls kj2 ((t209 ++ (⟨#[64]⟩ : ByteArray)) ++ t213) t214 true _ ?side1 A12.out).mono ?_); (case side1 => first | exact hG | exact Glob.below hG (by repeat (first | (with_reducible first | exact HB.out | apply below_alloc | apply pw_below_drewN | apply below_drew1) | exact HB.out))); rintro e w40 ⟨rfl, hb⟩; refine ⟨_, rfl, ?_⟩; have n0_ := Aside0.mk (below_step (by repeat (first | (with_reducible first | exact HB.out | apply below_alloc | apply pw_below_drewN | apply below_drew1) | exact HB.out)) hb); clear HB; have HB := n0_; clear n0_; (try clear hb); (try clear hb2); (try clear hk); (try clear hi)) | ((with_reducible refine gate_callee (f := 9) rfl ?_); refine goesL_ (some 40) rfl rfl Tryd.func9 (by kernel_rfl) rfl #[.string ((t209 ++ (⟨#[64]⟩ : ByteArray)) ++ t210)] rfl (by (try simp only [List.map_toArray, List.map_cons, List.map_nil]); first | done | rfl | (simp only [List.length_drop, List.length_take]; rfl)) ?_; (with_reducible refine (addr_Parse.calls kj2 ((t209 ++ (⟨#[64]⟩ : ByteArray)) ++ t210) t216 true _ ?side1 A14.out).mono ?_); (case side1 => first | exact hG | exact Glob.below hG (by repeat (first | (with_reducible first | exact HB.out | apply below_alloc | apply pw_below_drewN | apply below_drew1) | exact HB.out))); rintro e w41 ⟨rfl, hb⟩; refine ⟨_, rfl, ?_⟩; have n0_ := Aside0.mk (below_step (by repeat (first | (with_reducible first | exact HB.out | apply below_alloc | apply pw_below_drewN | apply below_drew1) | exact HB.out)) hb); clear HB; have HB := n0_; clear n0_; (try clear hb); (try clear hb2); (try clear hk); (try clear hi)) | ((with_reducible refine gate_callee (f := 16) rfl ?_); refine goesL_ (some 45) rfl rfl Tryd.func16 (by kernel_rfl) rfl #[.string t209] rfl (by (try simp only [List.map_toArray, List.map_cons, List.map_nil]); first | done | rfl | (simp only [List.length_drop, List.length_take]; rfl)) ?_; (with_reducible refine (pillarboxref05_Great.calls t209 t218 _ ?side1 A15.out).mono ?_); (case side1 => first | exact hG | exact Glob.below hG (by repeat (first | (with_reducible first | exact HB.out | apply below_alloc | apply pw_below_drewN | apply below_drew1) | exact HB.out))); rintro e w42 ⟨rfl, hb⟩; refine ⟨_, rfl, ?_⟩; have n0_ := Aside0.mk (below_step (by repeat (first | (with_reducible first | exact HB.out | apply below_alloc | apply pw_below_drewN | apply below_drew1) | exact HB.out)) hb); clear HB; have HB := n0_; clear n0_; (try clear hb); (try clear hb2); (try clear hk); (try clear hi)) | ((with_reducible refine gate_callee (f := 9) rfl ?_); refine goesL_ (some 49) rfl rfl Tryd.func9 (by kernel_rfl) rfl #[.string ((t218 ++ (⟨#[64]⟩ : ByteArray)) ++ t210)] rfl (by (try simp only [List.map_toArray, List.map_cons, List.map_nil]); first | done | rfl | (simp only [List.length_drop, List.length_take]; rfl)) ?_; (with_reducible refine (addr_Parse.calls kj2 ((t218 ++ (⟨#[64]⟩ : ByteArray)) ++ t210) t219 false _ ?side1 A18.out).mono ?_); (case side1 => first | exact hG | exact Glob.below hG (by repeat (first | (with_reducible first | exact HB.out | apply below_alloc | apply pw_below_drewN | apply below_drew1) | exact HB.out))); rintro e w43 ⟨rfl, hb⟩; refine ⟨_, rfl, ?_⟩; have n0_ := Aside0.mk (below_step (by repeat (first | (with_reducible first | exact HB.out | apply below_alloc | apply pw_below_drewN | apply below_drew1) | exact HB.out)) hb); clear HB; have HB := n0_; clear n0_; (try clear hb); (try clear hb2); (try clear hk); (try clear hi)) | ((with_reducible refine gate_callee (f := 8) rfl ?_); refine goesL_ (some 52) rfl rfl Tryd.func8 (by kernel_rfl) rfl #[] rfl (by (try simp only [List.map_toArray, List.map_cons, List.map_nil]); first | done | rfl | (simp only [List.length_drop, List.length_take]; rfl)) ?_; (with_reducible refine (pillarboxlaw05_answers.calls kj2  true _ ?side1 A19.out).mono ?_); (case side1 => first | exact hG | exact Glob.below hG (by repeat (first | (with_reducible first | exact HB.out | apply below_alloc | apply pw_below_drewN | apply below_drew1) | exact HB.out))); rintro e w44 ⟨rfl, hb⟩; refine ⟨_, rfl, ?_⟩; have n0_ := Aside0.mk (below_step (by repeat (first | (with_reducible first | exact HB.out | apply below_alloc | apply pw_below_drewN | apply below_drew1) | exact HB.out)) hb); clear HB; have HB := n0_; clear n0_; (try clear hb); (try clear hb2); (try clear hk); (try clear hi)))
                          go_ret
                          exact ⟨by first | rfl | (simp [errW_none, errW_some] <;> rfl) | (simp [*, errW_none, errW_some] <;> rfl), by repeat (first | (with_reducible first | exact HB.out | apply below_alloc | apply pw_below_drewN | apply below_drew1) | exact HB.out)⟩
                      · replace c22 := Bool.eq_false_iff.mpr c22
                        subst c22
                        have H1 : (some false) = some r := by rw [if_neg (show ¬ (false = true) by decide)] at H; exact H
                        clear H
                        have H := H1
                        clear H1
                        obtain rfl := Option.some.inj H
                        go_wp2_with (first | ((with_reducible refine gate_callee (f := 16) rfl ?_); refine goesL_ (some 30) rfl rfl Tryd.func16 (by kernel_rfl) rfl #[.string t210] rfl (by (try simp only [List.map_toArray, List.map_cons, List.map_nil]); first | done | rfl | (simp only [List.length_drop, List.length_take]; rfl)) ?_; (with_reducible refine (pillarboxref05_Great.calls t210 t213 _ ?side1 A10.out).mono ?_); (case side1 => first | exact hG | exact Glob.below hG (by repeat (first | (with_reducible first | exact HB.out | apply below_alloc | apply pw_below_drewN | apply below_drew1) | exact HB.out))); rintro e w45 ⟨rfl, hb⟩; refine ⟨_, rfl, ?_⟩; have n0_ := Aside0.mk (below_step (by repeat (first | (with_reducible first | exact HB.out | apply below_alloc | apply pw_below_drewN | apply below_drew1) | exact HB.out)) hb); clear HB; have HB := n0_; clear n0_; (try clear hb); (try clear hb2); (try clear hk); (try clear hi)) | ((with_reducible refine gate_callee (f := 9) rfl ?_); refine goesL_ (some 32) rfl rfl Tryd.func9 (by kernel_rfl) rfl #[.string ((t209 ++ (⟨#[64]⟩ : ByteArray)) ++ t213)] rfl (by (try simp only [List.map_toArray, List.map_cons, List.map_nil]); first | done | rfl | (simp only [List.length_drop, List.length_take]; rfl)) ?_; (with_reducible refine (addr_Parse.calls kj2 ((t209 ++ (⟨#[64]⟩ : ByteArray)) ++ t213) t214 true _ ?side1 A12.out).mono ?_); (case side1 => first | exact hG | exact Glob.below hG (by repeat (first | (with_reducible first | exact HB.out | apply below_alloc | apply pw_below_drewN | apply below_drew1) | exact HB.out))); rintro e w46 ⟨rfl, hb⟩; refine ⟨_, rfl, ?_⟩; have n0_ := Aside0.mk (below_step (by repeat (first | (with_reducible first | exact HB.out | apply below_alloc | apply pw_below_drewN | apply below_drew1) | exact HB.out)) hb); clear HB; have HB := n0_; clear n0_; (try clear hb); (try clear hb2); (try clear hk); (try clear hi)) | ((with_reducible refine gate_callee (f := 9) rfl ?_); refine goesL_ (some 40) rfl rfl Tryd.func9 (by kernel_rfl) rfl #[.string ((t209 ++ (⟨#[64]⟩ : ByteArray)) ++ t210)] rfl (by (try simp only [List.map_toArray, List.map_cons, List.map_nil]); first | done | rfl | (simp only [List.length_drop, List.length_take]; rfl)) ?_; (with_reducible refine (addr_Parse.calls kj2 ((t209 ++ (⟨#[64]⟩ : ByteArray)) ++ t210) t216 false _ ?side1 A14.out).mono ?_); (case side1 => first | exact hG | exact Glob.below hG (by repeat (first | (with_reducible first | exact HB.out | apply below_alloc | apply pw_below_drewN | apply below_drew1) | exact HB.out))); rintro e w47 ⟨rfl, hb⟩; refine ⟨_, rfl, ?_⟩; have n0_ := Aside0.mk (below_step (by repeat (first | (with_reducible first | exact HB.out | apply below_alloc | apply pw_below_drewN | apply below_drew1) | exact HB.out)) hb); clear HB; have HB := n0_; clear n0_; (try clear hb); (try clear hb2); (try clear hk); (try clear hi)) | ((with_reducible refine gate_callee (f := 16) rfl ?_); refine goesL_ (some 45) rfl rfl Tryd.func16 (by kernel_rfl) rfl #[.string t209] rfl (by (try simp only [List.map_toArray, List.map_cons, List.map_nil]); first | done | rfl | (simp only [List.length_drop, List.length_take]; rfl)) ?_; (with_reducible refine (pillarboxref05_Great.calls t209 t218 _ ?side1 A15.out).mono ?_); (case side1 => first | exact hG | exact Glob.below hG (by repeat (first | (with_reducible first | exact HB.out | apply below_alloc | apply pw_below_drewN | apply below_drew1) | exact HB.out))); rintro e w48 ⟨rfl, hb⟩; refine ⟨_, rfl, ?_⟩; have n0_ := Aside0.mk (below_step (by repeat (first | (with_reducible first | exact HB.out | apply below_alloc | apply pw_below_drewN | apply below_drew1) | exact HB.out)) hb); clear HB; have HB := n0_; clear n0_; (try clear hb); (try clear hb2); (try clear hk); (try clear hi)) | ((with_reducible refine gate_callee (f := 9) rfl ?_); refine goesL_ (some 49) rfl rfl Tryd.func9 (by kernel_rfl) rfl #[.string ((t218 ++ (⟨#[64]⟩ : ByteArray)) ++ t210)] rfl (by (try simp only [List.map_toArray, List.map_cons, List.map_nil]); first | done | rfl | (simp only [List.length_drop, List.length_take]; rfl)) ?_; (with_reducible refine (addr_Parse.calls kj2 ((t218 ++ (⟨#[64]⟩ : ByteArray)) ++ t210) t219 t220 _ ?side1 A18.out).mono ?_); (case side1 => first | exact hG | exact Glob.below hG (by repeat (first | (with_reducible first | exact HB.out | apply below_alloc | apply pw_below_drewN | apply below_drew1) | exact HB.out))); rintro e w49 ⟨rfl, hb⟩; refine ⟨_, rfl, ?_⟩; have n0_ := Aside0.mk (below_step (by repeat (first | (with_reducible first | exact HB.out | apply below_alloc | apply pw_below_drewN | apply below_drew1) | exact HB.out)) hb); clear HB; have HB := n0_; clear n0_; (try clear hb); (try clear hb2); (try clear hk); (try clear hi)) | ((with_reducible refine gate_callee (f := 8) rfl ?_); refine goesL_ (some 52) rfl rfl Tryd.func8 (by kernel_rfl) rfl #[] rfl (by (try simp only [List.map_toArray, List.map_cons, List.map_nil]); first | done | rfl | (simp only [List.length_drop, List.length_take]; rfl)) ?_; (with_reducible refine (pillarboxlaw05_answers.calls kj2  true _ ?side1 A19.out).mono ?_); (case side1 => first | exact hG | exact Glob.below hG (by repeat (first | (with_reducible first | exact HB.out | apply below_alloc | apply pw_below_drewN | apply below_drew1) | exact HB.out))); rintro e w50 ⟨rfl, hb⟩; refine ⟨_, rfl, ?_⟩; have n0_ := Aside0.mk (below_step (by repeat (first | (with_reducible first | exact HB.out | apply below_alloc | apply pw_below_drewN | apply below_drew1) | exact HB.out)) hb); clear HB; have HB := n0_; clear n0_; (try clear hb); (try clear hb2); (try clear hk); (try clear hi)))
                        go_ret
                        exact ⟨by first | rfl | (simp [errW_none, errW_some] <;> rfl) | (simp [*, errW_none, errW_some] <;> rfl), by repeat (first | (with_reducible first | exact HB.out | apply below_alloc | apply pw_below_drewN | apply below_drew1) | exact HB.out)⟩
                    · replace c21 := Bool.eq_false_iff.mpr c21
                      subst c21
                      have H1 : (some false) = some r := by rw [if_neg (show ¬ (false = true) by decide)] at H; exact H
                      clear H
                      have H := H1
                      clear H1
                      obtain rfl := Option.some.inj H
                      go_wp2_with (first | ((with_reducible refine gate_callee (f := 16) rfl ?_); refine goesL_ (some 30) rfl rfl Tryd.func16 (by kernel_rfl) rfl #[.string t210] rfl (by (try simp only [List.map_toArray, List.map_cons, List.map_nil]); first | done | rfl | (simp only [List.length_drop, List.length_take]; rfl)) ?_; (with_reducible refine (pillarboxref05_Great.calls t210 t213 _ ?side1 A10.out).mono ?_); (case side1 => first | exact hG | exact Glob.below hG (by repeat (first | (with_reducible first | exact HB.out | apply below_alloc | apply pw_below_drewN | apply below_drew1) | exact HB.out))); rintro e w51 ⟨rfl, hb⟩; refine ⟨_, rfl, ?_⟩; have n0_ := Aside0.mk (below_step (by repeat (first | (with_reducible first | exact HB.out | apply below_alloc | apply pw_below_drewN | apply below_drew1) | exact HB.out)) hb); clear HB; have HB := n0_; clear n0_; (try clear hb); (try clear hb2); (try clear hk); (try clear hi)) | ((with_reducible refine gate_callee (f := 9) rfl ?_); refine goesL_ (some 32) rfl rfl Tryd.func9 (by kernel_rfl) rfl #[.string ((t209 ++ (⟨#[64]⟩ : ByteArray)) ++ t213)] rfl (by (try simp only [List.map_toArray, List.map_cons, List.map_nil]); first | done | rfl | (simp only [List.length_drop, List.length_take]; rfl)) ?_; (with_reducible refine (addr_Parse.calls kj2 ((t209 ++ (⟨#[64]⟩ : ByteArray)) ++ t213) t214 false _ ?side1 A12.out).mono ?_); (case side1 => first | exact hG | exact Glob.below hG (by repeat (first | (with_reducible first | exact HB.out | apply below_alloc | apply pw_below_drewN | apply below_drew1) | exact HB.out))); rintro e w52 ⟨rfl, hb⟩; refine ⟨_, rfl, ?_⟩; have n0_ := Aside0.mk (below_step (by repeat (first | (with_reducible first | exact HB.out | apply below_alloc | apply pw_below_drewN | apply below_drew1) | exact HB.out)) hb); clear HB; have HB := n0_; clear n0_; (try clear hb); (try clear hb2); (try clear hk); (try clear hi)) | ((with_reducible refine gate_callee (f := 9) rfl ?_); refine goesL_ (some 40) rfl rfl Tryd.func9 (by kernel_rfl) rfl #[.string ((t209 ++ (⟨#[64]⟩ : ByteArray)) ++ t210)] rfl (by (try simp only [List.map_toArray, List.map_cons, List.map_nil]); first | done | rfl | (simp only [List.length_drop, List.length_take]; rfl)) ?_; (with_reducible refine (addr_Parse.calls kj2 ((t209 ++ (⟨#[64]⟩ : ByteArray)) ++ t210) t216 t217 _ ?side1 A14.out).mono ?_); (case side1 => first | exact hG | exact Glob.below hG (by repeat (first | (with_reducible first | exact HB.out | apply below_alloc | apply pw_below_drewN | apply below_drew1) | exact HB.out))); rintro e w53 ⟨rfl, hb⟩; refine ⟨_, rfl, ?_⟩; have n0_ := Aside0.mk (below_step (by repeat (first | (with_reducible first | exact HB.out | apply below_alloc | apply pw_below_drewN | apply below_drew1) | exact HB.out)) hb); clear HB; have HB := n0_; clear n0_; (try clear hb); (try clear hb2); (try clear hk); (try clear hi)) | ((with_reducible refine gate_callee (f := 16) rfl ?_); refine goesL_ (some 45) rfl rfl Tryd.func16 (by kernel_rfl) rfl #[.string t209] rfl (by (try simp only [List.map_toArray, List.map_cons, List.map_nil]); first | done | rfl | (simp only [List.length_drop, List.length_take]; rfl)) ?_; (with_reducible refine (pillarboxref05_Great.calls t209 t218 _ ?side1 A15.out).mono ?_); (case side1 => first | exact hG | exact Glob.below hG (by repeat (first | (with_reducible first | exact HB.out | apply below_alloc | apply pw_below_drewN | apply below_drew1) | exact HB.out))); rintro e w54 ⟨rfl, hb⟩; refine ⟨_, rfl, ?_⟩; have n0_ := Aside0.mk (below_step (by repeat (first | (with_reducible first | exact HB.out | apply below_alloc | apply pw_below_drewN | apply below_drew1) | exact HB.out)) hb); clear HB; have HB := n0_; clear n0_; (try clear hb); (try clear hb2); (try clear hk); (try clear hi)) | ((with_reducible refine gate_callee (f := 9) rfl ?_); refine goesL_ (some 49) rfl rfl Tryd.func9 (by kernel_rfl) rfl #[.string ((t218 ++ (⟨#[64]⟩ : ByteArray)) ++ t210)] rfl (by (try simp only [List.map_toArray, List.map_cons, List.map_nil]); first | done | rfl | (simp only [List.length_drop, List.length_take]; rfl)) ?_; (with_reducible refine (addr_Parse.calls kj2 ((t218 ++ (⟨#[64]⟩ : ByteArray)) ++ t210) t219 t220 _ ?side1 A18.out).mono ?_); (case side1 => first | exact hG | exact Glob.below hG (by repeat (first | (with_reducible first | exact HB.out | apply below_alloc | apply pw_below_drewN | apply below_drew1) | exact HB.out))); rintro e w55 ⟨rfl, hb⟩; refine ⟨_, rfl, ?_⟩; have n0_ := Aside0.mk (below_step (by repeat (first | (with_reducible first | exact HB.out | apply below_alloc | apply pw_below_drewN | apply below_drew1) | exact HB.out)) hb); clear HB; have HB := n0_; clear n0_; (try clear hb); (try clear hb2); (try clear hk); (try clear hi)) | ((with_reducible refine gate_callee (f := 8) rfl ?_); refine goesL_ (some 52) rfl rfl Tryd.func8 (by kernel_rfl) rfl #[] rfl (by (try simp only [List.map_toArray, List.map_cons, List.map_nil]); first | done | rfl | (simp only [List.length_drop, List.length_take]; rfl)) ?_; (with_reducible refine (pillarboxlaw05_answers.calls kj2  true _ ?side1 A19.out).mono ?_); (case side1 => first | exact hG | exact Glob.below hG (by repeat (first | (with_reducible first | exact HB.out | apply below_alloc | apply pw_below_drewN | apply below_drew1) | exact HB.out))); rintro e w56 ⟨rfl, hb⟩; refine ⟨_, rfl, ?_⟩; have n0_ := Aside0.mk (below_step (by repeat (first | (with_reducible first | exact HB.out | apply below_alloc | apply pw_below_drewN | apply below_drew1) | exact HB.out)) hb); clear HB; have HB := n0_; clear n0_; (try clear hb); (try clear hb2); (try clear hk); (try clear hi)))
                      go_ret
                      exact ⟨by first | rfl | (simp [errW_none, errW_some] <;> rfl) | (simp [*, errW_none, errW_some] <;> rfl), by repeat (first | (with_reducible first | exact HB.out | apply below_alloc | apply pw_below_drewN | apply below_drew1) | exact HB.out)⟩
                  · replace c20 := Bool.eq_false_iff.mpr c20
                    subst c20
                    have H1 : (some false) = some r := by rw [if_neg (show ¬ (false = true) by decide)] at H; exact H
                    clear H
                    have H := H1
                    clear H1
                    obtain rfl := Option.some.inj H
                    go_wp2_with (first | ((with_reducible refine gate_callee (f := 16) rfl ?_); refine goesL_ (some 30) rfl rfl Tryd.func16 (by kernel_rfl) rfl #[.string t210] rfl (by (try simp only [List.map_toArray, List.map_cons, List.map_nil]); first | done | rfl | (simp only [List.length_drop, List.length_take]; rfl)) ?_; (with_reducible refine (pillarboxref05_Great.calls t210 t213 _ ?side1 A10.out).mono ?_); (case side1 => first | exact hG | exact Glob.below hG (by repeat (first | (with_reducible first | exact HB.out | apply below_alloc | apply pw_below_drewN | apply below_drew1) | exact HB.out))); rintro e w57 ⟨rfl, hb⟩; refine ⟨_, rfl, ?_⟩; have n0_ := Aside0.mk (below_step (by repeat (first | (with_reducible first | exact HB.out | apply below_alloc | apply pw_below_drewN | apply below_drew1) | exact HB.out)) hb); clear HB; have HB := n0_; clear n0_; (try clear hb); (try clear hb2); (try clear hk); (try clear hi)) | ((with_reducible refine gate_callee (f := 9) rfl ?_); refine goesL_ (some 32) rfl rfl Tryd.func9 (by kernel_rfl) rfl #[.string ((t209 ++ (⟨#[64]⟩ : ByteArray)) ++ t213)] rfl (by (try simp only [List.map_toArray, List.map_cons, List.map_nil]); first | done | rfl | (simp only [List.length_drop, List.length_take]; rfl)) ?_; (with_reducible refine (addr_Parse.calls kj2 ((t209 ++ (⟨#[64]⟩ : ByteArray)) ++ t213) t214 t215 _ ?side1 A12.out).mono ?_); (case side1 => first | exact hG | exact Glob.below hG (by repeat (first | (with_reducible first | exact HB.out | apply below_alloc | apply pw_below_drewN | apply below_drew1) | exact HB.out))); rintro e w58 ⟨rfl, hb⟩; refine ⟨_, rfl, ?_⟩; have n0_ := Aside0.mk (below_step (by repeat (first | (with_reducible first | exact HB.out | apply below_alloc | apply pw_below_drewN | apply below_drew1) | exact HB.out)) hb); clear HB; have HB := n0_; clear n0_; (try clear hb); (try clear hb2); (try clear hk); (try clear hi)) | ((with_reducible refine gate_callee (f := 9) rfl ?_); refine goesL_ (some 40) rfl rfl Tryd.func9 (by kernel_rfl) rfl #[.string ((t209 ++ (⟨#[64]⟩ : ByteArray)) ++ t210)] rfl (by (try simp only [List.map_toArray, List.map_cons, List.map_nil]); first | done | rfl | (simp only [List.length_drop, List.length_take]; rfl)) ?_; (with_reducible refine (addr_Parse.calls kj2 ((t209 ++ (⟨#[64]⟩ : ByteArray)) ++ t210) t216 t217 _ ?side1 A14.out).mono ?_); (case side1 => first | exact hG | exact Glob.below hG (by repeat (first | (with_reducible first | exact HB.out | apply below_alloc | apply pw_below_drewN | apply below_drew1) | exact HB.out))); rintro e w59 ⟨rfl, hb⟩; refine ⟨_, rfl, ?_⟩; have n0_ := Aside0.mk (below_step (by repeat (first | (with_reducible first | exact HB.out | apply below_alloc | apply pw_below_drewN | apply below_drew1) | exact HB.out)) hb); clear HB; have HB := n0_; clear n0_; (try clear hb); (try clear hb2); (try clear hk); (try clear hi)) | ((with_reducible refine gate_callee (f := 16) rfl ?_); refine goesL_ (some 45) rfl rfl Tryd.func16 (by kernel_rfl) rfl #[.string t209] rfl (by (try simp only [List.map_toArray, List.map_cons, List.map_nil]); first | done | rfl | (simp only [List.length_drop, List.length_take]; rfl)) ?_; (with_reducible refine (pillarboxref05_Great.calls t209 t218 _ ?side1 A15.out).mono ?_); (case side1 => first | exact hG | exact Glob.below hG (by repeat (first | (with_reducible first | exact HB.out | apply below_alloc | apply pw_below_drewN | apply below_drew1) | exact HB.out))); rintro e w60 ⟨rfl, hb⟩; refine ⟨_, rfl, ?_⟩; have n0_ := Aside0.mk (below_step (by repeat (first | (with_reducible first | exact HB.out | apply below_alloc | apply pw_below_drewN | apply below_drew1) | exact HB.out)) hb); clear HB; have HB := n0_; clear n0_; (try clear hb); (try clear hb2); (try clear hk); (try clear hi)) | ((with_reducible refine gate_callee (f := 9) rfl ?_); refine goesL_ (some 49) rfl rfl Tryd.func9 (by kernel_rfl) rfl #[.string ((t218 ++ (⟨#[64]⟩ : ByteArray)) ++ t210)] rfl (by (try simp only [List.map_toArray, List.map_cons, List.map_nil]); first | done | rfl | (simp only [List.length_drop, List.length_take]; rfl)) ?_; (with_reducible refine (addr_Parse.calls kj2 ((t218 ++ (⟨#[64]⟩ : ByteArray)) ++ t210) t219 t220 _ ?side1 A18.out).mono ?_); (case side1 => first | exact hG | exact Glob.below hG (by repeat (first | (with_reducible first | exact HB.out | apply below_alloc | apply pw_below_drewN | apply below_drew1) | exact HB.out))); rintro e w61 ⟨rfl, hb⟩; refine ⟨_, rfl, ?_⟩; have n0_ := Aside0.mk (below_step (by repeat (first | (with_reducible first | exact HB.out | apply below_alloc | apply pw_below_drewN | apply below_drew1) | exact HB.out)) hb); clear HB; have HB := n0_; clear n0_; (try clear hb); (try clear hb2); (try clear hk); (try clear hi)) | ((with_reducible refine gate_callee (f := 8) rfl ?_); refine goesL_ (some 52) rfl rfl Tryd.func8 (by kernel_rfl) rfl #[] rfl (by (try simp only [List.map_toArray, List.map_cons, List.map_nil]); first | done | rfl | (simp only [List.length_drop, List.length_take]; rfl)) ?_; (with_reducible refine (pillarboxlaw05_answers.calls kj2  false _ ?side1 A19.out).mono ?_); (case side1 => first | exact hG | exact Glob.below hG (by repeat (first | (with_reducible first | exact HB.out | apply below_alloc | apply pw_below_drewN | apply below_drew1) | exact HB.out))); rintro e w62 ⟨rfl, hb⟩; refine ⟨_, rfl, ?_⟩; have n0_ := Aside0.mk (below_step (by repeat (first | (with_reducible first | exact HB.out | apply below_alloc | apply pw_below_drewN | apply below_drew1) | exact HB.out)) hb); clear HB; have HB := n0_; clear n0_; (try clear hb); (try clear hb2); (try clear hk); (try clear hi)))
                    go_ret
                    exact ⟨by first | rfl | (simp [errW_none, errW_some] <;> rfl) | (simp [*, errW_none, errW_some] <;> rfl), by repeat (first | (with_reducible first | exact HB.out | apply below_alloc | apply pw_below_drewN | apply below_drew1) | exact HB.out)⟩
                · rw [if_neg c17] at H
                  exact absurd H (by simp)
              · rw [if_neg c16] at H
                exact absurd H (by simp)
            · rw [if_neg c13] at H
              exact absurd H (by simp)
          · rw [if_neg c11] at H
            exact absurd H (by simp)
        · rw [if_neg c9] at H
          exact absurd H (by simp)

end Go.Proofs.YthhhaacoiknbpaaDoor.PALL
