-- printed by a program of this session out of the translation. Not trusted: Lean checks it.
import Derived.Test.YthdjeikfbbdehaaPALLx0
import Derived.Test.YthdjeikfbbdehaaPALLx1
namespace Go.Proofs.Ythdjeikfbbdehaa.PALL
open Go.RowKit Go.Proofs.YthdjeikfbbdehaaW.PrintWords Go.Proofs.YthdjeikfbbdehaaW.PrintLast Go.Proofs.YthdjeikfbbdehaaW.PrintMore
attribute [local go_sem] max2_int min2_int max_two min_two max_three min_three max_four min_four   -- for this text's walks alone
set_option linter.unusedVariables false
set_option linter.unusedSimpArgs false

/-! ### pillarboxref05_Line: function 14 -/
def pillarboxref05_Line.l0 : Nat → List Int → Int → Option (ByteArray × Int)
  | 0, _, _ => none
  | k + 1, x0, x4 => if (wrap64 (x4 + 1)) < (x0.length : Int) then (if 0 ≤ x4 then (if x4 < (x0.length : Int) then (if (rd x0 x4) = 13 then (if 0 ≤ (wrap64 (x4 + 1)) then (if (rd x0 (wrap64 (x4 + 1))) = 10 then (if x4 ≤ (x0.length : Int) then (some (strOfNums (x0.take (x4 : Int).toNat), wrap64 (x4 + 2))) else (none)) else (pillarboxref05_Line.l0 k x0 (wrap64 (x4 + 1)))) else (none)) else (pillarboxref05_Line.l0 k x0 (wrap64 (x4 + 1)))) else (none)) else (none)) else (some ((⟨#[]⟩ : ByteArray), 0))
def pillarboxref05_Line.f (k : Nat) (l0 : List Int) : Option (ByteArray × Int) := pillarboxref05_Line.l0 k l0 0
theorem pillarboxref05_Line.mono_l : ∀ k, (∀ y0 y1, LeO (pillarboxref05_Line.l0 k y0 y1) (pillarboxref05_Line.l0 (k + 1) y0 y1))
  | 0 => fun _ _ r h => by simp [pillarboxref05_Line.l0] at h
  | k + 1 => by
    have ih0 := pillarboxref05_Line.mono_l k
    · intro y0 y1
      unfold pillarboxref05_Line.l0
      repeat' first
      | (with_reducible exact ih0 _ _)
      | (with_reducible exact LeO.refl _)
      | (with_reducible exact LeO.none _)
      | (with_reducible refine LeO.ite ?_ ?_)
      | (with_reducible refine LeO.bind ?_ (fun _ => ?_))
      | exact ih0 _ _
      | exact LeO.none _
      | refine LeO.ite ?_ ?_
      | refine LeO.bind ?_ (fun _ => ?_)
theorem pillarboxref05_Line.mono : ∀ a0 k, LeO (pillarboxref05_Line.f k a0) (pillarboxref05_Line.f (k + 1) a0) := by
  intro a0 k
  have ih0 := pillarboxref05_Line.mono_l k
  unfold pillarboxref05_Line.f
  repeat' first
      | (with_reducible exact ih0 _ _)
      | (with_reducible exact LeO.refl _)
      | (with_reducible exact LeO.none _)
      | (with_reducible refine LeO.ite ?_ ?_)
      | (with_reducible refine LeO.bind ?_ (fun _ => ?_))
      | exact ih0 _ _
      | exact LeO.none _
      | refine LeO.ite ?_ ?_
      | refine LeO.bind ?_ (fun _ => ?_)
set_option maxHeartbeats 8000000 in
set_option maxRecDepth 100000 in
theorem pillarboxref05_Line.calls (k : Nat) (A0 : Option Addr) (c0 : Nat) (l0 : List Int) (r1 : ByteArray) (r2 : Int) (w : World) (hr0 : Kd.C (Kd.int .u8) w A0 l0.length l0) (hc0 : l0.length ≤ c0) (hG : Glob w) (h : pillarboxref05_Line.f k l0 = some (r1, r2)) :
    Calls Try.prog 14 #[.slice A0 l0.length c0] w fun e w' => e = .returned (.tuple #[.string r1, .int .i64 r2]) ∧ Drawn0 w w' := by
  have HR0 := Aside0.mk hr0
  have HC0 := Aside0.mk hc0
  clear hr0 hc0
  have H : (pillarboxref05_Line.l0 k l0 0) = some (r1, r2) := h
  clear h
  have H' := Aside0.mk H
  clear H
  go_enter Try.func14, Try.ntmps14
  go_wp2
  go_loopg [4] k (fun kq v4 w' => ∃ (x4_1 : Int), v4 = .int .i64 x4_1 ∧ Aside0 (pillarboxref05_Line.l0 kq l0 x4_1 = some (r1, r2)) ∧ Aside0 (kq ≤ k) ∧ Drawn0 w w')
  case atStart => exact ⟨(0), (by first | rfl | (simp; done) | (simp [*]; done)), H', ⟨Nat.le_refl _⟩, by repeat (first | exact Drawn0.refl _ | apply Drawn0.step)⟩
  case round =>
    clear H'
    try clear c1
    obtain ⟨x4_1, rfl, HA, HK1, ⟨m1, rfl⟩⟩ := hrel
    cases gk with
    | zero => exact absurd HA.out (by simp [pillarboxref05_Line.l0])
    | succ k1 =>
      have H := HA.out
      clear HA
      simp only [pillarboxref05_Line.l0] at H
      by_cases c2 : (wrap64 (x4_1 + 1)) < (l0.length : Int)
      · rw [if_pos c2] at H
        have c2b0 : decide ((wrap64 (x4_1 + 1)) < (l0.length : Int)) = true := decide_eq_true c2
        clear c2
        by_cases c3 : 0 ≤ x4_1
        · rw [if_pos c3] at H
          have c3b0 : decide (0 ≤ x4_1) = true := decide_eq_true c3
          clear c3
          by_cases c4 : x4_1 < (l0.length : Int)
          · rw [if_pos c4] at H
            have c4b0 : decide (x4_1 < (l0.length : Int)) = true := decide_eq_true c4
            clear c4
            by_cases c5 : (rd l0 x4_1) = 13
            · rw [if_pos c5] at H
              have c5b0 : ((rd l0 x4_1) == 13) = true := beq_iff_eq.mpr c5
              have c5b1 : ((rd l0 x4_1) != 13) = false := bne_eq_false_iff_eq.mpr c5
              clear c5
              obtain ⟨ji6, hji6⟩ : ∃ j_ : Int, (wrap64 (x4_1 + 1)) = j_ := ⟨_, rfl⟩
              replace H : (if 0 ≤ (ji6) then (if (rd l0 (ji6)) = 10 then (if x4_1 ≤ (l0.length : Int) then (some (strOfNums (l0.take (x4_1 : Int).toNat), wrap64 (x4_1 + 2))) else (none)) else (pillarboxref05_Line.l0 k1 l0 ji6)) else (none)) = some (r1, r2) := by first | (rw [hji6] at H; exact H) | (simp only [hji6] at H ⊢; exact H)
              (try rw [hji6] at c2b0)
              have hji6w : (IntKind.i64.wrap (x4_1 + 1)) = ji6 := (i64_w _).trans hji6
              by_cases c7 : 0 ≤ (ji6)
              · rw [if_pos c7] at H
                have c7b0 : decide (0 ≤ (ji6)) = true := decide_eq_true c7
                clear c7
                by_cases c8 : (rd l0 (ji6)) = 10
                · rw [if_pos c8] at H
                  have c8b0 : ((rd l0 (ji6)) == 10) = true := beq_iff_eq.mpr c8
                  have c8b1 : ((rd l0 (ji6)) != 10) = false := bne_eq_false_iff_eq.mpr c8
                  clear c8
                  have c9b0 := eq_true (of_decide_eq_true (by first | (with_reducible assumption) | assumption) : 0 ≤ x4_1)
                  by_cases c10 : x4_1 ≤ (l0.length : Int)
                  · rw [if_pos c10] at H
                    have c10b0 := eq_true c10
                    have c10b1 : decide (x4_1 ≤ (l0.length : Int)) = true := decide_eq_true c10
                    clear c10
                    simp only [Option.some.injEq, Prod.mk.injEq] at H
                    obtain ⟨rfl, rfl⟩ := H
                    have p145 : 0 ≤ (x4_1 : Int) := of_decide_eq_true (by first | (with_reducible assumption) | assumption)
                    have q145 : x4_1 < (l0.length : Int) := of_decide_eq_true (by first | (with_reducible assumption) | assumption)
                    obtain ⟨ad145, e145, hx145_0⟩ := Kd.at_int HR0.out x4_1 p145 q145
                    cases e145
                    replace p145 := eq_true p145
                    replace q145 := eq_true q145
                    have p146 : 0 ≤ ((ji6) : Int) := of_decide_eq_true (by first | (with_reducible assumption) | assumption)
                    have q146 : (ji6) < (l0.length : Int) := of_decide_eq_true (by first | (with_reducible assumption) | assumption)
                    obtain ⟨ad146, e146, hx146_0⟩ := Kd.at_int HR0.out (ji6) p146 q146
                    obtain rfl : ad145 = ad146 := (by injection e146)
                    replace p146 := eq_true p146
                    replace q146 := eq_true q146
                    obtain ⟨i011, hi011, _, hsz11, _⟩ := info_parts info5
                    obtain ⟨hcut11, hA11, hC11⟩ := print_take_of (P := Try.prog) (Value.int .u8) 0 22 5 .i64 Try.underlying22 hi011 hsz11 (some ad145) c0 l0 x4_1 (of_decide_eq_true (by first | (with_reducible assumption) | assumption)) (of_decide_eq_true (by first | (with_reducible assumption) | assumption)) HC0.out
                    have HR147 := Aside0.mk (Kd.C_of_reads (h1 := fun _ => rfl) (hA11 _ (Kd.reads_of_C HR0.out)))
                    have HC147 := Aside0.mk hC11
                    clear hA11 hC11 hi011 hsz11
                    have hcv12 := Kd.C_string (P := Try.prog) (A := (some ad145)) (c := c0) Try.underlying22 Try.underlying5 Try.underlying9 HR147.out
                    have hcvd12 := fun n_ => Kd.C_string (P := Try.prog) (A := (some ad145)) (c := c0) Try.underlying22 Try.underlying5 Try.underlying9 (Kd.C_drewN HR147.out n_)
                    have hcvb12 := Kd.C_string (P := Try.prog) (A := (some ad145)) (c := c0) Try.underlying22 Try.underlying5 Try.underlying9 HR147.out
                    have hcvdb12 := fun n_ => Kd.C_string (P := Try.prog) (A := (some ad145)) (c := c0) Try.underlying22 Try.underlying5 Try.underlying9 (Kd.C_drewN HR147.out n_)
                    (try rw [show (l0.take (x4_1 : Int).toNat).length = x4_1.toNat from (by rw [List.length_take]; have h_ : (x4_1 : Int) ≤ (l0.length : Int) := of_decide_eq_true (by first | (with_reducible assumption) | assumption); omega)] at hcvb12)
                    (try simp only [show (l0.take (x4_1 : Int).toNat).length = x4_1.toNat from (by rw [List.length_take]; have h_ : (x4_1 : Int) ≤ (l0.length : Int) := of_decide_eq_true (by first | (with_reducible assumption) | assumption); omega)] at hcvdb12)
                    go_wp2
                    go_ret2
                    exact ⟨by first | rfl | (simp; done) | (simp only [← hji6] <;> (first | rfl | simp)) | (simp [*]; done), by repeat (first | exact Drawn0.refl _ | apply Drawn0.step)⟩
                  · rw [if_neg c10] at H
                    exact absurd H (by simp)
                · rw [if_neg c8] at H
                  have c8b0 : ((rd l0 (ji6)) == 10) = false := beq_eq_false_iff_ne.mpr c8
                  have c8b1 : ((rd l0 (ji6)) != 10) = true := bne_iff_ne.mpr c8
                  have H' := Aside0.mk H
                  clear H
                  have p145 : 0 ≤ (x4_1 : Int) := of_decide_eq_true (by first | (with_reducible assumption) | assumption)
                  have q145 : x4_1 < (l0.length : Int) := of_decide_eq_true (by first | (with_reducible assumption) | assumption)
                  obtain ⟨ad145, e145, hx145_0⟩ := Kd.at_int HR0.out x4_1 p145 q145
                  cases e145
                  replace p145 := eq_true p145
                  replace q145 := eq_true q145
                  have p146 : 0 ≤ ((ji6) : Int) := of_decide_eq_true (by first | (with_reducible assumption) | assumption)
                  have q146 : (ji6) < (l0.length : Int) := of_decide_eq_true (by first | (with_reducible assumption) | assumption)
                  obtain ⟨ad146, e146, hx146_0⟩ := Kd.at_int HR0.out (ji6) p146 q146
                  obtain rfl : ad145 = ad146 := (by injection e146)
                  replace p146 := eq_true p146
                  replace q146 := eq_true q146
                  go_wp2
                  go_roundg k1
                  case measure => have := HK1.out; omega
                  case rel => exact ⟨(ji6), (by first | rfl | (simp; done) | (simp only [← hji6] <;> (first | rfl | simp)) | (simp [*]; done)), H', ⟨by have := HK1.out; omega⟩, by repeat (first | exact Drawn0.refl _ | apply Drawn0.step)⟩
              · rw [if_neg c7] at H
                exact absurd H (by simp)
            · rw [if_neg c5] at H
              have c5b0 : ((rd l0 x4_1) == 13) = false := beq_eq_false_iff_ne.mpr c5
              have c5b1 : ((rd l0 x4_1) != 13) = true := bne_iff_ne.mpr c5
              have H' := Aside0.mk H
              clear H
              have p145 : 0 ≤ (x4_1 : Int) := of_decide_eq_true (by first | (with_reducible assumption) | assumption)
              have q145 : x4_1 < (l0.length : Int) := of_decide_eq_true (by first | (with_reducible assumption) | assumption)
              obtain ⟨ad145, e145, hx145_0⟩ := Kd.at_int HR0.out x4_1 p145 q145
              cases e145
              replace p145 := eq_true p145
              replace q145 := eq_true q145
              go_wp2
              go_roundg k1
              case measure => have := HK1.out; omega
              case rel => exact ⟨(wrap64 (x4_1 + 1)), (by first | rfl | (simp; done) | (simp [*]; done)), H', ⟨by have := HK1.out; omega⟩, by repeat (first | exact Drawn0.refl _ | apply Drawn0.step)⟩
          · rw [if_neg c4] at H
            exact absurd H (by simp)
        · rw [if_neg c3] at H
          exact absurd H (by simp)
      · rw [if_neg c2] at H
        have c2b0 : decide ((wrap64 (x4_1 + 1)) < (l0.length : Int)) = false := decide_eq_false c2
        clear c2
        simp only [Option.some.injEq, Prod.mk.injEq] at H
        obtain ⟨rfl, rfl⟩ := H
        go_wp2
        go_ret2
        exact ⟨by first | rfl | (simp; done) | (simp [*]; done), by repeat (first | exact Drawn0.refl _ | apply Drawn0.step)⟩

/-! ### pillarboxlaw08_DotsBack: function 5 -/
mutual
def pillarboxlaw08_DotsBack.j0 : Nat → List Int → Bool → Option (Bool)
  | 0, _, _ => none
  | k + 1, x0, x18 => if x18 = true then ((pillarboxlaw08_answers.f k).bind fun t149 => (some t149)) else ((dots_Stuff.f k x0).bind fun bt150 => (if bt150.1.size ≤ 9223372036854775807 then (pillarboxlaw08_DotsBack.l0 k x0 (bytesOf bt150.1) (⟨#[]⟩ : ByteArray)) else (none)))
def pillarboxlaw08_DotsBack.l0 : Nat → List Int → List Int → ByteArray → Option (Bool)
  | 0, _, _, _ => none
  | k + 1, x0, x5, x6 => (pillarboxref05_Line.f k x5).bind fun bt155 => (if bt155.2 = 0 then (some false) else (if 0 ≤ bt155.2 then (if bt155.2 ≤ (x5.length : Int) then ((some (x5.drop (bt155.2 : Int).toNat : List Int)).bind fun y157 => ((dots_Unstuff.f bt155.1).bind fun bt162 => (if bt162.2 = true then ((pillarboxlaw08_answers.f k).bind fun t164 => (if t164 = true then (if (y157.length : Int) = 0 then (some (x6.toList == (strOfNums x0).toList)) else (some false)) else (some false))) else (if x6.size + bt162.1.size ≤ 9223372036854775807 then (if x6.size + bt162.1.size + 1 ≤ 9223372036854775807 then (pillarboxlaw08_DotsBack.l0 k x0 y157 ((x6 ++ bt162.1) ++ (⟨#[10]⟩ : ByteArray))) else (none)) else (none))))) else (none)) else (none)))
end
def pillarboxlaw08_DotsBack.f (k : Nat) (l0 : List Int) : Option (Bool) := if (l0.length : Int) > 2000 then (pillarboxlaw08_DotsBack.j0 k l0 true) else ((pillarboxlaw08_body.f k l0).bind fun t148 => (pillarboxlaw08_DotsBack.j0 k l0 (!t148)))
theorem pillarboxlaw08_DotsBack.mono_l : ∀ k, (∀ y0 y1, LeO (pillarboxlaw08_DotsBack.j0 k y0 y1) (pillarboxlaw08_DotsBack.j0 (k + 1) y0 y1)) ∧ (∀ y0 y1 y2, LeO (pillarboxlaw08_DotsBack.l0 k y0 y1 y2) (pillarboxlaw08_DotsBack.l0 (k + 1) y0 y1 y2))
  | 0 => ⟨fun _ _ r h => by simp [pillarboxlaw08_DotsBack.j0] at h, fun _ _ _ r h => by simp [pillarboxlaw08_DotsBack.l0] at h⟩
  | k + 1 => by
    obtain ⟨ih0, ih1⟩ := pillarboxlaw08_DotsBack.mono_l k
    refine ⟨?_, ?_⟩
    · intro y0 y1
      unfold pillarboxlaw08_DotsBack.j0
      repeat' first
      | (with_reducible exact ih0 _ _)
      | (with_reducible exact ih1 _ _ _)
      | (with_reducible exact dots_Stuff.mono _ _)
      | (with_reducible exact pillarboxlaw08_answers.mono _)
      | (with_reducible exact pillarboxlaw08_body.mono _ _)
      | (with_reducible exact pillarboxref05_Line.mono _ _)
      | (with_reducible exact LeO.refl _)
      | (with_reducible exact LeO.none _)
      | (with_reducible refine LeO.ite ?_ ?_)
      | (with_reducible refine LeO.bind ?_ (fun _ => ?_))
      | exact ih0 _ _
      | exact ih1 _ _ _
      | exact dots_Stuff.mono _ _
      | exact pillarboxlaw08_answers.mono _
      | exact pillarboxlaw08_body.mono _ _
      | exact pillarboxref05_Line.mono _ _
      | exact LeO.none _
      | refine LeO.ite ?_ ?_
      | refine LeO.bind ?_ (fun _ => ?_)
    · intro y0 y1 y2
      unfold pillarboxlaw08_DotsBack.l0
      repeat' first
      | (with_reducible exact ih0 _ _)
      | (with_reducible exact ih1 _ _ _)
      | (with_reducible exact dots_Stuff.mono _ _)
      | (with_reducible exact pillarboxlaw08_answers.mono _)
      | (with_reducible exact pillarboxlaw08_body.mono _ _)
      | (with_reducible exact pillarboxref05_Line.mono _ _)
      | (with_reducible exact LeO.refl _)
      | (with_reducible exact LeO.none _)
      | (with_reducible refine LeO.ite ?_ ?_)
      | (with_reducible refine LeO.bind ?_ (fun _ => ?_))
      | exact ih0 _ _
      | exact ih1 _ _ _
      | exact dots_Stuff.mono _ _
      | exact pillarboxlaw08_answers.mono _
      | exact pillarboxlaw08_body.mono _ _
      | exact pillarboxref05_Line.mono _ _
      | exact LeO.none _
      | refine LeO.ite ?_ ?_
      | refine LeO.bind ?_ (fun _ => ?_)
theorem pillarboxlaw08_DotsBack.mono : ∀ a0 k, LeO (pillarboxlaw08_DotsBack.f k a0) (pillarboxlaw08_DotsBack.f (k + 1) a0) := by
  intro a0 k
  obtain ⟨ih0, ih1⟩ := pillarboxlaw08_DotsBack.mono_l k
  unfold pillarboxlaw08_DotsBack.f
  repeat' first
      | (with_reducible exact ih0 _ _)
      | (with_reducible exact ih1 _ _ _)
      | (with_reducible exact dots_Stuff.mono _ _)
      | (with_reducible exact pillarboxlaw08_answers.mono _)
      | (with_reducible exact pillarboxlaw08_body.mono _ _)
      | (with_reducible exact pillarboxref05_Line.mono _ _)
      | (with_reducible exact LeO.refl _)
      | (with_reducible exact LeO.none _)
      | (with_reducible refine LeO.ite ?_ ?_)
      | (with_reducible refine LeO.bind ?_ (fun _ => ?_))
      | exact ih0 _ _
      | exact ih1 _ _ _
      | exact dots_Stuff.mono _ _
      | exact pillarboxlaw08_answers.mono _
      | exact pillarboxlaw08_body.mono _ _
      | exact pillarboxref05_Line.mono _ _
      | exact LeO.none _
      | refine LeO.ite ?_ ?_
      | refine LeO.bind ?_ (fun _ => ?_)
set_option maxHeartbeats 8000000 in
set_option maxRecDepth 100000 in
theorem pillarboxlaw08_DotsBack.calls (k : Nat) (A0 : Option Addr) (c0 : Nat) (l0 : List Int) (r : Bool) (w : World) (hr0 : Kd.C (Kd.int .u8) w A0 l0.length l0) (hc0 : l0.length ≤ c0) (hG : Glob w) (h : pillarboxlaw08_DotsBack.f k l0 = some r) :
    Calls Try.prog 5 #[.slice A0 l0.length c0] w fun e w' => e = .returned (.bool r) ∧ Below w.heap.size w w' := by
  have HR0 := Aside0.mk hr0
  have HC0 := Aside0.mk hc0
  clear hr0 hc0
  have HB := Aside0.mk (Below.refl w.heap.size w)
  have H : (if (l0.length : Int) > 2000 then (pillarboxlaw08_DotsBack.j0 k l0 true) else ((pillarboxlaw08_body.f k l0).bind fun t148 => (pillarboxlaw08_DotsBack.j0 k l0 (!t148)))) = some r := h
  clear h
  have HC2 := Aside0.mk H
  clear H
  go_enter Try.func5, Try.ntmps5
  go_upto_region 1 with (fail)
  go_cut [18] (fun v18 wc => ∃ (kq : Nat) (x18_1 : Bool), v18 = .bool x18_1 ∧ Aside0 (pillarboxlaw08_DotsBack.j0 kq l0 x18_1 = some r) ∧ Aside0 (kq ≤ k) ∧ Aside0 (Below w.heap.size w wc))
  case first =>
    have H := HC2.out
    clear HC2
    by_cases c3 : (l0.length : Int) > 2000
    · rw [if_pos c3] at H
      have c3b0 : decide (2000 < (l0.length : Int)) = true := decide_eq_true c3
      have c3b1 : decide (2000 < l0.length) = true := decide_eq_true (by omega)
      clear c3
      (first | rw [c3b0] | (simp only [i64_w, i32_w]; rw [c3b0]) | skip)
      have H' := Aside0.mk H
      clear H
      go_wp2
      go_meet
      case rel => exact ⟨_, (true), (by first | rfl | (simp; done) | (simp [*]; done)), H', ⟨by first | omega | exact Nat.le_refl _⟩, ⟨by repeat (first | (with_reducible first | exact HB.out | apply below_alloc | apply pw_below_drewN | apply below_drew1) | exact HB.out)⟩⟩
    · rw [if_neg c3] at H
      have c3b0 : decide (2000 < (l0.length : Int)) = false := decide_eq_false c3
      have c3b1 : decide (2000 < l0.length) = false := decide_eq_false (by omega)
      clear c3
      (first | rw [c3b0] | (simp only [i64_w, i32_w]; rw [c3b0]) | skip)
      replace H := Option.bind_eq_some_iff.mp H
      obtain ⟨t148, A40, H⟩ := H
      replace H : (pillarboxlaw08_DotsBack.j0 k l0 (!t148)) = some r := H
      have A4 := Aside0.mk A40
      clear A40
      have H' := Aside0.mk H
      clear H
      go_wp2_with (first | (go_at_call 10; (with_reducible refine (pillarboxlaw08_body.calls k _ _ l0 t148 _ ?side1 ?side2 ?side3 A4.out).mono ?_); (case side1 => repeat (first | exact (Kd.C_below HR0.out HB.out) | (with_reducible refine Kd.C_alloc ?_ _) | (with_reducible refine Kd.C_drewN ?_ _) | (with_reducible refine Kd.C_drew ?_))); (case side2 => exact HC0.out); (case side3 => first | exact hG | exact Glob.below hG (by repeat (first | (with_reducible first | exact HB.out | apply below_alloc | apply pw_below_drewN | apply below_drew1) | exact HB.out))); rintro e w' ⟨rfl, ⟨nd, rfl⟩⟩))
      go_meet
      case rel => exact ⟨_, (!t148), (by first | rfl | (simp; done) | (simp [*]; done)), H', ⟨by first | omega | exact Nat.le_refl _⟩, ⟨by repeat (first | (with_reducible first | exact HB.out | apply below_alloc | apply pw_below_drewN | apply below_drew1) | exact HB.out)⟩⟩
  case rest =>
    clear HC2
    try clear p2
    try clear c3
    try clear c3b0
    try clear c3b1
    obtain ⟨kq, x18_1, rfl, HA, HJ1, HB⟩ := hcut
    cases kq with
    | zero => exact absurd HA.out (by simp [pillarboxlaw08_DotsBack.j0])
    | succ kj1 =>
      have H := HA.out
      clear HA
      simp only [pillarboxlaw08_DotsBack.j0] at H
      by_cases c5 : x18_1 = true
      · subst c5
        have H1 : ((pillarboxlaw08_answers.f kj1).bind fun t149 => (some t149)) = some r := by rw [if_pos rfl] at H; exact H
        clear H
        have H := H1
        clear H1
        replace H := Option.bind_eq_some_iff.mp H
        obtain ⟨t149, A60, H⟩ := H
        replace H : (some t149) = some r := H
        have A6 := Aside0.mk A60
        clear A60
        obtain rfl := Option.some.inj H
        go_wp2_with (first | ((with_reducible refine gate_callee (f := 7) rfl ?_); refine goesL_ (some 19) rfl rfl Try.func7 (by kernel_rfl) rfl #[] rfl (by (try simp only [List.map_toArray, List.map_cons, List.map_nil]); first | done | rfl | (simp only [List.length_drop, List.length_take]; rfl)) ?_; (with_reducible refine (pillarboxlaw08_answers.calls kj1  t149 _ ?side1 A6.out).mono ?_); (case side1 => first | exact hG | exact Glob.below hG (by repeat (first | (with_reducible first | exact HB.out | apply below_alloc | apply pw_below_drewN | apply below_drew1) | exact HB.out))); rintro e w7 ⟨rfl, hb⟩; refine ⟨_, rfl, ?_⟩; have n0_ := Aside0.mk (below_step (by repeat (first | (with_reducible first | exact HB.out | apply below_alloc | apply pw_below_drewN | apply below_drew1) | exact HB.out)) hb); clear HB; have HB := n0_; clear n0_; (try clear hb); (try clear hb2); (try clear hk); (try clear hi)))
        go_ret
        exact ⟨by first | rfl | (simp [errW_none, errW_some] <;> rfl) | (simp [*, errW_none, errW_some] <;> rfl), by repeat (first | (with_reducible first | exact HB.out | apply below_alloc | apply pw_below_drewN | apply below_drew1) | exact HB.out)⟩
      · replace c5 := Bool.eq_false_iff.mpr c5
        subst c5
        have H1 : ((dots_Stuff.f kj1 l0).bind fun bt150 => (if bt150.1.size ≤ 9223372036854775807 then (pillarboxlaw08_DotsBack.l0 kj1 l0 (bytesOf bt150.1) (⟨#[]⟩ : ByteArray)) else (none))) = some r := by rw [if_neg (show ¬ (false = true) by decide)] at H; exact H
        clear H
        have H := H1
        clear H1
        replace H := Option.bind_eq_some_iff.mp H
        obtain ⟨⟨t150, t151⟩, A80, H⟩ := H
        replace H : (if t150.size ≤ 9223372036854775807 then (pillarboxlaw08_DotsBack.l0 kj1 l0 (bytesOf t150) (⟨#[]⟩ : ByteArray)) else (none)) = some r := H
        have A8 := Aside0.mk A80
        clear A80
        by_cases c9 : t150.size ≤ 9223372036854775807
        · rw [if_pos c9] at H
          have c9b0 := eq_true c9
          have c9b1 : decide (t150.size ≤ 9223372036854775807) = true := decide_eq_true c9
          try have c9b2 : (9223372036854775807 < t150.size) = False := eq_false (Nat.not_lt.2 c9)
          clear c9
          obtain ⟨y152, hy152⟩ : ∃ y_ : List Int, y_ = (bytesOf t150) := ⟨_, rfl⟩
          replace H : (pillarboxlaw08_DotsBack.l0 kj1 l0 y152 (⟨#[]⟩ : ByteArray)) = some r := by first | (rw [hy152]; with_reducible exact H) | (have H2_ := (Option.bind_some _ _).symm.trans H; rw [hy152]; with_reducible exact H2_) | (have H2_ := (Option.bind_some _ _).symm.trans H; with_reducible exact H2_) | with_reducible exact H | (rw [hy152]; exact H) | exact H
          have Ny152 := Aside0.mk hy152
          clear hy152
          have H' := Aside0.mk H
          clear H
          go_wp2_with (first | ((with_reducible refine gate_callee (f := 8) rfl ?_); refine goesL_ (some 22) rfl rfl Try.func8 (by kernel_rfl) rfl #[.slice A0 l0.length c0] rfl (by (try simp only [List.map_toArray, List.map_cons, List.map_nil]); first | done | rfl | (simp only [List.length_drop, List.length_take]; rfl)) ?_; (with_reducible refine (dots_Stuff.calls kj1 _ _ l0 t150 t151 _ ?side1 ?side2 ?side3 A8.out).mono ?_); (case side1 => repeat (first | exact (Kd.C_below HR0.out HB.out) | (with_reducible refine Kd.C_alloc ?_ _) | (with_reducible refine Kd.C_drewN ?_ _) | (with_reducible refine Kd.C_drew ?_))); (case side2 => exact HC0.out); (case side3 => first | exact hG | exact Glob.below hG (by repeat (first | (with_reducible first | exact HB.out | apply below_alloc | apply pw_below_drewN | apply below_drew1) | exact HB.out))); rintro e w10 ⟨rfl, hb⟩; refine ⟨_, rfl, ?_⟩; have n0_ := Aside0.mk (below_step (by repeat (first | (with_reducible first | exact HB.out | apply below_alloc | apply pw_below_drewN | apply below_drew1) | exact HB.out)) hb); clear HB; have HB := n0_; clear n0_; (try clear hb); (try clear hb2); (try clear hk); (try clear hi)) | ((with_reducible refine gate_dst (N := 26) rfl ?_); (try (refine gate_guard (by rfl) ?_; dsimp only)); refine Conv.conv (N := 26) rfl rfl rfl t150 ?hx Try.underlying9 Try.underlying22 Try.underlying5 (of_decide_eq_true (by first | (with_reducible assumption) | assumption)) ?_; (case hx => first | rfl | (go_simp; done) | (go_simp; rfl)); intro v153 w11 ho12 hb hg_ hnew_; clear hg_ hnew_; (first | rw [← Ny152.out] at ho12 | (simp only [Int.reduceToNat] at ho12; rw [← Ny152.out] at ho12)); have n0_ := Aside0.mk (Kd.V_lower (Kd.V_mono (ok' := fun k_ => True) ho12 (fun k_ hk_ => trivial)) (below_size (by repeat (first | (with_reducible first | exact HB.out | apply below_alloc | apply pw_below_drewN | apply below_drew1) | exact HB.out)))); have n1_ := Aside0.mk (below_step (by repeat (first | (with_reducible first | exact HB.out | apply below_alloc | apply pw_below_drewN | apply below_drew1) | exact HB.out)) hb); clear HB; have HO154 := n0_; have HB := n1_; clear n0_ n1_; clear hb ho12))
          go_loopg [5, 6] kj1 (fun kq v5 v6 w' => ∃ (x5_2 : List Int) (x6_2 : ByteArray), v6 = .string x6_2 ∧ Aside0 (pillarboxlaw08_DotsBack.l0 kq l0 x5_2 x6_2 = some r) ∧ Aside0 (kq ≤ kj1) ∧ Aside0 (Kd.V (Kd.int .u8) 5 w' w.heap.size (fun _ => True) v5 x5_2) ∧ Aside0 (Below w.heap.size w w'))
          case atStart => exact ⟨(y152), ((⟨#[]⟩ : ByteArray)), (by first | rfl | (simp; done) | (simp [*]; done)), H', ⟨Nat.le_refl _⟩, ⟨by (with_reducible repeat (first | apply Kd.V_alloc | apply Kd.V_drewN | apply Kd.V_drew)); exact HO154.out⟩, ⟨by repeat (first | (with_reducible first | exact HB.out | apply below_alloc | apply pw_below_drewN | apply below_drew1) | exact HB.out)⟩⟩
          case round =>
            clear H'
            try clear p2
            try clear c3
            try clear c3b0
            try clear c3b1
            try clear c5
            try clear c7
            try clear c8
            try clear c9
            try clear c9b0
            try clear c9b1
            try clear c9b2
            try clear p2
            obtain ⟨x5_2, x6_2, rfl, HA, HK2, HO_5, HB⟩ := hrel
            cases gk with
            | zero => exact absurd HA.out (by simp [pillarboxlaw08_DotsBack.l0])
            | succ k2 =>
              have H := HA.out
              clear HA
              simp only [pillarboxlaw08_DotsBack.l0] at H
              replace H := Option.bind_eq_some_iff.mp H
              obtain ⟨⟨t155, t156⟩, A130, H⟩ := H
              replace H : (if t156 = 0 then (some false) else (if 0 ≤ t156 then (if t156 ≤ (x5_2.length : Int) then ((some (x5_2.drop (t156 : Int).toNat : List Int)).bind fun y157 => ((dots_Unstuff.f t155).bind fun bt162 => (if bt162.2 = true then ((pillarboxlaw08_answers.f k2).bind fun t164 => (if t164 = true then (if (y157.length : Int) = 0 then (some (x6_2.toList == (strOfNums l0).toList)) else (some false)) else (some false))) else (if x6_2.size + bt162.1.size ≤ 9223372036854775807 then (if x6_2.size + bt162.1.size + 1 ≤ 9223372036854775807 then (pillarboxlaw08_DotsBack.l0 k2 l0 y157 ((x6_2 ++ bt162.1) ++ (⟨#[10]⟩ : ByteArray))) else (none)) else (none))))) else (none)) else (none))) = some r := H
              have A13 := Aside0.mk A130
              clear A130
              by_cases c14 : t156 = 0
              · rw [if_pos c14] at H
                have c14b0 : (t156 == 0) = true := beq_iff_eq.mpr c14
                have c14b1 : (t156 != 0) = false := bne_eq_false_iff_eq.mpr c14
                clear c14
                obtain rfl := Option.some.inj H
                obtain ⟨Ao15, co15, eo15⟩ := Kd.V_slice HO_5.out
                subst eo15
                go_wp2_with (first | ((with_reducible refine gate_callee (f := 14) rfl ?_); refine goesL_ (some 29) rfl rfl Try.func14 (by kernel_rfl) rfl #[.slice Ao15 x5_2.length co15] rfl (by (try simp only [List.map_toArray, List.map_cons, List.map_nil]); first | done | rfl | (simp only [List.length_drop, List.length_take]; rfl)) ?_; (with_reducible refine (pillarboxref05_Line.calls k2 _ _ x5_2 t155 t156 _ ?side1 ?side2 ?side3 A13.out).mono ?_); (case side1 => repeat (first | exact (Kd.V_reads' HO_5.out).2.2 | (with_reducible refine Kd.C_alloc ?_ _) | (with_reducible refine Kd.C_drewN ?_ _) | (with_reducible refine Kd.C_drew ?_))); (case side2 => exact (Kd.V_reads' HO_5.out).2.1); (case side3 => first | exact hG | exact Glob.below hG (by repeat (first | (with_reducible first | exact HB.out | apply below_alloc | apply pw_below_drewN | apply below_drew1) | exact HB.out))); rintro e w' ⟨rfl, ⟨nd, rfl⟩⟩; refine ⟨_, rfl, ?_⟩))
                go_ret
                exact ⟨by first | rfl | (simp [errW_none, errW_some] <;> rfl) | (simp [*, errW_none, errW_some] <;> rfl), by repeat (first | (with_reducible first | exact HB.out | apply below_alloc | apply pw_below_drewN | apply below_drew1) | exact HB.out)⟩
              · rw [if_neg c14] at H
                have c14b0 : (t156 == 0) = false := beq_eq_false_iff_ne.mpr c14
                have c14b1 : (t156 != 0) = true := bne_iff_ne.mpr c14
                by_cases c16 : 0 ≤ t156
                · rw [if_pos c16] at H
                  have c16b0 := eq_true c16
                  have c16b1 : decide (0 ≤ t156) = true := decide_eq_true c16
                  clear c16
                  by_cases c17 : t156 ≤ (x5_2.length : Int)
                  · rw [if_pos c17] at H
                    have c17b0 := eq_true c17
                    have c17b1 : decide (t156 ≤ (x5_2.length : Int)) = true := decide_eq_true c17
                    clear c17
                    obtain ⟨y157, hy157⟩ : ∃ y_ : List Int, y_ = (x5_2.drop (t156 : Int).toNat) := ⟨_, rfl⟩
                    replace H : ((dots_Unstuff.f t155).bind fun bt162 => (if bt162.2 = true then ((pillarboxlaw08_answers.f k2).bind fun t164 => (if t164 = true then (if (y157.length : Int) = 0 then (some (x6_2.toList == (strOfNums l0).toList)) else (some false)) else (some false))) else (if x6_2.size + bt162.1.size ≤ 9223372036854775807 then (if x6_2.size + bt162.1.size + 1 ≤ 9223372036854775807 then (pillarboxlaw08_DotsBack.l0 k2 l0 y157 ((x6_2 ++ bt162.1) ++ (⟨#[10]⟩ : ByteArray))) else (none)) else (none)))) = some r := by first | (rw [hy157]; with_reducible exact H) | (have H2_ := (Option.bind_some _ _).symm.trans H; rw [hy157]; with_reducible exact H2_) | (have H2_ := (Option.bind_some _ _).symm.trans H; with_reducible exact H2_) | with_reducible exact H | (rw [hy157]; exact H) | exact H
                    have Ny157 := Aside0.mk hy157
                    clear hy157
                    replace H := Option.bind_eq_some_iff.mp H
                    obtain ⟨⟨t162, t163⟩, A180, H⟩ := H
                    replace H : (if t163 = true then ((pillarboxlaw08_answers.f k2).bind fun t164 => (if t164 = true then (if (y157.length : Int) = 0 then (some (x6_2.toList == (strOfNums l0).toList)) else (some false)) else (some false))) else (if x6_2.size + t162.size ≤ 9223372036854775807 then (if x6_2.size + t162.size + 1 ≤ 9223372036854775807 then (pillarboxlaw08_DotsBack.l0 k2 l0 y157 ((x6_2 ++ t162) ++ (⟨#[10]⟩ : ByteArray))) else (none)) else (none))) = some r := H
                    have A18 := Aside0.mk A180
                    clear A180
                    by_cases c19 : t163 = true
                    · subst c19
                      have H1 : ((pillarboxlaw08_answers.f k2).bind fun t164 => (if t164 = true then (if (y157.length : Int) = 0 then (some (x6_2.toList == (strOfNums l0).toList)) else (some false)) else (some false))) = some r := by rw [if_pos rfl] at H; exact H
                      clear H
                      have H := H1
                      clear H1
                      replace H := Option.bind_eq_some_iff.mp H
                      obtain ⟨t164, A200, H⟩ := H
                      replace H : (if t164 = true then (if (y157.length : Int) = 0 then (some (x6_2.toList == (strOfNums l0).toList)) else (some false)) else (some false)) = some r := H
                      have A20 := Aside0.mk A200
                      clear A200
                      by_cases c21 : t164 = true
                      · subst c21
                        have H1 : (if (y157.length : Int) = 0 then (some (x6_2.toList == (strOfNums l0).toList)) else (some false)) = some r := by rw [if_pos rfl] at H; exact H
                        clear H
                        have H := H1
                        clear H1
                        by_cases c22 : (y157.length : Int) = 0
                        · rw [if_pos c22] at H
                          have c22b0 : ((y157.length : Int) == 0) = true := beq_iff_eq.mpr c22
                          have c22b1 : ((y157.length : Int) != 0) = false := bne_eq_false_iff_eq.mpr c22
                          clear c22
                          obtain rfl := Option.some.inj H
                          obtain ⟨Ao23, co23, eo23⟩ := Kd.V_slice HO_5.out
                          subst eo23
                          go_wp2_with (first | ((with_reducible refine gate_callee (f := 14) rfl ?_); refine goesL_ (some 29) rfl rfl Try.func14 (by kernel_rfl) rfl #[.slice Ao23 x5_2.length co23] rfl (by (try simp only [List.map_toArray, List.map_cons, List.map_nil]); first | done | rfl | (simp only [List.length_drop, List.length_take]; rfl)) ?_; (with_reducible refine (pillarboxref05_Line.calls k2 _ _ x5_2 t155 t156 _ ?side1 ?side2 ?side3 A13.out).mono ?_); (case side1 => repeat (first | exact (Kd.V_reads' HO_5.out).2.2 | (with_reducible refine Kd.C_alloc ?_ _) | (with_reducible refine Kd.C_drewN ?_ _) | (with_reducible refine Kd.C_drew ?_))); (case side2 => exact (Kd.V_reads' HO_5.out).2.1); (case side3 => first | exact hG | exact Glob.below hG (by repeat (first | (with_reducible first | exact HB.out | apply below_alloc | apply pw_below_drewN | apply below_drew1) | exact HB.out))); rintro e w' ⟨rfl, ⟨nd, rfl⟩⟩; refine ⟨_, rfl, ?_⟩; have q24 : (t156 : Int) ≤ ((x5_2.length : Int) : Int) := of_decide_eq_true (by first | (with_reducible assumption) | assumption); obtain ⟨i024, hi024, _, hsz24, _⟩ := info_parts info5; have hroom24 : x5_2.length ≤ co23 := (Kd.V_reads' HO_5.out).2.1; have hC24 : Kd.F (Kd.int .u8) _ _ Ao23 x5_2.length x5_2 := (Kd.V_at (base := w.heap.size) HO_5.out).2.2; have q024 : (0 : Int) ≤ (t156 : Int) := of_decide_eq_true (by first | (with_reducible assumption) | assumption); have hcut24 := cut_from (P := Try.prog) 22 5 .i64 Try.underlying22 hi024 1 hsz24 Ao23 x5_2.length co23 t156 q024 q24; have hr24 := Kd.F_cut (m := (t156 : Int).toNat) (c := co23) hC24 (by omega) hroom24; obtain ⟨A24, hA24⟩ : ∃ A1, A1 = (if co23 = (t156 : Int).toNat then Ao23 else (Ao23 : Option Addr).map (·.add ((t156 : Int).toNat * 1))) := ⟨_, rfl⟩; obtain ⟨c24, hc24⟩ : ∃ c1, c1 = co23 - (t156 : Int).toNat := ⟨_, rfl⟩; have hy24 : y157.length = x5_2.length - (t156 : Int).toNat := (by rw [Ny157.out, List.length_drop] <;> omega); rw [show (x5_2).drop (t156 : Int).toNat = y157 from Ny157.out.symm] at hr24; replace hr24 : Kd.F (Kd.int .u8) _ _ A24 y157.length y157 := (by rw [hA24]; exact hr24); rw [← hy24, ← hA24, ← hc24] at hcut24; have HO161 := Aside0.mk (show Kd.V (Kd.int .u8) 5 _ w.heap.size _ (.slice A24 y157.length c24) y157 from Kd.V_mk (by rw [hy24, hc24]; exact Nat.sub_le_sub_right hroom24 _) hr24); have HC161 := Aside0.mk (show y157.length ≤ c24 from by rw [hy24, hc24]; exact Nat.sub_le_sub_right hroom24 _); clear hr24 hC24 hroom24 hi024 hsz24 hc24; have KY24 := Aside0.mk hy24; have KA24 := Aside0.mk hA24; clear hy24 hA24; replace q24 := eq_true q24) | ((with_reducible refine gate_callee (f := 12) rfl ?_); refine goesL_ (some 39) rfl rfl Try.func12 (by kernel_rfl) rfl #[.string t155] rfl (by (try simp only [List.map_toArray, List.map_cons, List.map_nil]); first | done | rfl | (simp only [List.length_drop, List.length_take]; rfl)) ?_; (with_reducible refine (dots_Unstuff.calls t155 t162 true _ ?side1 A18.out).mono ?_); (case side1 => first | exact hG | exact Glob.below hG (by repeat (first | (with_reducible first | exact HB.out | apply below_alloc | apply pw_below_drewN | apply below_drew1) | exact HB.out))); rintro e w' ⟨rfl, ⟨nd, rfl⟩⟩; refine ⟨_, rfl, ?_⟩) | ((with_reducible refine gate_callee (f := 7) rfl ?_); refine goesL_ (some 43) rfl rfl Try.func7 (by kernel_rfl) rfl #[] rfl (by (try simp only [List.map_toArray, List.map_cons, List.map_nil]); first | done | rfl | (simp only [List.length_drop, List.length_take]; rfl)) ?_; (with_reducible refine (pillarboxlaw08_answers.calls k2  true _ ?side1 A20.out).mono ?_); (case side1 => first | exact hG | exact Glob.below hG (by repeat (first | (with_reducible first | exact HB.out | apply below_alloc | apply pw_below_drewN | apply below_drew1) | exact HB.out))); rintro e w25 ⟨rfl, hb⟩; refine ⟨_, rfl, ?_⟩; have n0_ := Aside0.mk (Kd.V_below (by (with_reducible repeat (first | apply Kd.V_alloc | apply Kd.V_drewN | apply Kd.V_drew)); exact HO_5.out) hb); have n1_ := Aside0.mk (Kd.V_below (by (with_reducible repeat (first | apply Kd.V_alloc | apply Kd.V_drewN | apply Kd.V_drew)); exact HO161.out) hb); have n2_ := Aside0.mk (below_step (by repeat (first | (with_reducible first | exact HB.out | apply below_alloc | apply pw_below_drewN | apply below_drew1) | exact HB.out)) hb); clear HO_5; clear HO161; clear HB; have HO_5 := n0_; have HO161 := n1_; have HB := n2_; clear n0_ n1_ n2_; (try clear hb); (try clear hb2); (try clear hk); (try clear hi); have hcv26 := Kd.C_string (P := Try.prog) (A := A0) (c := c0) Try.underlying22 Try.underlying5 Try.underlying9 (Kd.C_below HR0.out HB.out); have hcvd26 := fun n_ => Kd.C_string (P := Try.prog) (A := A0) (c := c0) Try.underlying22 Try.underlying5 Try.underlying9 (Kd.C_drewN (Kd.C_below HR0.out HB.out) n_)))
                          go_ret
                          exact ⟨by first | rfl | (simp [errW_none, errW_some] <;> rfl) | (simp [*, errW_none, errW_some] <;> rfl), by repeat (first | (with_reducible first | exact HB.out | apply below_alloc | apply pw_below_drewN | apply below_drew1) | exact HB.out)⟩
                        · rw [if_neg c22] at H
                          have c22b0 : ((y157.length : Int) == 0) = false := beq_eq_false_iff_ne.mpr c22
                          have c22b1 : ((y157.length : Int) != 0) = true := bne_iff_ne.mpr c22
                          have c22b2 : ¬ (y157 = []) := fun h_ => c22 (by rw [h_]; rfl)
                          obtain rfl := Option.some.inj H
                          obtain ⟨Ao27, co27, eo27⟩ := Kd.V_slice HO_5.out
                          subst eo27
                          go_wp2_with (first | ((with_reducible refine gate_callee (f := 14) rfl ?_); refine goesL_ (some 29) rfl rfl Try.func14 (by kernel_rfl) rfl #[.slice Ao27 x5_2.length co27] rfl (by (try simp only [List.map_toArray, List.map_cons, List.map_nil]); first | done | rfl | (simp only [List.length_drop, List.length_take]; rfl)) ?_; (with_reducible refine (pillarboxref05_Line.calls k2 _ _ x5_2 t155 t156 _ ?side1 ?side2 ?side3 A13.out).mono ?_); (case side1 => repeat (first | exact (Kd.V_reads' HO_5.out).2.2 | (with_reducible refine Kd.C_alloc ?_ _) | (with_reducible refine Kd.C_drewN ?_ _) | (with_reducible refine Kd.C_drew ?_))); (case side2 => exact (Kd.V_reads' HO_5.out).2.1); (case side3 => first | exact hG | exact Glob.below hG (by repeat (first | (with_reducible first | exact HB.out | apply below_alloc | apply pw_below_drewN | apply below_drew1) | exact HB.out))); rintro e w' ⟨rfl, ⟨nd, rfl⟩⟩; refine ⟨_, rfl, ?_⟩; have q28 : (t156 : Int) ≤ ((x5_2.length : Int) : Int) := of_decide_eq_true (by first | (with_reducible assumption) | assumption); obtain ⟨i028, hi028, _, hsz28, _⟩ := info_parts info5; have hroom28 : x5_2.length ≤ co27 := (Kd.V_reads' HO_5.out).2.1; have hC28 : Kd.F (Kd.int .u8) _ _ Ao27 x5_2.length x5_2 := (Kd.V_at (base := w.heap.size) HO_5.out).2.2; have q028 : (0 : Int) ≤ (t156 : Int) := of_decide_eq_true (by first | (with_reducible assumption) | assumption); have hcut28 := cut_from (P := Try.prog) 22 5 .i64 Try.underlying22 hi028 1 hsz28 Ao27 x5_2.length co27 t156 q028 q28; have hr28 := Kd.F_cut (m := (t156 : Int).toNat) (c := co27) hC28 (by omega) hroom28; obtain ⟨A28, hA28⟩ : ∃ A1, A1 = (if co27 = (t156 : Int).toNat then Ao27 else (Ao27 : Option Addr).map (·.add ((t156 : Int).toNat * 1))) := ⟨_, rfl⟩; obtain ⟨c28, hc28⟩ : ∃ c1, c1 = co27 - (t156 : Int).toNat := ⟨_, rfl⟩; have hy28 : y157.length = x5_2.length - (t156 : Int).toNat := (by rw [Ny157.out, List.length_drop] <;> omega); rw [show (x5_2).drop (t156 : Int).toNat = y157 from Ny157.out.symm] at hr28; replace hr28 : Kd.F (Kd.int .u8) _ _ A28 y157.length y157 := (by rw [hA28]; exact hr28); rw [← hy28, ← hA28, ← hc28] at hcut28; have HO161 := Aside0.mk (show Kd.V (Kd.int .u8) 5 _ w.heap.size _ (.slice A28 y157.length c28) y157 from Kd.V_mk (by rw [hy28, hc28]; exact Nat.sub_le_sub_right hroom28 _) hr28); have HC161 := Aside0.mk (show y157.length ≤ c28 from by rw [hy28, hc28]; exact Nat.sub_le_sub_right hroom28 _); clear hr28 hC28 hroom28 hi028 hsz28 hc28; have KY28 := Aside0.mk hy28; have KA28 := Aside0.mk hA28; clear hy28 hA28; replace q28 := eq_true q28) | ((with_reducible refine gate_callee (f := 12) rfl ?_); refine goesL_ (some 39) rfl rfl Try.func12 (by kernel_rfl) rfl #[.string t155] rfl (by (try simp only [List.map_toArray, List.map_cons, List.map_nil]); first | done | rfl | (simp only [List.length_drop, List.length_take]; rfl)) ?_; (with_reducible refine (dots_Unstuff.calls t155 t162 true _ ?side1 A18.out).mono ?_); (case side1 => first | exact hG | exact Glob.below hG (by repeat (first | (with_reducible first | exact HB.out | apply below_alloc | apply pw_below_drewN | apply below_drew1) | exact HB.out))); rintro e w' ⟨rfl, ⟨nd, rfl⟩⟩; refine ⟨_, rfl, ?_⟩) | ((with_reducible refine gate_callee (f := 7) rfl ?_); refine goesL_ (some 43) rfl rfl Try.func7 (by kernel_rfl) rfl #[] rfl (by (try simp only [List.map_toArray, List.map_cons, List.map_nil]); first | done | rfl | (simp only [List.length_drop, List.length_take]; rfl)) ?_; (with_reducible refine (pillarboxlaw08_answers.calls k2  true _ ?side1 A20.out).mono ?_); (case side1 => first | exact hG | exact Glob.below hG (by repeat (first | (with_reducible first | exact HB.out | apply below_alloc | apply pw_below_drewN | apply below_drew1) | exact HB.out))); rintro e w29 ⟨rfl, hb⟩; refine ⟨_, rfl, ?_⟩; have n0_ := Aside0.mk (Kd.V_below (by (with_reducible repeat (first | apply Kd.V_alloc | apply Kd.V_drewN | apply Kd.V_drew)); exact HO_5.out) hb); have n1_ := Aside0.mk (Kd.V_below (by (with_reducible repeat (first | apply Kd.V_alloc | apply Kd.V_drewN | apply Kd.V_drew)); exact HO161.out) hb); have n2_ := Aside0.mk (below_step (by repeat (first | (with_reducible first | exact HB.out | apply below_alloc | apply pw_below_drewN | apply below_drew1) | exact HB.out)) hb); clear HO_5; clear HO161; clear HB; have HO_5 := n0_; have HO161 := n1_; have HB := n2_; clear n0_ n1_ n2_; (try clear hb); (try clear hb2); (try clear hk); (try clear hi)))
                          go_ret
                          exact ⟨by first | rfl | (simp [errW_none, errW_some] <;> rfl) | (simp [*, errW_none, errW_some] <;> rfl), by repeat (first | (with_reducible first | exact HB.out | apply below_alloc | apply pw_below_drewN | apply below_drew1) | exact HB.out)⟩
                      · replace c21 := Bool.eq_false_iff.mpr c21
                        subst c21
                        have H1 : (some false) = some r := by rw [if_neg (show ¬ (false = true) by decide)] at H; exact H
                        clear H
                        have H := H1
                        clear H1
                        obtain rfl := Option.some.inj H
                        obtain ⟨Ao30, co30, eo30⟩ := Kd.V_slice HO_5.out
                        subst eo30
                        go_wp2_with (first | ((with_reducible refine gate_callee (f := 14) rfl ?_); refine goesL_ (some 29) rfl rfl Try.func14 (by kernel_rfl) rfl #[.slice Ao30 x5_2.length co30] rfl (by (try simp only [List.map_toArray, List.map_cons, List.map_nil]); first | done | rfl | (simp only [List.length_drop, List.length_take]; rfl)) ?_; (with_reducible refine (pillarboxref05_Line.calls k2 _ _ x5_2 t155 t156 _ ?side1 ?side2 ?side3 A13.out).mono ?_); (case side1 => repeat (first | exact (Kd.V_reads' HO_5.out).2.2 | (with_reducible refine Kd.C_alloc ?_ _) | (with_reducible refine Kd.C_drewN ?_ _) | (with_reducible refine Kd.C_drew ?_))); (case side2 => exact (Kd.V_reads' HO_5.out).2.1); (case side3 => first | exact hG | exact Glob.below hG (by repeat (first | (with_reducible first | exact HB.out | apply below_alloc | apply pw_below_drewN | apply below_drew1) | exact HB.out))); rintro e w' ⟨rfl, ⟨nd, rfl⟩⟩; refine ⟨_, rfl, ?_⟩; have q31 : (t156 : Int) ≤ ((x5_2.length : Int) : Int) := of_decide_eq_true (by first | (with_reducible assumption) | assumption); obtain ⟨i031, hi031, _, hsz31, _⟩ := info_parts info5; have hroom31 : x5_2.length ≤ co30 := (Kd.V_reads' HO_5.out).2.1; have hC31 : Kd.F (Kd.int .u8) _ _ Ao30 x5_2.length x5_2 := (Kd.V_at (base := w.heap.size) HO_5.out).2.2; have q031 : (0 : Int) ≤ (t156 : Int) := of_decide_eq_true (by first | (with_reducible assumption) | assumption); have hcut31 := cut_from (P := Try.prog) 22 5 .i64 Try.underlying22 hi031 1 hsz31 Ao30 x5_2.length co30 t156 q031 q31; have hr31 := Kd.F_cut (m := (t156 : Int).toNat) (c := co30) hC31 (by omega) hroom31; obtain ⟨A31, hA31⟩ : ∃ A1, A1 = (if co30 = (t156 : Int).toNat then Ao30 else (Ao30 : Option Addr).map (·.add ((t156 : Int).toNat * 1))) := ⟨_, rfl⟩; obtain ⟨c31, hc31⟩ : ∃ c1, c1 = co30 - (t156 : Int).toNat := ⟨_, rfl⟩; have hy31 : y157.length = x5_2.length - (t156 : Int).toNat := (by rw [Ny157.out, List.length_drop] <;> omega); rw [show (x5_2).drop (t156 : Int).toNat = y157 from Ny157.out.symm] at hr31; replace hr31 : Kd.F (Kd.int .u8) _ _ A31 y157.length y157 := (by rw [hA31]; exact hr31); rw [← hy31, ← hA31, ← hc31] at hcut31; have HO161 := Aside0.mk (show Kd.V (Kd.int .u8) 5 _ w.heap.size _ (.slice A31 y157.length c31) y157 from Kd.V_mk (by rw [hy31, hc31]; exact Nat.sub_le_sub_right hroom31 _) hr31); have HC161 := Aside0.mk (show y157.length ≤ c31 from by rw [hy31, hc31]; exact Nat.sub_le_sub_right hroom31 _); clear hr31 hC31 hroom31 hi031 hsz31 hc31; have KY31 := Aside0.mk hy31; have KA31 := Aside0.mk hA31; clear hy31 hA31; replace q31 := eq_true q31) | ((with_reducible refine gate_callee (f := 12) rfl ?_); refine goesL_ (some 39) rfl rfl Try.func12 (by kernel_rfl) rfl #[.string t155] rfl (by (try simp only [List.map_toArray, List.map_cons, List.map_nil]); first | done | rfl | (simp only [List.length_drop, List.length_take]; rfl)) ?_; (with_reducible refine (dots_Unstuff.calls t155 t162 true _ ?side1 A18.out).mono ?_); (case side1 => first | exact hG | exact Glob.below hG (by repeat (first | (with_reducible first | exact HB.out | apply below_alloc | apply pw_below_drewN | apply below_drew1) | exact HB.out))); rintro e w' ⟨rfl, ⟨nd, rfl⟩⟩; refine ⟨_, rfl, ?_⟩) | ((with_reducible refine gate_callee (f := 7) rfl ?_); refine goesL_ (some 43) rfl rfl Try.func7 (by kernel_rfl) rfl #[] rfl (by (try simp only [List.map_toArray, List.map_cons, List.map_nil]); first | done | rfl | (simp only [List.length_drop, List.length_take]; rfl)) ?_; (with_reducible refine (pillarboxlaw08_answers.calls k2  false _ ?side1 A20.out).mono ?_); (case side1 => first | exact hG | exact Glob.below hG (by repeat (first | (with_reducible first | exact HB.out | apply below_alloc | apply pw_below_drewN | apply below_drew1) | exact HB.out))); rintro e w32 ⟨rfl, hb⟩; refine ⟨_, rfl, ?_⟩; have n0_ := Aside0.mk (Kd.V_below (by (with_reducible repeat (first | apply Kd.V_alloc | apply Kd.V_drewN | apply Kd.V_drew)); exact HO_5.out) hb); have n1_ := Aside0.mk (Kd.V_below (by (with_reducible repeat (first | apply Kd.V_alloc | apply Kd.V_drewN | apply Kd.V_drew)); exact HO161.out) hb); have n2_ := Aside0.mk (below_step (by repeat (first | (with_reducible first | exact HB.out | apply below_alloc | apply pw_below_drewN | apply below_drew1) | exact HB.out)) hb); clear HO_5; clear HO161; clear HB; have HO_5 := n0_; have HO161 := n1_; have HB := n2_; clear n0_ n1_ n2_; (try clear hb); (try clear hb2); (try clear hk); (try clear hi)))
                        go_ret
                        exact ⟨by first | rfl | (simp [errW_none, errW_some] <;> rfl) | (simp [*, errW_none, errW_some] <;> rfl), by repeat (first | (with_reducible first | exact HB.out | apply below_alloc | apply pw_below_drewN | apply below_drew1) | exact HB.out)⟩
                    · replace c19 := Bool.eq_false_iff.mpr c19
                      subst c19
                      have H1 : (if x6_2.size + t162.size ≤ 9223372036854775807 then (if x6_2.size + t162.size + 1 ≤ 9223372036854775807 then (pillarboxlaw08_DotsBack.l0 k2 l0 y157 ((x6_2 ++ t162) ++ (⟨#[10]⟩ : ByteArray))) else (none)) else (none)) = some r := by rw [if_neg (show ¬ (false = true) by decide)] at H; exact H
                      clear H
                      have H := H1
                      clear H1
                      by_cases c33 : x6_2.size + t162.size ≤ 9223372036854775807
                      · rw [if_pos c33] at H
                        have c33b0 := eq_true c33
                        have c33b1 : decide (x6_2.size + t162.size ≤ 9223372036854775807) = true := decide_eq_true c33
                        try have c33b2 : (9223372036854775807 < x6_2.size + t162.size) = False := eq_false (Nat.not_lt.2 c33)
                        by_cases c34 : x6_2.size + t162.size + 1 ≤ 9223372036854775807
                        · rw [if_pos c34] at H
                          have c34b0 := eq_true c34
                          have c34b1 : decide (x6_2.size + t162.size + 1 ≤ 9223372036854775807) = true := decide_eq_true c34
                          try have c34b2 : (9223372036854775807 < x6_2.size + t162.size + 1) = False := eq_false (Nat.not_lt.2 c34)
                          have H' := Aside0.mk H
                          clear H
                          obtain ⟨Ao35, co35, eo35⟩ := Kd.V_slice HO_5.out
                          subst eo35
                          go_wp2_with (first | ((with_reducible refine gate_callee (f := 14) rfl ?_); refine goesL_ (some 29) rfl rfl Try.func14 (by kernel_rfl) rfl #[.slice Ao35 x5_2.length co35] rfl (by (try simp only [List.map_toArray, List.map_cons, List.map_nil]); first | done | rfl | (simp only [List.length_drop, List.length_take]; rfl)) ?_; (with_reducible refine (pillarboxref05_Line.calls k2 _ _ x5_2 t155 t156 _ ?side1 ?side2 ?side3 A13.out).mono ?_); (case side1 => repeat (first | exact (Kd.V_reads' HO_5.out).2.2 | (with_reducible refine Kd.C_alloc ?_ _) | (with_reducible refine Kd.C_drewN ?_ _) | (with_reducible refine Kd.C_drew ?_))); (case side2 => exact (Kd.V_reads' HO_5.out).2.1); (case side3 => first | exact hG | exact Glob.below hG (by repeat (first | (with_reducible first | exact HB.out | apply below_alloc | apply pw_below_drewN | apply below_drew1) | exact HB.out))); rintro e w' ⟨rfl, ⟨nd, rfl⟩⟩; refine ⟨_, rfl, ?_⟩; have q36 : (t156 : Int) ≤ ((x5_2.length : Int) : Int) := of_decide_eq_true (by first | (with_reducible assumption) | assumption); obtain ⟨i036, hi036, _, hsz36, _⟩ := info_parts info5; have hroom36 : x5_2.length ≤ co35 := (Kd.V_reads' HO_5.out).2.1; have hC36 : Kd.F (Kd.int .u8) _ _ Ao35 x5_2.length x5_2 := (Kd.V_at (base := w.heap.size) HO_5.out).2.2; have q036 : (0 : Int) ≤ (t156 : Int) := of_decide_eq_true (by first | (with_reducible assumption) | assumption); have hcut36 := cut_from (P := Try.prog) 22 5 .i64 Try.underlying22 hi036 1 hsz36 Ao35 x5_2.length co35 t156 q036 q36; have hr36 := Kd.F_cut (m := (t156 : Int).toNat) (c := co35) hC36 (by omega) hroom36; obtain ⟨A36, hA36⟩ : ∃ A1, A1 = (if co35 = (t156 : Int).toNat then Ao35 else (Ao35 : Option Addr).map (·.add ((t156 : Int).toNat * 1))) := ⟨_, rfl⟩; obtain ⟨c36, hc36⟩ : ∃ c1, c1 = co35 - (t156 : Int).toNat := ⟨_, rfl⟩; have hy36 : y157.length = x5_2.length - (t156 : Int).toNat := (by rw [Ny157.out, List.length_drop] <;> omega); rw [show (x5_2).drop (t156 : Int).toNat = y157 from Ny157.out.symm] at hr36; replace hr36 : Kd.F (Kd.int .u8) _ _ A36 y157.length y157 := (by rw [hA36]; exact hr36); rw [← hy36, ← hA36, ← hc36] at hcut36; have HO161 := Aside0.mk (show Kd.V (Kd.int .u8) 5 _ w.heap.size _ (.slice A36 y157.length c36) y157 from Kd.V_mk (by rw [hy36, hc36]; exact Nat.sub_le_sub_right hroom36 _) hr36); have HC161 := Aside0.mk (show y157.length ≤ c36 from by rw [hy36, hc36]; exact Nat.sub_le_sub_right hroom36 _); clear hr36 hC36 hroom36 hi036 hsz36 hc36; have KY36 := Aside0.mk hy36; have KA36 := Aside0.mk hA36; clear hy36 hA36; replace q36 := eq_true q36) | ((with_reducible refine gate_callee (f := 12) rfl ?_); refine goesL_ (some 39) rfl rfl Try.func12 (by kernel_rfl) rfl #[.string t155] rfl (by (try simp only [List.map_toArray, List.map_cons, List.map_nil]); first | done | rfl | (simp only [List.length_drop, List.length_take]; rfl)) ?_; (with_reducible refine (dots_Unstuff.calls t155 t162 false _ ?side1 A18.out).mono ?_); (case side1 => first | exact hG | exact Glob.below hG (by repeat (first | (with_reducible first | exact HB.out | apply below_alloc | apply pw_below_drewN | apply below_drew1) | exact HB.out))); rintro e w' ⟨rfl, ⟨nd, rfl⟩⟩; refine ⟨_, rfl, ?_⟩))
                          go_roundg k2
                          case measure => have := HJ1.out; have := HK2.out; omega
                          case rel => exact ⟨(y157), ((x6_2 ++ t162) ++ (⟨#[10]⟩ : ByteArray)), (by first | rfl | (simp; done) | (simp [*]; done)), H', ⟨by have := HJ1.out; have := HK2.out; omega⟩, ⟨by (with_reducible repeat (first | apply Kd.V_alloc | apply Kd.V_drewN | apply Kd.V_drew)); exact HO161.out⟩, ⟨by repeat (first | (with_reducible first | exact HB.out | apply below_alloc | apply pw_below_drewN | apply below_drew1) | exact HB.out)⟩⟩
                        · rw [if_neg c34] at H
                          exact absurd H (by simp)
                      · rw [if_neg c33] at H
                        exact absurd H (by simp)
                  · rw [if_neg c17] at H
                    exact absurd H (by simp)
                · rw [if_neg c16] at H
                  exact absurd H (by simp)
        · rw [if_neg c9] at H
          exact absurd H (by simp)

end Go.Proofs.Ythdjeikfbbdehaa.PALL
