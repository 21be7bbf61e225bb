-- printed by a program of this session out of the translation. Not trusted: Lean checks it.
import Derived.Test.YtilgfpljjjbgdaaGreatDoorPALLx0
import Derived.Test.YtilgfpljjjbgdaaGreatDoorPALLx2
namespace Go.Proofs.YtilgfpljjjbgdaaGreatDoor.PALL
open Go.RowKit Go.Proofs.YtilgfpljjjbgdaaGreatDoorW.PrintWords Go.Proofs.YtilgfpljjjbgdaaGreatDoorW.PrintLast Go.Proofs.YtilgfpljjjbgdaaGreatDoorW.PrintMore
attribute [local go_sem] max2_int min2_int max_two min_two max_three min_three max_four min_four   -- for this text's walks alone
set_option linter.unusedVariables false
set_option linter.unusedSimpArgs false

/-! ### pillarboxref05_Cut: function 94 -/
def pillarboxref05_Cut.l0 : Nat → ByteArray → Int → List ByteArray → Int → Int → Option (List ByteArray)
  | 0, _, _, _, _, _ => none
  | k + 1, x0, x1, x5, x6, x7 => if x7 ≤ (x0.size : Int) then (if x7 = (x0.size : Int) then (if 0 ≤ x6 then (if x6 ≤ x7 then (if x5.length < 8796093022208 then (pillarboxref05_Cut.l0 k x0 x1 (x5 ++ [x0.extract (x6 : Int).toNat (x7 : Int).toNat]) (wrap64 (x7 + 1)) (wrap64 (x7 + 1))) else (none)) else (none)) else (none)) else (if 0 ≤ x7 then (if x7 < (x0.size : Int) then (if (bt x0 x7) = x1 then (if 0 ≤ x6 then (if x6 ≤ x7 then (if x5.length < 8796093022208 then (pillarboxref05_Cut.l0 k x0 x1 (x5 ++ [x0.extract (x6 : Int).toNat (x7 : Int).toNat]) (wrap64 (x7 + 1)) (wrap64 (x7 + 1))) else (none)) else (none)) else (none)) else (pillarboxref05_Cut.l0 k x0 x1 x5 x6 (wrap64 (x7 + 1)))) else (none)) else (none))) else (some x5)
def pillarboxref05_Cut.f (k : Nat) (a0 : ByteArray) (a1 : Int) : Option (List ByteArray) := pillarboxref05_Cut.l0 k a0 a1 ([] : List ByteArray) 0 0
theorem pillarboxref05_Cut.mono_l : ∀ k, (∀ y0 y1 y2 y3 y4, LeO (pillarboxref05_Cut.l0 k y0 y1 y2 y3 y4) (pillarboxref05_Cut.l0 (k + 1) y0 y1 y2 y3 y4))
  | 0 => fun _ _ _ _ _ r h => by simp [pillarboxref05_Cut.l0] at h
  | k + 1 => by
    have ih0 := pillarboxref05_Cut.mono_l k
    · intro y0 y1 y2 y3 y4
      unfold pillarboxref05_Cut.l0
      repeat' first
      | (with_reducible exact ih0 _ _ _ _ _)
      | (with_reducible exact LeO.refl _)
      | (with_reducible exact LeO.none _)
      | (with_reducible refine LeO.ite ?_ ?_)
      | (with_reducible refine LeO.bind ?_ (fun _ => ?_))
      | exact ih0 _ _ _ _ _
      | exact LeO.none _
      | refine LeO.ite ?_ ?_
      | refine LeO.bind ?_ (fun _ => ?_)
theorem pillarboxref05_Cut.mono : ∀ a0 a1 k, LeO (pillarboxref05_Cut.f k a0 a1) (pillarboxref05_Cut.f (k + 1) a0 a1) := by
  intro a0 a1 k
  have ih0 := pillarboxref05_Cut.mono_l k
  unfold pillarboxref05_Cut.f
  repeat' first
      | (with_reducible exact ih0 _ _ _ _ _)
      | (with_reducible exact LeO.refl _)
      | (with_reducible exact LeO.none _)
      | (with_reducible refine LeO.ite ?_ ?_)
      | (with_reducible refine LeO.bind ?_ (fun _ => ?_))
      | exact ih0 _ _ _ _ _
      | exact LeO.none _
      | refine LeO.ite ?_ ?_
      | refine LeO.bind ?_ (fun _ => ?_)
set_option maxHeartbeats 8000000 in
set_option maxRecDepth 100000 in
theorem pillarboxref05_Cut.calls (k : Nat) (a0 : ByteArray) (a1 : Int) (r : List ByteArray) (w : World) (hG : GlobM w) (h : pillarboxref05_Cut.f k a0 a1 = some r) :
    Calls Tryz.prog 94 #[.string a0, .int .u8 a1] w fun e w' => ∃ v0_ : Value, e = .returned (v0_) ∧ Kd.R Kd.string 9 w' w.heap.size (fun _ => True) v0_ r ∧ Below w.heap.size w w' := by
  have HB := Aside0.mk (Below.refl w.heap.size w)
  have H : (pillarboxref05_Cut.l0 k a0 a1 ([] : List ByteArray) 0 0) = some r := h
  clear h
  have H' := Aside0.mk H
  clear H
  go_enter Tryz.func94, Tryz.ntmps94
  go_wp2
  go_loopg [5, 6, 7] k (fun kq v5 v6 v7 w' => ∃ (x5_1 : List ByteArray) (x6_1 : Int) (x7_1 : Int), v6 = .int .i64 x6_1 ∧ v7 = .int .i64 x7_1 ∧ Aside0 (pillarboxref05_Cut.l0 kq a0 a1 x5_1 x6_1 x7_1 = some r) ∧ Aside0 (kq ≤ k) ∧ Aside0 (Kd.R Kd.string 9 w' w.heap.size (fun _ => True) v5 x5_1) ∧ Aside0 (Below w.heap.size w w'))
  case atStart => exact ⟨(([] : List ByteArray)), (0), (0), (by first | rfl | (simp; done) | (simp [*]; done)), (by first | rfl | (simp; done) | (simp [*]; done)), H', ⟨Nat.le_refl _⟩, ⟨by first | exact Kd.R_nil _ _ _ _ _ | exact Kd.N_nil _ _ _ _ _ | exact Kd.V_nil _ _ _ _ _ | exact Kd.Q_nil _ _ _ _ _ | exact Kd.S_nil _ _ _ _ _⟩, ⟨by repeat (first | (with_reducible first | exact HB.out | apply below_alloc | apply pw_below_drewN | apply below_drew1) | exact HB.out)⟩⟩
  case round =>
    clear H'
    try clear p2
    obtain ⟨x5_1, x6_1, x7_1, rfl, rfl, HA, HK1, HO_5, HB⟩ := hrel
    cases gk with
    | zero => exact absurd HA.out (by simp [pillarboxref05_Cut.l0])
    | succ k1 =>
      have H := HA.out
      clear HA
      simp only [pillarboxref05_Cut.l0] at H
      by_cases c3 : x7_1 ≤ (a0.size : Int)
      · rw [if_pos c3] at H
        have c3b0 : decide (x7_1 ≤ (a0.size : Int)) = true := decide_eq_true c3
        clear c3
        by_cases c4 : x7_1 = (a0.size : Int)
        · rw [if_pos c4] at H
          have c4b0 : (x7_1 == (a0.size : Int)) = true := beq_iff_eq.mpr c4
          have c4b1 : (x7_1 != (a0.size : Int)) = false := bne_eq_false_iff_eq.mpr c4
          clear c4
          by_cases c5 : 0 ≤ x6_1
          · rw [if_pos c5] at H
            have c5b0 := eq_true c5
            have c5b1 : decide (0 ≤ x6_1) = true := decide_eq_true c5
            clear c5
            by_cases c6 : x6_1 ≤ x7_1
            · rw [if_pos c6] at H
              have c6b0 := eq_true c6
              have c6b1 : decide (x6_1 ≤ x7_1) = true := decide_eq_true c6
              clear c6
              have c7b0 := eq_true (of_decide_eq_true (by first | (with_reducible assumption) | assumption) : x7_1 ≤ (a0.size : Int))
              by_cases c8 : x5_1.length < 8796093022208
              · rw [if_pos c8] at H
                have LMc8 := Aside0.mk c8
                clear c8
                obtain ⟨y126, hy126⟩ : ∃ y_ : List ByteArray, y_ = (x5_1 ++ [a0.extract (x6_1 : Int).toNat (x7_1 : Int).toNat]) := ⟨_, rfl⟩
                replace H : (pillarboxref05_Cut.l0 k1 a0 a1 y126 (wrap64 (x7_1 + 1)) (wrap64 (x7_1 + 1))) = some r := by first | (rw [hy126]; with_reducible exact H) | (have H2_ := (Option.bind_some _ _).symm.trans H; rw [hy126]; with_reducible exact H2_) | (have H2_ := (Option.bind_some _ _).symm.trans H; with_reducible exact H2_) | with_reducible exact H | (rw [hy126]; exact H) | exact H
                have Ny126 := Aside0.mk hy126
                clear hy126
                have H' := Aside0.mk H
                clear H
                go_wp2_with (first | ((with_reducible refine gate_builtin (b := .append) (xs := #[.tmp 25, .tmp 30]) rfl ?_); at_builtin; refine Kd.R_append Kd.string (w0 := w) w.heap.size rfl (.tmp 25) (.tmp 30) 38 9 (.string ⟨#[]⟩) 16 rfl Tryz.underlying38 info9 rfl (by decide) (by omega) u5 x5_1 (a0.extract (x6_1 : Int).toNat (x7_1 : Int).toNat) [.string (a0.extract (x6_1 : Int).toNat (x7_1 : Int).toNat)] (fun _ => True) (fun _ => False) rfl rfl ?aP (fun _ hk => hk.elim) ?aF ?aO ?aB ?aS ?aL ?_; (case aP => exact rfl); (case aB => exact (by repeat (first | (with_reducible first | exact HB.out | apply below_alloc | apply pw_below_drewN | apply below_drew1) | exact HB.out))); (case aF => exact (fun _ _ => trivial)); (case aO => exact (by (with_reducible repeat (first | apply Kd.R_alloc | apply Kd.R_drewN | apply Kd.R_drew)); exact HO_5.out)); (case aS => exact (below_size (by repeat (first | (with_reducible first | exact HB.out | apply below_alloc | apply pw_below_drewN | apply below_drew1) | exact HB.out)))); (case aL => have := LMc8.out; omega); intro v127 w9 ho hb hg hat; rw [← Ny126.out] at ho; have n0_ := Aside0.mk (hb); have n1_ := Aside0.mk (ho); clear HB; clear HO_5; have HB := n0_; have HO128 := n1_; clear n0_ n1_; clear ho hb hg hat))
                go_roundg k1
                case measure => have := HK1.out; omega
                case rel => exact ⟨(y126), (wrap64 (x7_1 + 1)), (wrap64 (x7_1 + 1)), (by first | rfl | (simp; done) | (simp [*]; done)), (by first | rfl | (simp; done) | (simp [*]; done)), H', ⟨by have := HK1.out; omega⟩, ⟨by (with_reducible repeat (first | apply Kd.R_alloc | apply Kd.R_drewN | apply Kd.R_drew)); exact HO128.out⟩, ⟨by repeat (first | (with_reducible first | exact HB.out | apply below_alloc | apply pw_below_drewN | apply below_drew1) | exact HB.out)⟩⟩
              · rw [if_neg c8] at H
                exact absurd H (by simp)
            · rw [if_neg c6] at H
              exact absurd H (by simp)
          · rw [if_neg c5] at H
            exact absurd H (by simp)
        · rw [if_neg c4] at H
          have c4b0 : (x7_1 == (a0.size : Int)) = false := beq_eq_false_iff_ne.mpr c4
          have c4b1 : (x7_1 != (a0.size : Int)) = true := bne_iff_ne.mpr c4
          by_cases c10 : 0 ≤ x7_1
          · rw [if_pos c10] at H
            have c10b0 : decide (0 ≤ x7_1) = true := decide_eq_true c10
            clear c10
            by_cases c11 : x7_1 < (a0.size : Int)
            · rw [if_pos c11] at H
              have c11b0 : decide (x7_1 < (a0.size : Int)) = true := decide_eq_true c11
              clear c11
              by_cases c13 : (bt a0 x7_1) = a1
              · rw [if_pos c13] at H
                have c13b0 : ((bt a0 x7_1) == a1) = true := beq_iff_eq.mpr c13
                have c13b1 : ((bt a0 x7_1) != a1) = false := bne_eq_false_iff_eq.mpr c13
                clear c13
                by_cases c14 : 0 ≤ x6_1
                · rw [if_pos c14] at H
                  have c14b0 := eq_true c14
                  have c14b1 : decide (0 ≤ x6_1) = true := decide_eq_true c14
                  clear c14
                  by_cases c15 : x6_1 ≤ x7_1
                  · rw [if_pos c15] at H
                    have c15b0 := eq_true c15
                    have c15b1 : decide (x6_1 ≤ x7_1) = true := decide_eq_true c15
                    clear c15
                    have c16b0 := eq_true (of_decide_eq_true (by first | (with_reducible assumption) | assumption) : x7_1 ≤ (a0.size : Int))
                    by_cases c17 : x5_1.length < 8796093022208
                    · rw [if_pos c17] at H
                      have LMc17 := Aside0.mk c17
                      clear c17
                      obtain ⟨y129, hy129⟩ : ∃ y_ : List ByteArray, y_ = (x5_1 ++ [a0.extract (x6_1 : Int).toNat (x7_1 : Int).toNat]) := ⟨_, rfl⟩
                      replace H : (pillarboxref05_Cut.l0 k1 a0 a1 y129 (wrap64 (x7_1 + 1)) (wrap64 (x7_1 + 1))) = some r := by first | (rw [hy129]; with_reducible exact H) | (have H2_ := (Option.bind_some _ _).symm.trans H; rw [hy129]; with_reducible exact H2_) | (have H2_ := (Option.bind_some _ _).symm.trans H; with_reducible exact H2_) | with_reducible exact H | (rw [hy129]; exact H) | exact H
                      have Ny129 := Aside0.mk hy129
                      clear hy129
                      have H' := Aside0.mk H
                      clear H
                      have p12 : 0 ≤ (x7_1 : Int) := of_decide_eq_true (by first | (with_reducible assumption) | assumption)
                      have q12 : x7_1 < (a0.size : Int) := of_decide_eq_true (by first | (with_reducible assumption) | assumption)
                      have hx12 := bt_at a0 x7_1
                      replace p12 := eq_true p12
                      replace q12 := eq_true q12
                      go_wp2_with (first | ((with_reducible refine gate_builtin (b := .append) (xs := #[.tmp 25, .tmp 30]) rfl ?_); at_builtin; refine Kd.R_append Kd.string (w0 := w) w.heap.size rfl (.tmp 25) (.tmp 30) 38 9 (.string ⟨#[]⟩) 16 rfl Tryz.underlying38 info9 rfl (by decide) (by omega) u5 x5_1 (a0.extract (x6_1 : Int).toNat (x7_1 : Int).toNat) [.string (a0.extract (x6_1 : Int).toNat (x7_1 : Int).toNat)] (fun _ => True) (fun _ => False) rfl rfl ?aP (fun _ hk => hk.elim) ?aF ?aO ?aB ?aS ?aL ?_; (case aP => exact rfl); (case aB => exact (by repeat (first | (with_reducible first | exact HB.out | apply below_alloc | apply pw_below_drewN | apply below_drew1) | exact HB.out))); (case aF => exact (fun _ _ => trivial)); (case aO => exact (by (with_reducible repeat (first | apply Kd.R_alloc | apply Kd.R_drewN | apply Kd.R_drew)); exact HO_5.out)); (case aS => exact (below_size (by repeat (first | (with_reducible first | exact HB.out | apply below_alloc | apply pw_below_drewN | apply below_drew1) | exact HB.out)))); (case aL => have := LMc17.out; omega); intro v130 w18 ho hb hg hat; rw [← Ny129.out] at ho; have n0_ := Aside0.mk (hb); have n1_ := Aside0.mk (ho); clear HB; clear HO_5; have HB := n0_; have HO131 := n1_; clear n0_ n1_; clear ho hb hg hat))
                      go_roundg k1
                      case measure => have := HK1.out; omega
                      case rel => exact ⟨(y129), (wrap64 (x7_1 + 1)), (wrap64 (x7_1 + 1)), (by first | rfl | (simp; done) | (simp [*]; done)), (by first | rfl | (simp; done) | (simp [*]; done)), H', ⟨by have := HK1.out; omega⟩, ⟨by (with_reducible repeat (first | apply Kd.R_alloc | apply Kd.R_drewN | apply Kd.R_drew)); exact HO131.out⟩, ⟨by repeat (first | (with_reducible first | exact HB.out | apply below_alloc | apply pw_below_drewN | apply below_drew1) | exact HB.out)⟩⟩
                    · rw [if_neg c17] at H
                      exact absurd H (by simp)
                  · rw [if_neg c15] at H
                    exact absurd H (by simp)
                · rw [if_neg c14] at H
                  exact absurd H (by simp)
              · rw [if_neg c13] at H
                have c13b0 : ((bt a0 x7_1) == a1) = false := beq_eq_false_iff_ne.mpr c13
                have c13b1 : ((bt a0 x7_1) != a1) = true := bne_iff_ne.mpr c13
                have H' := Aside0.mk H
                clear H
                have p12 : 0 ≤ (x7_1 : Int) := of_decide_eq_true (by first | (with_reducible assumption) | assumption)
                have q12 : x7_1 < (a0.size : Int) := of_decide_eq_true (by first | (with_reducible assumption) | assumption)
                have hx12 := bt_at a0 x7_1
                replace p12 := eq_true p12
                replace q12 := eq_true q12
                go_wp2
                go_roundg k1
                case measure => have := HK1.out; omega
                case rel => exact ⟨(x5_1), (x6_1), (wrap64 (x7_1 + 1)), (by first | rfl | (simp; done) | (simp [*]; done)), (by first | rfl | (simp; done) | (simp [*]; done)), H', ⟨by have := HK1.out; omega⟩, ⟨by (with_reducible repeat (first | apply Kd.R_alloc | apply Kd.R_drewN | apply Kd.R_drew)); exact HO_5.out⟩, ⟨by repeat (first | (with_reducible first | exact HB.out | apply below_alloc | apply pw_below_drewN | apply below_drew1) | exact HB.out)⟩⟩
            · rw [if_neg c11] at H
              exact absurd H (by simp)
          · rw [if_neg c10] at H
            exact absurd H (by simp)
      · rw [if_neg c3] at H
        have c3b0 : decide (x7_1 ≤ (a0.size : Int)) = false := decide_eq_false c3
        clear c3
        obtain rfl := Option.some.inj H
        go_wp2
        go_ret
        exact ⟨_, by first | rfl | (simp [errW_none, errW_some] <;> rfl) | (simp [*, errW_none, errW_some] <;> rfl), by (with_reducible repeat (first | apply Kd.R_alloc | apply Kd.R_drewN | apply Kd.R_drew)); exact HO_5.out, by repeat (first | (with_reducible first | exact HB.out | apply below_alloc | apply pw_below_drewN | apply below_drew1) | exact HB.out)⟩

/-! ### pillarboxref05_Domain: function 72 -/
mutual
def pillarboxref05_Domain.l0 : Nat → ByteArray → List ByteArray → Int → Option (Bool)
  | 0, _, _, _ => none
  | k + 1, x0, x3, x4 => if x4 < (x3.length : Int) then (if 0 ≤ x4 then (if ((rdOf ByteArray.empty x3 x4).size : Int) < 1 then (pillarboxref05_Domain.j1 k x0 x3 x4 ((rdOf ByteArray.empty x3 x4).size : Int) true) else (if ((rdOf ByteArray.empty x3 x4).size : Int) > 32 then (pillarboxref05_Domain.j1 k x0 x3 x4 ((rdOf ByteArray.empty x3 x4).size : Int) true) else (if 0 < ((rdOf ByteArray.empty x3 x4).size : Int) then (if (bt (rdOf ByteArray.empty x3 x4) 0) = 45 then (pillarboxref05_Domain.j1 k x0 x3 x4 ((rdOf ByteArray.empty x3 x4).size : Int) true) else (if 0 ≤ (wrap64 (((rdOf ByteArray.empty x3 x4).size : Int) - 1)) then (if (wrap64 (((rdOf ByteArray.empty x3 x4).size : Int) - 1)) < ((rdOf ByteArray.empty x3 x4).size : Int) then (pillarboxref05_Domain.j1 k x0 x3 x4 ((rdOf ByteArray.empty x3 x4).size : Int) ((bt (rdOf ByteArray.empty x3 x4) (wrap64 (((rdOf ByteArray.empty x3 x4).size : Int) - 1))) == 45)) else (none)) else (none))) else (none)))) else (none)) else (some (decide ((x0.size : Int) ≤ 64)))
def pillarboxref05_Domain.j1 : Nat → ByteArray → List ByteArray → Int → Int → Bool → Option (Bool)
  | 0, _, _, _, _, _ => none
  | k + 1, x0, x3, x4, x5, x43 => if x43 = true then (some false) else (pillarboxref05_Domain.l1 k x0 x3 x4 x5 0)
def pillarboxref05_Domain.l1 : Nat → ByteArray → List ByteArray → Int → Int → Int → Option (Bool)
  | 0, _, _, _, _, _ => none
  | k + 1, x0, x3, x4, x5, x6 => if x6 < x5 then (if 0 ≤ x4 then (if x4 < (x3.length : Int) then (if 0 ≤ x6 then (if x6 < ((rdOf ByteArray.empty x3 x4).size : Int) then ((pillarboxref05_plain.f (bt (rdOf ByteArray.empty x3 x4) x6)).bind fun t139 => (if t139 = true then (pillarboxref05_Domain.l1 k x0 x3 x4 x5 (wrap64 (x6 + 1))) else (if (bt (rdOf ByteArray.empty x3 x4) x6) = 45 then (pillarboxref05_Domain.l1 k x0 x3 x4 x5 (wrap64 (x6 + 1))) else (some false)))) else (none)) else (none)) else (none)) else (none)) else (pillarboxref05_Domain.l0 k x0 x3 (wrap64 (x4 + 1)))
end
def pillarboxref05_Domain.f (k : Nat) (a0 : ByteArray) : Option (Bool) := (pillarboxref05_Cut.f k a0 46).bind fun t132 => (pillarboxref05_Domain.l0 k a0 t132 0)
theorem pillarboxref05_Domain.mono_l : ∀ k, (∀ y0 y1 y2, LeO (pillarboxref05_Domain.l0 k y0 y1 y2) (pillarboxref05_Domain.l0 (k + 1) y0 y1 y2)) ∧ (∀ y0 y1 y2 y3 y4, LeO (pillarboxref05_Domain.j1 k y0 y1 y2 y3 y4) (pillarboxref05_Domain.j1 (k + 1) y0 y1 y2 y3 y4)) ∧ (∀ y0 y1 y2 y3 y4, LeO (pillarboxref05_Domain.l1 k y0 y1 y2 y3 y4) (pillarboxref05_Domain.l1 (k + 1) y0 y1 y2 y3 y4))
  | 0 => ⟨fun _ _ _ r h => by simp [pillarboxref05_Domain.l0] at h, fun _ _ _ _ _ r h => by simp [pillarboxref05_Domain.j1] at h, fun _ _ _ _ _ r h => by simp [pillarboxref05_Domain.l1] at h⟩
  | k + 1 => by
    obtain ⟨ih0, ih1, ih2⟩ := pillarboxref05_Domain.mono_l k
    refine ⟨?_, ?_, ?_⟩
    · intro y0 y1 y2
      unfold pillarboxref05_Domain.l0
      repeat' first
      | (with_reducible exact ih0 _ _ _)
      | (with_reducible exact ih1 _ _ _ _ _)
      | (with_reducible exact ih2 _ _ _ _ _)
      | (with_reducible exact pillarboxref05_Cut.mono _ _ _)
      | (with_reducible exact LeO.refl _)
      | (with_reducible exact LeO.none _)
      | (with_reducible refine LeO.ite ?_ ?_)
      | (with_reducible refine LeO.bind ?_ (fun _ => ?_))
      | exact ih0 _ _ _
      | exact ih1 _ _ _ _ _
      | exact ih2 _ _ _ _ _
      | exact pillarboxref05_Cut.mono _ _ _
      | exact LeO.none _
      | refine LeO.ite ?_ ?_
      | refine LeO.bind ?_ (fun _ => ?_)
    · intro y0 y1 y2 y3 y4
      unfold pillarboxref05_Domain.j1
      repeat' first
      | (with_reducible exact ih0 _ _ _)
      | (with_reducible exact ih1 _ _ _ _ _)
      | (with_reducible exact ih2 _ _ _ _ _)
      | (with_reducible exact pillarboxref05_Cut.mono _ _ _)
      | (with_reducible exact LeO.refl _)
      | (with_reducible exact LeO.none _)
      | (with_reducible refine LeO.ite ?_ ?_)
      | (with_reducible refine LeO.bind ?_ (fun _ => ?_))
      | exact ih0 _ _ _
      | exact ih1 _ _ _ _ _
      | exact ih2 _ _ _ _ _
      | exact pillarboxref05_Cut.mono _ _ _
      | exact LeO.none _
      | refine LeO.ite ?_ ?_
      | refine LeO.bind ?_ (fun _ => ?_)
    · intro y0 y1 y2 y3 y4
      unfold pillarboxref05_Domain.l1
      repeat' first
      | (with_reducible exact ih0 _ _ _)
      | (with_reducible exact ih1 _ _ _ _ _)
      | (with_reducible exact ih2 _ _ _ _ _)
      | (with_reducible exact pillarboxref05_Cut.mono _ _ _)
      | (with_reducible exact LeO.refl _)
      | (with_reducible exact LeO.none _)
      | (with_reducible refine LeO.ite ?_ ?_)
      | (with_reducible refine LeO.bind ?_ (fun _ => ?_))
      | exact ih0 _ _ _
      | exact ih1 _ _ _ _ _
      | exact ih2 _ _ _ _ _
      | exact pillarboxref05_Cut.mono _ _ _
      | exact LeO.none _
      | refine LeO.ite ?_ ?_
      | refine LeO.bind ?_ (fun _ => ?_)
theorem pillarboxref05_Domain.mono : ∀ a0 k, LeO (pillarboxref05_Domain.f k a0) (pillarboxref05_Domain.f (k + 1) a0) := by
  intro a0 k
  obtain ⟨ih0, ih1, ih2⟩ := pillarboxref05_Domain.mono_l k
  unfold pillarboxref05_Domain.f
  repeat' first
      | (with_reducible exact ih0 _ _ _)
      | (with_reducible exact ih1 _ _ _ _ _)
      | (with_reducible exact ih2 _ _ _ _ _)
      | (with_reducible exact pillarboxref05_Cut.mono _ _ _)
      | (with_reducible exact LeO.refl _)
      | (with_reducible exact LeO.none _)
      | (with_reducible refine LeO.ite ?_ ?_)
      | (with_reducible refine LeO.bind ?_ (fun _ => ?_))
      | exact ih0 _ _ _
      | exact ih1 _ _ _ _ _
      | exact ih2 _ _ _ _ _
      | exact pillarboxref05_Cut.mono _ _ _
      | exact LeO.none _
      | refine LeO.ite ?_ ?_
      | refine LeO.bind ?_ (fun _ => ?_)
set_option maxHeartbeats 8000000 in
set_option maxRecDepth 100000 in
theorem pillarboxref05_Domain.calls (k : Nat) (a0 : ByteArray) (r : Bool) (w : World) (hG : GlobM w) (h : pillarboxref05_Domain.f k a0 = some r) :
    Calls Tryz.prog 72 #[.string a0] w fun e w' => e = .returned (.bool r) ∧ Below w.heap.size w w' := by
  have HB := Aside0.mk (Below.refl w.heap.size w)
  have H : ((pillarboxref05_Cut.f k a0 46).bind fun t132 => (pillarboxref05_Domain.l0 k a0 t132 0)) = some r := h
  clear h
  replace H := Option.bind_eq_some_iff.mp H
  obtain ⟨t132, A20, H⟩ := H
  replace H : (pillarboxref05_Domain.l0 k a0 t132 0) = some r := H
  have A2 := Aside0.mk A20
  clear A20
  have H' := Aside0.mk H
  clear H
  go_enter Tryz.func72, Tryz.ntmps72
  go_wp2_with (first | ((with_reducible refine gate_callee (f := 94) rfl ?_); refine goesL_ (some 8) rfl rfl Tryz.func94 (by kernel_rfl) rfl #[.string a0, .int .u8 46] rfl (by (try simp only [List.map_toArray, List.map_cons, List.map_nil]); first | done | rfl | (simp only [List.length_drop, List.length_take]; rfl)) ?_; (with_reducible refine (pillarboxref05_Cut.calls k a0 46 t132 _ ?side1 A2.out).mono ?_); (case side1 => first | exact hG | exact GlobM.below hG (by repeat (first | (with_reducible first | exact HB.out | apply below_alloc | apply pw_below_drewN | apply below_drew1) | exact HB.out))); rintro e w3 ⟨v133, rfl, ho0, hb⟩; refine ⟨_, rfl, ?_⟩; have n0_ := Aside0.mk (Kd.R_lower ho0 (below_size (by repeat (first | (with_reducible first | exact HB.out | apply below_alloc | apply pw_below_drewN | apply below_drew1) | exact HB.out)))); have n1_ := Aside0.mk (below_step (by repeat (first | (with_reducible first | exact HB.out | apply below_alloc | apply pw_below_drewN | apply below_drew1) | exact HB.out)) hb); clear HB; have HO134 := n0_; have HB := n1_; clear n0_ n1_; (try clear hb); (try clear hb2); (try clear hk); (try clear hi); (try clear ho0)))
  go_loopg [4] k (fun kq v4 w' => ∃ (x4_1 : Int), v4 = .int .i64 x4_1 ∧ Aside0 (pillarboxref05_Domain.l0 kq a0 t132 x4_1 = some r) ∧ Aside0 (kq ≤ k) ∧ Aside0 (Kd.R Kd.string 9 w' w.heap.size (fun _ => True) v133 t132) ∧ Aside0 (Below w.heap.size w w'))
  case atStart => exact ⟨(0), (by first | rfl | (simp; done) | (simp [*]; done)), H', ⟨Nat.le_refl _⟩, ⟨by (with_reducible repeat (first | apply Kd.R_alloc | apply Kd.R_drewN | apply Kd.R_drew)); exact HO134.out⟩, ⟨by repeat (first | (with_reducible first | exact HB.out | apply below_alloc | apply pw_below_drewN | apply below_drew1) | exact HB.out)⟩⟩
  case round =>
    clear H'
    try clear p2
    obtain ⟨x4_1, rfl, HA, HK1, HO_3, HB⟩ := hrel
    cases gk with
    | zero => exact absurd HA.out (by simp [pillarboxref05_Domain.l0])
    | succ k1 =>
      have H := HA.out
      clear HA
      simp only [pillarboxref05_Domain.l0] at H
      by_cases c4 : x4_1 < (t132.length : Int)
      · rw [if_pos c4] at H
        have c4b0 : decide (x4_1 < (t132.length : Int)) = true := decide_eq_true c4
        clear c4
        by_cases c5 : 0 ≤ x4_1
        · rw [if_pos c5] at H
          have c5b0 : decide (0 ≤ x4_1) = true := decide_eq_true c5
          clear c5
          have HC6 := Aside0.mk H
          clear H
          obtain ⟨Ao7, co7, eo7⟩ := Kd.R_slice HO_3.out
          subst eo7
          have p135 : 0 ≤ (x4_1 : Int) := of_decide_eq_true (by first | (with_reducible assumption) | assumption)
          have q135 : x4_1 < (t132.length : Int) := of_decide_eq_true (by first | (with_reducible assumption) | assumption)
          obtain ⟨ad135, e135, hx135_0⟩ := Kd.at_string (Kd.R_reads' HO_3.out).2.2 x4_1 p135 q135
          cases e135
          replace p135 := eq_true p135
          replace q135 := eq_true q135
          go_upto_region 6 with (fail)
          go_cut [43] (fun v43 wc => ∃ (kq : Nat) (x43_5 : Bool), v43 = .bool x43_5 ∧ Aside0 (pillarboxref05_Domain.j1 kq a0 t132 x4_1 ((rdOf ByteArray.empty t132 x4_1).size : Int) x43_5 = some r) ∧ Aside0 (kq ≤ k1) ∧ Aside0 (Kd.R Kd.string 9 wc w.heap.size (fun _ => True) (.slice (some ad135) t132.length co7) t132) ∧ Aside0 (Below w.heap.size w wc))
          case first =>
            have H := HC6.out
            clear HC6
            by_cases c8 : ((rdOf ByteArray.empty t132 x4_1).size : Int) < 1
            · rw [if_pos c8] at H
              have c8b0 : decide (((rdOf ByteArray.empty t132 x4_1).size : Int) < 1) = true := decide_eq_true c8
              have c8b1 : decide ((rdOf ByteArray.empty t132 x4_1).size < 1) = true := decide_eq_true (by omega)
              clear c8
              (first | rw [c8b0] | (simp only [i64_w, i32_w]; rw [c8b0]) | skip)
              have H' := Aside0.mk H
              clear H
              go_wp2
              go_meet
              case rel => exact ⟨_, (true), (by first | rfl | (simp; done) | (simp [*]; done)), H', ⟨by have := HK1.out; first | omega | exact Nat.le_refl _⟩, ⟨by (with_reducible repeat (first | apply Kd.R_alloc | apply Kd.R_drewN | apply Kd.R_drew)); exact HO_3.out⟩, ⟨by repeat (first | (with_reducible first | exact HB.out | apply below_alloc | apply pw_below_drewN | apply below_drew1) | exact HB.out)⟩⟩
            · rw [if_neg c8] at H
              have c8b0 : decide (((rdOf ByteArray.empty t132 x4_1).size : Int) < 1) = false := decide_eq_false c8
              have c8b1 : decide ((rdOf ByteArray.empty t132 x4_1).size < 1) = false := decide_eq_false (by omega)
              clear c8
              (first | rw [c8b0] | (simp only [i64_w, i32_w]; rw [c8b0]) | skip)
              by_cases c9 : ((rdOf ByteArray.empty t132 x4_1).size : Int) > 32
              · rw [if_pos c9] at H
                have c9b0 : decide (32 < ((rdOf ByteArray.empty t132 x4_1).size : Int)) = true := decide_eq_true c9
                have c9b1 : decide (32 < (rdOf ByteArray.empty t132 x4_1).size) = true := decide_eq_true (by omega)
                clear c9
                have H' := Aside0.mk H
                clear H
                go_wp2
                go_meet
                case rel => exact ⟨_, (true), (by first | rfl | (simp; done) | (simp [*]; done)), H', ⟨by have := HK1.out; first | omega | exact Nat.le_refl _⟩, ⟨by (with_reducible repeat (first | apply Kd.R_alloc | apply Kd.R_drewN | apply Kd.R_drew)); exact HO_3.out⟩, ⟨by repeat (first | (with_reducible first | exact HB.out | apply below_alloc | apply pw_below_drewN | apply below_drew1) | exact HB.out)⟩⟩
              · rw [if_neg c9] at H
                have c9b0 : decide (32 < ((rdOf ByteArray.empty t132 x4_1).size : Int)) = false := decide_eq_false c9
                have c9b1 : decide (32 < (rdOf ByteArray.empty t132 x4_1).size) = false := decide_eq_false (by omega)
                clear c9
                by_cases c10 : 0 < ((rdOf ByteArray.empty t132 x4_1).size : Int)
                · rw [if_pos c10] at H
                  have c10b0 : decide (0 < ((rdOf ByteArray.empty t132 x4_1).size : Int)) = true := decide_eq_true c10
                  have c10b1 : decide (0 < (rdOf ByteArray.empty t132 x4_1).size) = true := decide_eq_true (by omega)
                  clear c10
                  by_cases c12 : (bt (rdOf ByteArray.empty t132 x4_1) 0) = 45
                  · rw [if_pos c12] at H
                    have c12b0 : ((bt (rdOf ByteArray.empty t132 x4_1) 0) == 45) = true := beq_iff_eq.mpr c12
                    have c12b1 : ((bt (rdOf ByteArray.empty t132 x4_1) 0) != 45) = false := bne_eq_false_iff_eq.mpr c12
                    clear c12
                    have H' := Aside0.mk H
                    clear H
                    have p136 : 0 ≤ (x4_1 : Int) := of_decide_eq_true (by first | (with_reducible assumption) | assumption)
                    have q136 : x4_1 < (t132.length : Int) := of_decide_eq_true (by first | (with_reducible assumption) | assumption)
                    obtain ⟨ad136, e136, hx136_0⟩ := Kd.at_string (Kd.R_reads' HO_3.out).2.2 x4_1 p136 q136
                    obtain rfl : ad135 = ad136 := (by injection e136)
                    replace p136 := eq_true p136
                    replace q136 := eq_true q136
                    have p11 : 0 ≤ (0 : Int) := (by omega)
                    have q11 : 0 < (rdOf ByteArray.empty t132 x4_1).size := (by have : (0 : Int) < ((rdOf ByteArray.empty t132 x4_1).size : Int) := of_decide_eq_true (by first | (with_reducible assumption) | assumption); omega)
                    have hx11 : ∀ h : 0 < (rdOf ByteArray.empty t132 x4_1).size, (((rdOf ByteArray.empty t132 x4_1)[0]'h).toNat : Int) = bt (rdOf ByteArray.empty t132 x4_1) 0 := bt_at (rdOf ByteArray.empty t132 x4_1) 0
                    clear p11
                    have qi11 : (0 < ((rdOf ByteArray.empty t132 x4_1).size : Int)) = True := eq_true (of_decide_eq_true (by first | (with_reducible assumption) | assumption))
                    replace q11 := eq_true q11
                    go_wp2
                    go_meet
                    case rel => exact ⟨_, (true), (by first | rfl | (simp; done) | (simp [*]; done)), H', ⟨by have := HK1.out; first | omega | exact Nat.le_refl _⟩, ⟨by (with_reducible repeat (first | apply Kd.R_alloc | apply Kd.R_drewN | apply Kd.R_drew)); exact HO_3.out⟩, ⟨by repeat (first | (with_reducible first | exact HB.out | apply below_alloc | apply pw_below_drewN | apply below_drew1) | exact HB.out)⟩⟩
                  · rw [if_neg c12] at H
                    have c12b0 : ((bt (rdOf ByteArray.empty t132 x4_1) 0) == 45) = false := beq_eq_false_iff_ne.mpr c12
                    have c12b1 : ((bt (rdOf ByteArray.empty t132 x4_1) 0) != 45) = true := bne_iff_ne.mpr c12
                    obtain ⟨ji13, hji13⟩ : ∃ j_ : Int, (wrap64 (((rdOf ByteArray.empty t132 x4_1).size : Int) - 1)) = j_ := ⟨_, rfl⟩
                    replace H : (if 0 ≤ (ji13) then (if (ji13) < ((rdOf ByteArray.empty t132 x4_1).size : Int) then (pillarboxref05_Domain.j1 k1 a0 t132 x4_1 ((rdOf ByteArray.empty t132 x4_1).size : Int) ((bt (rdOf ByteArray.empty t132 x4_1) (ji13)) == 45)) else (none)) else (none)) = some r := by first | (rw [hji13] at H; exact H) | (simp only [hji13] at H ⊢; exact H)
                    have hji13w : (IntKind.i64.wrap (((rdOf ByteArray.empty t132 x4_1).size : Int) - 1)) = ji13 := (i64_w _).trans hji13
                    by_cases c14 : 0 ≤ (ji13)
                    · rw [if_pos c14] at H
                      have c14b0 : decide (0 ≤ (ji13)) = true := decide_eq_true c14
                      clear c14
                      by_cases c15 : (ji13) < ((rdOf ByteArray.empty t132 x4_1).size : Int)
                      · rw [if_pos c15] at H
                        have c15b0 : decide ((ji13) < ((rdOf ByteArray.empty t132 x4_1).size : Int)) = true := decide_eq_true c15
                        clear c15
                        have H' := Aside0.mk H
                        clear H
                        have p136 : 0 ≤ (x4_1 : Int) := of_decide_eq_true (by first | (with_reducible assumption) | assumption)
                        have q136 : x4_1 < (t132.length : Int) := of_decide_eq_true (by first | (with_reducible assumption) | assumption)
                        obtain ⟨ad136, e136, hx136_0⟩ := Kd.at_string (Kd.R_reads' HO_3.out).2.2 x4_1 p136 q136
                        obtain rfl : ad135 = ad136 := (by injection e136)
                        replace p136 := eq_true p136
                        replace q136 := eq_true q136
                        have p11 : 0 ≤ (0 : Int) := (by omega)
                        have q11 : 0 < (rdOf ByteArray.empty t132 x4_1).size := (by have : (0 : Int) < ((rdOf ByteArray.empty t132 x4_1).size : Int) := of_decide_eq_true (by first | (with_reducible assumption) | assumption); omega)
                        have hx11 : ∀ h : 0 < (rdOf ByteArray.empty t132 x4_1).size, (((rdOf ByteArray.empty t132 x4_1)[0]'h).toNat : Int) = bt (rdOf ByteArray.empty t132 x4_1) 0 := bt_at (rdOf ByteArray.empty t132 x4_1) 0
                        clear p11
                        have qi11 : (0 < ((rdOf ByteArray.empty t132 x4_1).size : Int)) = True := eq_true (of_decide_eq_true (by first | (with_reducible assumption) | assumption))
                        replace q11 := eq_true q11
                        have p137 : 0 ≤ (x4_1 : Int) := of_decide_eq_true (by first | (with_reducible assumption) | assumption)
                        have q137 : x4_1 < (t132.length : Int) := of_decide_eq_true (by first | (with_reducible assumption) | assumption)
                        obtain ⟨ad137, e137, hx137_0⟩ := Kd.at_string (Kd.R_reads' HO_3.out).2.2 x4_1 p137 q137
                        obtain rfl : ad135 = ad137 := (by injection e137)
                        replace p137 := eq_true p137
                        replace q137 := eq_true q137
                        have p16 : 0 ≤ ((ji13) : Int) := of_decide_eq_true (by first | (with_reducible assumption) | assumption)
                        have q16 : (ji13) < ((rdOf ByteArray.empty t132 x4_1).size : Int) := of_decide_eq_true (by first | (with_reducible assumption) | assumption)
                        have hx16 := bt_at (rdOf ByteArray.empty t132 x4_1) (ji13)
                        replace p16 := eq_true p16
                        replace q16 := eq_true q16
                        go_wp2
                        go_meet
                        case rel => exact ⟨_, (((bt (rdOf ByteArray.empty t132 x4_1) (ji13)) == 45)), (by first | rfl | (simp; done) | (simp only [← hji13] <;> (first | rfl | simp)) | (simp [*]; done)), H', ⟨by have := HK1.out; first | omega | exact Nat.le_refl _⟩, ⟨by (with_reducible repeat (first | apply Kd.R_alloc | apply Kd.R_drewN | apply Kd.R_drew)); exact HO_3.out⟩, ⟨by repeat (first | (with_reducible first | exact HB.out | apply below_alloc | apply pw_below_drewN | apply below_drew1) | exact HB.out)⟩⟩
                      · rw [if_neg c15] at H
                        exact absurd H (by simp)
                    · rw [if_neg c14] at H
                      exact absurd H (by simp)
                · rw [if_neg c10] at H
                  exact absurd H (by simp)
          case rest =>
            clear HC6
            try clear c1
            try clear p1
            try clear q1
            try clear hx1
            try clear qi1
            try clear p2
            try clear c4
            try clear c4b0
            try clear c5
            try clear c5b0
            try clear p6
            try clear c7
            try clear c8
            try clear c8b0
            try clear c8b1
            try clear c9
            try clear c9b0
            try clear c9b1
            try clear c10
            try clear c10b0
            try clear c10b1
            try clear p11
            try clear q11
            try clear hx11
            try clear qi11
            try clear c12
            try clear c12b0
            try clear c12b1
            try clear p13
            try clear q13
            try clear hx13
            try clear c14
            try clear c14b0
            try clear c15
            try clear c15b0
            try clear p16
            try clear q16
            try clear hx16
            try clear hx135_0
            try clear hx136_0
            try clear hx137_0
            try clear p11
            try clear p135
            try clear p136
            try clear p137
            try clear p16
            try clear p2
            try clear q11
            try clear q135
            try clear q136
            try clear q137
            try clear q16
            obtain ⟨kq, x43_5, rfl, HA, HJ5, HO_3, HB⟩ := hcut
            cases kq with
            | zero => exact absurd HA.out (by simp [pillarboxref05_Domain.j1])
            | succ kj5 =>
              have H := HA.out
              clear HA
              simp only [pillarboxref05_Domain.j1] at H
              by_cases c17 : x43_5 = true
              · subst c17
                have H1 : (some false) = some r := by rw [if_pos rfl] at H; exact H
                clear H
                have H := H1
                clear H1
                obtain rfl := Option.some.inj H
                go_wp2
                go_ret
                exact ⟨by first | rfl | (simp [errW_none, errW_some] <;> rfl) | (simp [*, errW_none, errW_some] <;> rfl), by repeat (first | (with_reducible first | exact HB.out | apply below_alloc | apply pw_below_drewN | apply below_drew1) | exact HB.out)⟩
              · replace c17 := Bool.eq_false_iff.mpr c17
                subst c17
                have H1 : (pillarboxref05_Domain.l1 kj5 a0 t132 x4_1 ((rdOf ByteArray.empty t132 x4_1).size : Int) 0) = some r := by rw [if_neg (show ¬ (false = true) by decide)] at H; exact H
                clear H
                have H := H1
                clear H1
                have H' := Aside0.mk H
                clear H
                go_wp2
                go_loopg [6] kj5 (fun kq v6 w' => ∃ (x6_3 : Int), v6 = .int .i64 x6_3 ∧ Aside0 (pillarboxref05_Domain.l1 kq a0 t132 x4_1 ((rdOf ByteArray.empty t132 x4_1).size : Int) x6_3 = some r) ∧ Aside0 (kq ≤ kj5) ∧ Aside0 (Kd.R Kd.string 9 w' w.heap.size (fun _ => True) (.slice (some ad135) t132.length co7) t132) ∧ Aside0 (Below w.heap.size w w'))
                case atStart => exact ⟨(0), (by first | rfl | (simp; done) | (simp [*]; done)), H', ⟨Nat.le_refl _⟩, ⟨by (with_reducible repeat (first | apply Kd.R_alloc | apply Kd.R_drewN | apply Kd.R_drew)); exact HO_3.out⟩, ⟨by repeat (first | (with_reducible first | exact HB.out | apply below_alloc | apply pw_below_drewN | apply below_drew1) | exact HB.out)⟩⟩
                case round =>
                  clear H'
                  try clear c1
                  try clear p1
                  try clear q1
                  try clear hx1
                  try clear qi1
                  try clear p2
                  try clear c4
                  try clear c4b0
                  try clear c5
                  try clear c5b0
                  try clear p6
                  try clear c7
                  try clear c8
                  try clear c8b0
                  try clear c8b1
                  try clear c9
                  try clear c9b0
                  try clear c9b1
                  try clear c10
                  try clear c10b0
                  try clear c10b1
                  try clear p11
                  try clear q11
                  try clear hx11
                  try clear qi11
                  try clear c12
                  try clear c12b0
                  try clear c12b1
                  try clear p13
                  try clear q13
                  try clear hx13
                  try clear c14
                  try clear c14b0
                  try clear c15
                  try clear c15b0
                  try clear p16
                  try clear q16
                  try clear hx16
                  try clear c17
                  try clear hx135_0
                  try clear hx136_0
                  try clear hx137_0
                  try clear p1
                  try clear p11
                  try clear p13
                  try clear p135
                  try clear p136
                  try clear p137
                  try clear p16
                  try clear p2
                  try clear p6
                  try clear q1
                  try clear q11
                  try clear q13
                  try clear q135
                  try clear q136
                  try clear q137
                  try clear q16
                  obtain ⟨x6_3, rfl, HA, HK3, HO_3, HB⟩ := hrel
                  cases gk with
                  | zero => exact absurd HA.out (by simp [pillarboxref05_Domain.l1])
                  | succ k3 =>
                    have H := HA.out
                    clear HA
                    simp only [pillarboxref05_Domain.l1] at H
                    by_cases c18 : x6_3 < ((rdOf ByteArray.empty t132 x4_1).size : Int)
                    · rw [if_pos c18] at H
                      have c18b0 : decide (x6_3 < ((rdOf ByteArray.empty t132 x4_1).size : Int)) = true := decide_eq_true c18
                      clear c18
                      by_cases c19 : 0 ≤ x4_1
                      · rw [if_pos c19] at H
                        have c19b0 : decide (0 ≤ x4_1) = true := decide_eq_true c19
                        clear c19
                        by_cases c20 : x4_1 < (t132.length : Int)
                        · rw [if_pos c20] at H
                          have c20b0 : decide (x4_1 < (t132.length : Int)) = true := decide_eq_true c20
                          clear c20
                          by_cases c21 : 0 ≤ x6_3
                          · rw [if_pos c21] at H
                            have c21b0 : decide (0 ≤ x6_3) = true := decide_eq_true c21
                            clear c21
                            by_cases c22 : x6_3 < ((rdOf ByteArray.empty t132 x4_1).size : Int)
                            · rw [if_pos c22] at H
                              have c22b0 : decide (x6_3 < ((rdOf ByteArray.empty t132 x4_1).size : Int)) = true := decide_eq_true c22
                              clear c22
                              replace H := Option.bind_eq_some_iff.mp H
                              obtain ⟨t139, A240, H⟩ := H
                              replace H : (if t139 = true then (pillarboxref05_Domain.l1 k3 a0 t132 x4_1 ((rdOf ByteArray.empty t132 x4_1).size : Int) (wrap64 (x6_3 + 1))) else (if (bt (rdOf ByteArray.empty t132 x4_1) x6_3) = 45 then (pillarboxref05_Domain.l1 k3 a0 t132 x4_1 ((rdOf ByteArray.empty t132 x4_1).size : Int) (wrap64 (x6_3 + 1))) else (some false))) = some r := H
                              have A24 := Aside0.mk A240
                              clear A240
                              by_cases c25 : t139 = true
                              · subst c25
                                have H1 : (pillarboxref05_Domain.l1 k3 a0 t132 x4_1 ((rdOf ByteArray.empty t132 x4_1).size : Int) (wrap64 (x6_3 + 1))) = some r := by rw [if_pos rfl] at H; exact H
                                clear H
                                have H := H1
                                clear H1
                                have H' := Aside0.mk H
                                clear H
                                have p138 : 0 ≤ (x4_1 : Int) := of_decide_eq_true (by first | (with_reducible assumption) | assumption)
                                have q138 : x4_1 < (t132.length : Int) := of_decide_eq_true (by first | (with_reducible assumption) | assumption)
                                obtain ⟨ad138, e138, hx138_0⟩ := Kd.at_string (Kd.R_reads' HO_3.out).2.2 x4_1 p138 q138
                                obtain rfl : ad135 = ad138 := (by injection e138)
                                replace p138 := eq_true p138
                                replace q138 := eq_true q138
                                have p23 : 0 ≤ (x6_3 : Int) := of_decide_eq_true (by first | (with_reducible assumption) | assumption)
                                have q23 : x6_3 < ((rdOf ByteArray.empty t132 x4_1).size : Int) := of_decide_eq_true (by first | (with_reducible assumption) | assumption)
                                have hx23 := bt_at (rdOf ByteArray.empty t132 x4_1) x6_3
                                replace p23 := eq_true p23
                                replace q23 := eq_true q23
                                go_wp2_with (first | ((with_reducible refine gate_callee (f := 93) rfl ?_); refine goesL_ (some 55) rfl rfl Tryz.func93 (by kernel_rfl) rfl #[.int .u8 (bt (rdOf ByteArray.empty t132 x4_1) x6_3)] rfl (by (try simp only [List.map_toArray, List.map_cons, List.map_nil]); first | done | rfl | (simp only [List.length_drop, List.length_take]; rfl)) ?_; (with_reducible refine (pillarboxref05_plain.calls (bt (rdOf ByteArray.empty t132 x4_1) x6_3) true _ ?side1 A24.out).mono ?_); (case side1 => first | exact hG | exact GlobM.below hG (by repeat (first | (with_reducible first | exact HB.out | apply below_alloc | apply pw_below_drewN | apply below_drew1) | exact HB.out))); rintro e w' ⟨rfl, ⟨nd, rfl⟩⟩; refine ⟨_, rfl, ?_⟩))
                                go_roundg k3
                                case measure => have := HK1.out; have := HJ5.out; have := HK3.out; omega
                                case rel => exact ⟨(wrap64 (x6_3 + 1)), (by first | rfl | (simp; done) | (simp [*]; done)), H', ⟨by have := HK1.out; have := HJ5.out; have := HK3.out; omega⟩, ⟨by (with_reducible repeat (first | apply Kd.R_alloc | apply Kd.R_drewN | apply Kd.R_drew)); exact HO_3.out⟩, ⟨by repeat (first | (with_reducible first | exact HB.out | apply below_alloc | apply pw_below_drewN | apply below_drew1) | exact HB.out)⟩⟩
                              · replace c25 := Bool.eq_false_iff.mpr c25
                                subst c25
                                have H1 : (if (bt (rdOf ByteArray.empty t132 x4_1) x6_3) = 45 then (pillarboxref05_Domain.l1 k3 a0 t132 x4_1 ((rdOf ByteArray.empty t132 x4_1).size : Int) (wrap64 (x6_3 + 1))) else (some false)) = some r := by rw [if_neg (show ¬ (false = true) by decide)] at H; exact H
                                clear H
                                have H := H1
                                clear H1
                                by_cases c27 : (bt (rdOf ByteArray.empty t132 x4_1) x6_3) = 45
                                · rw [if_pos c27] at H
                                  have c27b0 : ((bt (rdOf ByteArray.empty t132 x4_1) x6_3) == 45) = true := beq_iff_eq.mpr c27
                                  have c27b1 : ((bt (rdOf ByteArray.empty t132 x4_1) x6_3) != 45) = false := bne_eq_false_iff_eq.mpr c27
                                  clear c27
                                  have H' := Aside0.mk H
                                  clear H
                                  have p138 : 0 ≤ (x4_1 : Int) := of_decide_eq_true (by first | (with_reducible assumption) | assumption)
                                  have q138 : x4_1 < (t132.length : Int) := of_decide_eq_true (by first | (with_reducible assumption) | assumption)
                                  obtain ⟨ad138, e138, hx138_0⟩ := Kd.at_string (Kd.R_reads' HO_3.out).2.2 x4_1 p138 q138
                                  obtain rfl : ad135 = ad138 := (by injection e138)
                                  replace p138 := eq_true p138
                                  replace q138 := eq_true q138
                                  have p23 : 0 ≤ (x6_3 : Int) := of_decide_eq_true (by first | (with_reducible assumption) | assumption)
                                  have q23 : x6_3 < ((rdOf ByteArray.empty t132 x4_1).size : Int) := of_decide_eq_true (by first | (with_reducible assumption) | assumption)
                                  have hx23 := bt_at (rdOf ByteArray.empty t132 x4_1) x6_3
                                  replace p23 := eq_true p23
                                  replace q23 := eq_true q23
                                  go_wp2_with (first | ((with_reducible refine gate_callee (f := 93) rfl ?_); refine goesL_ (some 55) rfl rfl Tryz.func93 (by kernel_rfl) rfl #[.int .u8 (bt (rdOf ByteArray.empty t132 x4_1) x6_3)] rfl (by (try simp only [List.map_toArray, List.map_cons, List.map_nil]); first | done | rfl | (simp only [List.length_drop, List.length_take]; rfl)) ?_; (with_reducible refine (pillarboxref05_plain.calls (bt (rdOf ByteArray.empty t132 x4_1) x6_3) false _ ?side1 A24.out).mono ?_); (case side1 => first | exact hG | exact GlobM.below hG (by repeat (first | (with_reducible first | exact HB.out | apply below_alloc | apply pw_below_drewN | apply below_drew1) | exact HB.out))); rintro e w' ⟨rfl, ⟨nd, rfl⟩⟩; refine ⟨_, rfl, ?_⟩; have p140 : 0 ≤ (x4_1 : Int) := of_decide_eq_true (by first | (with_reducible assumption) | assumption); have q140 : x4_1 < (t132.length : Int) := of_decide_eq_true (by first | (with_reducible assumption) | assumption); obtain ⟨ad140, e140, hx140_0⟩ := Kd.at_string (Kd.R_reads' HO_3.out).2.2 x4_1 p140 q140; obtain rfl : ad135 = ad140 := (by injection e140); replace p140 := eq_true p140; replace q140 := eq_true q140; have p26 : 0 ≤ (x6_3 : Int) := of_decide_eq_true (by first | (with_reducible assumption) | assumption); have q26 : x6_3 < ((rdOf ByteArray.empty t132 x4_1).size : Int) := of_decide_eq_true (by first | (with_reducible assumption) | assumption); have hx26 := bt_at (rdOf ByteArray.empty t132 x4_1) x6_3; replace p26 := eq_true p26; replace q26 := eq_true q26))
                                  go_roundg k3
                                  case measure => have := HK1.out; have := HJ5.out; have := HK3.out; omega
                                  case rel => exact ⟨(wrap64 (x6_3 + 1)), (by first | rfl | (simp; done) | (simp [*]; done)), H', ⟨by have := HK1.out; have := HJ5.out; have := HK3.out; omega⟩, ⟨by (with_reducible repeat (first | apply Kd.R_alloc | apply Kd.R_drewN | apply Kd.R_drew)); exact HO_3.out⟩, ⟨by repeat (first | (with_reducible first | exact HB.out | apply below_alloc | apply pw_below_drewN | apply below_drew1) | exact HB.out)⟩⟩
                                · rw [if_neg c27] at H
                                  have c27b0 : ((bt (rdOf ByteArray.empty t132 x4_1) x6_3) == 45) = false := beq_eq_false_iff_ne.mpr c27
                                  have c27b1 : ((bt (rdOf ByteArray.empty t132 x4_1) x6_3) != 45) = true := bne_iff_ne.mpr c27
                                  obtain rfl := Option.some.inj H
                                  have p138 : 0 ≤ (x4_1 : Int) := of_decide_eq_true (by first | (with_reducible assumption) | assumption)
                                  have q138 : x4_1 < (t132.length : Int) := of_decide_eq_true (by first | (with_reducible assumption) | assumption)
                                  obtain ⟨ad138, e138, hx138_0⟩ := Kd.at_string (Kd.R_reads' HO_3.out).2.2 x4_1 p138 q138
                                  obtain rfl : ad135 = ad138 := (by injection e138)
                                  replace p138 := eq_true p138
                                  replace q138 := eq_true q138
                                  have p23 : 0 ≤ (x6_3 : Int) := of_decide_eq_true (by first | (with_reducible assumption) | assumption)
                                  have q23 : x6_3 < ((rdOf ByteArray.empty t132 x4_1).size : Int) := of_decide_eq_true (by first | (with_reducible assumption) | assumption)
                                  have hx23 := bt_at (rdOf ByteArray.empty t132 x4_1) x6_3
                                  replace p23 := eq_true p23
                                  replace q23 := eq_true q23
                                  go_wp2_with (first | ((with_reducible refine gate_callee (f := 93) rfl ?_); refine goesL_ (some 55) rfl rfl Tryz.func93 (by kernel_rfl) rfl #[.int .u8 (bt (rdOf ByteArray.empty t132 x4_1) x6_3)] rfl (by (try simp only [List.map_toArray, List.map_cons, List.map_nil]); first | done | rfl | (simp only [List.length_drop, List.length_take]; rfl)) ?_; (with_reducible refine (pillarboxref05_plain.calls (bt (rdOf ByteArray.empty t132 x4_1) x6_3) false _ ?side1 A24.out).mono ?_); (case side1 => first | exact hG | exact GlobM.below hG (by repeat (first | (with_reducible first | exact HB.out | apply below_alloc | apply pw_below_drewN | apply below_drew1) | exact HB.out))); rintro e w' ⟨rfl, ⟨nd, rfl⟩⟩; refine ⟨_, rfl, ?_⟩; have p140 : 0 ≤ (x4_1 : Int) := of_decide_eq_true (by first | (with_reducible assumption) | assumption); have q140 : x4_1 < (t132.length : Int) := of_decide_eq_true (by first | (with_reducible assumption) | assumption); obtain ⟨ad140, e140, hx140_0⟩ := Kd.at_string (Kd.R_reads' HO_3.out).2.2 x4_1 p140 q140; obtain rfl : ad135 = ad140 := (by injection e140); replace p140 := eq_true p140; replace q140 := eq_true q140; have p26 : 0 ≤ (x6_3 : Int) := of_decide_eq_true (by first | (with_reducible assumption) | assumption); have q26 : x6_3 < ((rdOf ByteArray.empty t132 x4_1).size : Int) := of_decide_eq_true (by first | (with_reducible assumption) | assumption); have hx26 := bt_at (rdOf ByteArray.empty t132 x4_1) x6_3; replace p26 := eq_true p26; replace q26 := eq_true q26))
                                  go_ret
                                  exact ⟨by first | rfl | (simp [errW_none, errW_some] <;> rfl) | (simp [*, errW_none, errW_some] <;> rfl), by repeat (first | (with_reducible first | exact HB.out | apply below_alloc | apply pw_below_drewN | apply below_drew1) | exact HB.out)⟩
                            · rw [if_neg c22] at H
                              exact absurd H (by simp)
                          · rw [if_neg c21] at H
                            exact absurd H (by simp)
                        · rw [if_neg c20] at H
                          exact absurd H (by simp)
                      · rw [if_neg c19] at H
                        exact absurd H (by simp)
                    · rw [if_neg c18] at H
                      have c18b0 : decide (x6_3 < ((rdOf ByteArray.empty t132 x4_1).size : Int)) = false := decide_eq_false c18
                      clear c18
                      have H' := Aside0.mk H
                      clear H
                      go_wp2
                      go_roundg k3
                      case measure => have := HK1.out; have := HJ5.out; have := HK3.out; omega
                      case rel => exact ⟨(wrap64 (x4_1 + 1)), (by first | rfl | (simp; done) | (simp [*]; done)), H', ⟨by have := HK1.out; have := HJ5.out; have := HK3.out; omega⟩, ⟨by (with_reducible repeat (first | apply Kd.R_alloc | apply Kd.R_drewN | apply Kd.R_drew)); exact HO_3.out⟩, ⟨by repeat (first | (with_reducible first | exact HB.out | apply below_alloc | apply pw_below_drewN | apply below_drew1) | exact HB.out)⟩⟩
        · rw [if_neg c5] at H
          exact absurd H (by simp)
      · rw [if_neg c4] at H
        have c4b0 : decide (x4_1 < (t132.length : Int)) = false := decide_eq_false c4
        clear c4
        obtain rfl := Option.some.inj H
        obtain ⟨Ao28, co28, eo28⟩ := Kd.R_slice HO_3.out
        subst eo28
        go_wp2
        go_ret
        exact ⟨by first | rfl | (simp [errW_none, errW_some] <;> rfl) | (simp [*, errW_none, errW_some] <;> rfl), by repeat (first | (with_reducible first | exact HB.out | apply below_alloc | apply pw_below_drewN | apply below_drew1) | exact HB.out)⟩

/-! ### letters' case: given -/
def smallB (b : UInt8) : UInt8 := if 65 ≤ b.toNat ∧ b.toNat ≤ 90 then b + 32 else b
def greatB (b : UInt8) : UInt8 := if 97 ≤ b.toNat ∧ b.toNat ≤ 122 then b - 32 else b
def pillarboxref05_Small.f (a0 : ByteArray) : Option ByteArray := if a0.size ≤ 1000000 then some (Plain.S (a0.data.toList.map smallB)) else none
/-- a block of bytes, of which the first k have been turned -/
def Turned (g : UInt8 → UInt8) (u : List UInt8) (b : Nat) (e : TypeId) (k : Nat) (W : World) : Prop :=
  ∃ C fr, W.heap[b]? = some (.cells C e fr) ∧ u.length ≤ fr.1 ∧ u.length ≤ C.size ∧ ∀ j x, u[j]? = some x → C[j]? = some (Value.int .u8 ((if j < k then g x else x).toNat : Int))
theorem Turned.cell {g : UInt8 → UInt8} {u : List UInt8} {b : Nat} {e : TypeId} {k : Nat} {W : World} (h : Turned g u b e k W) {j : Nat} {x : UInt8} (hx : u[j]? = some x) (hj : k ≤ j) : W.cell? ⟨b, j, none⟩ = some (.int .u8 (x.toNat : Int)) ∧ W.frozen? ⟨b, j, none⟩ = false := by
  obtain ⟨C, fr, hh, h1, h2, hc⟩ := h
  have hlt := (List.getElem?_eq_some_iff.1 hx).1
  have := hc j x hx
  rw [if_neg (by omega)] at this
  refine ⟨by simp [World.cell?, hh, this], ?_⟩
  simp only [World.frozen?, hh]
  have : ¬ fr.1 ≤ j := by omega
  simp [this]
theorem Turned.put {g : UInt8 → UInt8} {u : List UInt8} {b : Nat} {e : TypeId} {k : Nat} {W : World} (h : Turned g u b e k W) {x : UInt8} (hx : u[k]? = some x) : Turned g u b e (k + 1) (W.setCell ⟨b, k, none⟩ (.int .u8 ((g x).toNat : Int))) := by
  obtain ⟨C, fr, hh, h1, h2, hc⟩ := h
  have hlt := (List.getElem?_eq_some_iff.1 hx).1
  refine ⟨C.setIfInBounds k (.int .u8 ((g x).toNat : Int)), fr, ?_, h1, by simpa using h2, fun j y hy => ?_⟩
  · simp [World.setCell, Array.getElem?_modify, hh]
  · rw [Array.getElem?_setIfInBounds]
    by_cases hj : k = j
    · subst hj
      rw [hx] at hy
      obtain rfl := Option.some.inj hy
      rw [if_pos rfl, if_pos (by omega), if_pos (by omega)]
    · rw [if_neg hj, hc j y hy]
      by_cases h2 : j < k
      · rw [if_pos h2, if_pos (by omega)]
      · rw [if_neg h2, if_neg (by omega)]
theorem Turned.skip {g : UInt8 → UInt8} {u : List UInt8} {b : Nat} {e : TypeId} {k : Nat} {W : World} (h : Turned g u b e k W) {x : UInt8} (hx : u[k]? = some x) (hg : g x = x) : Turned g u b e (k + 1) W := by
  obtain ⟨C, fr, hh, h1, h2, hc⟩ := h
  refine ⟨C, fr, hh, h1, h2, fun j y hy => ?_⟩
  rw [hc j y hy]
  by_cases hj : j = k
  · subst hj
    rw [hx] at hy
    obtain rfl := Option.some.inj hy
    rw [if_neg (by omega), if_pos (by omega), hg]
  · by_cases h2 : j < k
    · rw [if_pos h2, if_pos (by omega)]
    · rw [if_neg h2, if_neg (by omega)]
theorem Turned.start (g : UInt8 → UInt8) (s : ByteArray) (e : TypeId) (w : World) : Turned g s.data.toList w.heap.size e 0 (Lib.bytesWorld w e s) := by
  refine ⟨_, _, Lib.bytesWorld_at_new w e s, ?_, ?_, fun j x hx => ?_⟩
  · simp [Lib.bytesCells]
  · simp [Lib.bytesCells]
  · have hlt := (List.getElem?_eq_some_iff.1 hx).1
    rw [Array.length_toList] at hlt
    rw [Array.getElem?_toList] at hx
    rw [if_neg (by omega), Lib.bytesCells, Array.getElem?_append_left (by simpa using hlt)]
    simp [hx]
theorem Turned.read {g : UInt8 → UInt8} {u : List UInt8} {b : Nat} {e : TypeId} {W : World} (h : Turned g u b e u.length W) (hz : u.length ≤ 9223372036854775807) : Kd.C (Kd.int .u8) W (some ⟨b, 0, none⟩) (Plain.B (u.map g)).length (Plain.B (u.map g)) := by
  obtain ⟨C, fr, hh, h1, h2, hc⟩ := h
  refine Conv.C_of_block hh _ (fun j p hj => ?_) (by simpa using hz)
  simp only [Plain.B, List.getElem?_map, Option.map_map, Option.map_eq_some_iff] at hj
  obtain ⟨x, hx, rfl⟩ := hj
  have := hc j x hx
  rw [if_pos (List.getElem?_eq_some_iff.1 hx).1] at this
  exact this
theorem smallB_no {x : UInt8} (h : ¬ (65 ≤ x.toNat ∧ x.toNat ≤ 90)) : smallB x = x := if_neg h
theorem greatB_no {x : UInt8} (h : ¬ (97 ≤ x.toNat ∧ x.toNat ≤ 122)) : greatB x = x := if_neg h
theorem smallB_yes {x : UInt8} (h : 65 ≤ x.toNat ∧ x.toNat ≤ 90) : ((smallB x).toNat : Int) = (x.toNat : Int) + 32 := by
  rw [smallB, if_pos h, UInt8.toNat_add]
  have : (32 : UInt8).toNat = 32 := rfl
  rw [this]
  omega
theorem greatB_yes {x : UInt8} (h : 97 ≤ x.toNat ∧ x.toNat ≤ 122) : ((greatB x).toNat : Int) = (x.toNat : Int) - 32 := by
  have e : (32 : UInt8) ≤ x := by rw [UInt8.le_iff_toNat_le]; show 32 ≤ _; omega
  rw [greatB, if_pos h, UInt8.toNat_sub_of_le _ _ e]
  have : (32 : UInt8).toNat = 32 := rfl
  rw [this]
  omega
set_option maxHeartbeats 1000000 in
theorem pillarboxref05_Small.calls (a0 : ByteArray) (r : ByteArray) (w : World) (hG : GlobM w) (h : pillarboxref05_Small.f a0 = some r) :
    Calls Tryz.prog 73 #[.string a0] w fun e w' => e = .returned (.string r) ∧ Below w.heap.size w w' := by
  unfold pillarboxref05_Small.f at h
  by_cases hz : a0.size ≤ 1000000
  · rw [if_pos hz] at h
    have H := Aside0.mk (Option.some.inj h)
    clear h
    obtain ⟨u, hu⟩ : ∃ u, a0.data.toList = u := ⟨_, rfl⟩
    have hul : u.length = a0.size := by rw [← hu, Array.length_toList]; rfl
    have hst := Turned.start smallB a0 5 w
    rw [hu] at hst
    have HS := Aside0.mk hst
    have HU := Aside0.mk hu
    have HL := Aside0.mk hul
    clear hst hu hul
    have kc := Lib.run_convert_string_bytes (P := Tryz.prog) w 9 27 5 a0 Tryz.underlying9 Tryz.underlying27 Tryz.underlying5
    go_enter Tryz.func73, Tryz.ntmps73
    go_wp2
    clear kc
    go_loopw [4] (fun v4 wr => ∃ k : Nat, k ≤ a0.size ∧ v4 = .int .i64 k ∧ Turned smallB u w.heap.size 5 k wr ∧ Below w.heap.size w wr) (fun v4 _ => a0.size - (intOf v4).toNat)
    case atStart =>
      exact ⟨0, by omega, rfl, HS.out, ⟨rfl, rfl, rfl, by rw [Lib.bytesWorld_size]; omega, fun k hk => Lib.bytesWorld_at_old w _ a0 k hk⟩⟩
    case round =>
      obtain ⟨k, hk, rfl, hT, hb⟩ := hrel
      have hbs := hb.size
      by_cases hlt : k < a0.size
      · obtain ⟨x, hx⟩ : ∃ x, u[k]? = some x := ⟨_, List.getElem?_eq_getElem (by have := HL.out; omega)⟩
        obtain ⟨hc, hf⟩ := hT.cell hx (Nat.le_refl _)
        have hx255 := x.toNat_lt
        have HX := Aside0.mk hx
        clear hx
        by_cases h1 : 65 ≤ (x.toNat : Int)
        · by_cases h2 : (x.toNat : Int) ≤ 90
          · have hy := smallB_yes (x := x) ⟨by omega, by omega⟩
            have HY := Aside0.mk hy
            clear hy
            go_wp2
            go_roundw
            case rel =>
              refine ⟨k + 1, by omega, by go_num, ?_, hb.setCell (Nat.le_refl _) _⟩
              have := hT.put HX.out
              rw [HY.out] at this
              exact this
            case measure => simp [intOf]; omega
          · have hy := smallB_no (x := x) (fun h => h2 (by omega))
            have HY := Aside0.mk hy
            clear hy
            go_wp2
            go_roundw
            case rel => exact ⟨k + 1, by omega, by go_num, hT.skip HX.out HY.out, hb⟩
            case measure => simp [intOf]; omega
        · have hy := smallB_no (x := x) (fun h => h1 (by omega))
          have HY := Aside0.mk hy
          clear hy
          go_wp2
          go_roundw
          case rel => exact ⟨k + 1, by omega, by go_num, hT.skip HX.out HY.out, hb⟩
          case measure => simp [intOf]; omega
      · have hk' : k = u.length := by have := HL.out; omega
        rw [hk'] at hT
        have hC := hT.read (by have := HL.out; omega)
        have hcv := Kd.C_string (P := Tryz.prog) (A := some ⟨w.heap.size, 0, none⟩) (c := grownCap w a0.size 0 5) Tryz.underlying27 Tryz.underlying5 Tryz.underlying9 hC
        rw [Plain.B_length, List.length_map, HL.out, Plain.strOfNums_B] at hcv
        clear hk' hT hC
        go_wp2
        go_ret
        rw [← H.out, HU.out]
        exact ⟨rfl, hb⟩
  · rw [if_neg hz] at h
    cases h

end Go.Proofs.YtilgfpljjjbgdaaGreatDoor.PALL
