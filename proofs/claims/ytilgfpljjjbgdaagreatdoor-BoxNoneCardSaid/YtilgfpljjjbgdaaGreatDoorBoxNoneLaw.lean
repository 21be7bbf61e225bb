/- The law BoxNone, walked. -/
import Derived.Test.YtilgfpljjjbgdaaGreatDoorBoxB4
namespace Go.Proofs.YtilgfpljjjbgdaaGreatDoor.Fs
open Go.RowKit Go.Proofs.YtilgfpljjjbgdaaGreatDoor Go.Proofs.YtilgfpljjjbgdaaGreatDoor.Plain Go.Proofs.YtilgfpljjjbgdaaGreatDoorW.PrintWords Go.Maps
set_option linter.unusedVariables false
set_option linter.unusedSimpArgs false
set_option maxHeartbeats 4000000 in
set_option maxRecDepth 100000 in
theorem boxNone {w : World} (v : Value) (hv : OpOf w v) (hG : GI w) : Calls Tryz.prog 5 #[v] w fun e w' => e = .returned (.bool true) ∧ Below w.heap.size w w' := by
  obtain ⟨u, n, q, A, c, b, rfl, hr, hn, hq, hul⟩ := hv
  obtain ⟨z, hz⟩ : ∃ z, w.alloc (.cells #[.string (S u), .int .i64 n, .int .i64 q, .slice A b.length c] 29) = z := ⟨_, rfl⟩
  have HZ := Aside0.mk (show z.heap[w.heap.size]? = some (.cells #[.string (S u), .int .i64 n, .int .i64 q, .slice A b.length c] 29 (0, 0)) by rw [← hz]; exact heapAt rfl (Below.refl _ _))
  have HBZ := Aside0.mk (show Below w.heap.size w z by rw [← hz]; exact below_alloc (Below.refl _ _) _)
  have HGZ := Aside0.mk (hG.below HBZ.out)
  have HRZ := Aside0.mk (hr.below HBZ.out)
  obtain ⟨k0, k1, k2, k3⟩ := fourC HZ.out
  have HLT := Aside0.mk (fun (X : World) (g : Nat) t fr h => lightOne g u n q A b.length c X (t := t) (fr := fr) h)
  have HAN := Aside0.mk (fun (X : World) (hX : Below z.heap.size z X) => boxAnswers X (HGZ.out.below hX))
  obtain ⟨l, hl⟩ : ∃ l, lightB u b.length = l := ⟨_, rfl⟩
  rw [hl] at HLT
  obtain ⟨Y, hY⟩ : ∃ Y, z.alloc (.cells #[.string (S u), .int .i64 n, .int .i64 q, .slice A b.length c] 29) = Y := ⟨_, rfl⟩
  have HY := Aside0.mk (show Y.heap[z.heap.size]? = some (.cells #[.string (S u), .int .i64 n, .int .i64 q, .slice A b.length c] 29 (0, 0)) by rw [← hY]; exact heapAt rfl (Below.refl _ _))
  have HBY := Aside0.mk (show Below z.heap.size z Y by rw [← hY]; exact below_alloc (Below.refl _ _) _)
  clear hG hr hn
  cases l with
  | false =>
    clear hl hq hul
    go_enter Tryz.func5, Tryz.ntmps5
    go_wp2_with (first
      | (go_at_call 6; (try rw [hY]); refine (HLT.out Y _ _ _ HY.out).mono ?_; rintro e W1 ⟨rfl, hb⟩; have HB1 := Aside0.mk (chain' HBY.out hb); clear hb)
      | (go_at_call 7; refine (HAN.out _ HB1.out).mono ?_; rintro e W2 ⟨rfl, hb⟩; have HB2 := Aside0.mk (chain' HBZ.out (chain' HB1.out hb)); clear hb))
    all_goals go_ret
    all_goals exact ⟨rfl, HB2.out⟩
  | true =>
    have hlb : u.length ≤ 200 ∧ b.length ≤ 1000 := by unfold lightB at hl; simpa using hl
    obtain ⟨hu, hb⟩ := hlb
    clear hl hul
    have HDN := Aside0.mk (fun (X : World) => deliverNil u n A b.length c q X)
    have HRN := Aside0.mk (fun (X : World) (hX : Below z.heap.size z X) => boxReadNil u (by omega) n X (HGZ.out.below hX))
    have HMN := Aside0.mk (fun (X : World) (hX : Below z.heap.size z X) => boxMailsNil u (by omega) X (HGZ.out.below hX))
    have HUN := Aside0.mk (fun (X : World) (hX : Below z.heap.size z X) => boxUsedNil u (by omega) X (HGZ.out.below hX))
    have HNW := Aside0.mk (fun (X : World) => new (w0 := X) (W := X) (Below.refl _ _) 9999)
    have HRT := Aside0.mk (fun (X : World) (hX : Below z.heap.size z X) => lawRight u (by omega) n q A b.length c X (HGZ.out.below hX))
    have hb0 : BoxD (Disk.fresh 9999) := box_fresh 9999
    obtain ⟨o, ho⟩ : ∃ o, goodB u n = o := ⟨_, rfl⟩
    rw [ho] at HRT
    cases o with
    | false =>
      have HDL := Aside0.mk (fun (f : Nat) (X : World) (hX : Below z.heap.size z X) => deliverBad f u (by omega) n ho A b.length c 1048576 X (HGZ.out.below hX))
      have HRD := Aside0.mk (fun (f : Nat) (X : World) (hX : Below z.heap.size z X) => readBad (some ⟨f, 0, none⟩) u (by omega) n ho X (HGZ.out.below hX))
      clear ho hb0 hq hu hb
      go_enter Tryz.func5, Tryz.ntmps5
      have HF := Aside0.mk True.intro
      have HF2 := Aside0.mk True.intro
      have HF3 := Aside0.mk True.intro
      go_wp2_with (first
        | (go_at_call 6; (try rw [hY]); refine (HLT.out Y _ _ _ HY.out).mono ?_; rintro e W1 ⟨rfl, hb⟩; have HB1 := Aside0.mk (chain' HBY.out hb); clear k0 k1 k2 k3; obtain ⟨k0, k1, k2, k3⟩ := fourC (carry HB1.out HZ.out); clear hb)
        | (go_at_call 10; clear HF; refine (HDN.out _).mono ?_; rintro e W2 ⟨rfl, rfl⟩)
        | (go_at_call 9; clear HF2; refine (HRN.out _ HB1.out).mono ?_; rintro e W3 ⟨v3, rfl, hb⟩; have HB3 := Aside0.mk (chain' HB1.out hb); clear k0 k1 k2 k3; obtain ⟨k0, k1, k2, k3⟩ := fourC (carry HB3.out HZ.out); clear hb)
        | (go_at_call 8; refine (HNW.out _).mono ?_; rintro e W4 ⟨f, T, rfl, -, -, hb⟩; have HB4 := Aside0.mk (chain' HB3.out hb); clear k0 k1 k2 k3; obtain ⟨k0, k1, k2, k3⟩ := fourC (carry HB4.out HZ.out); clear hb)
        | (go_at_call 10; refine (HDL.out f _ HB4.out).mono ?_; rintro e W5 ⟨rfl, hb⟩; have HB5 := Aside0.mk (chain' HB4.out hb); clear k0 k1 k2 k3; obtain ⟨k0, k1, k2, k3⟩ := fourC (carry HB5.out HZ.out); clear hb)
        | (go_at_call 9; refine (HRD.out f _ HB5.out).mono ?_; rintro e W6 ⟨rfl, hb⟩; have HB6 := Aside0.mk (chain' HB5.out hb); clear k0 k1 k2 k3; obtain ⟨k0, k1, k2, k3⟩ := fourC (carry HB6.out HZ.out); clear hb)
        | (go_at_call 7; refine (HAN.out _ HB6.out).mono ?_; rintro e W7 ⟨rfl, hb⟩; have HB7 := Aside0.mk (chain' HB6.out hb); clear k0 k1 k2 k3; obtain ⟨k0, k1, k2, k3⟩ := fourC (carry HB7.out HZ.out); clear hb)
        | (go_at_call 14; refine (HMN.out _ HB7.out).mono ?_; rintro e W8 ⟨v8, rfl, hm⟩; obtain ⟨A8, c8, rfl⟩ := own_slice hm.row; have HB8 := Aside0.mk (chain' HB7.out hm.below); clear k0 k1 k2 k3; obtain ⟨k0, k1, k2, k3⟩ := fourC (carry HB8.out HZ.out); clear hm)
        | (go_at_call 11; refine (HUN.out _ HB8.out).mono ?_; rintro e W9 ⟨rfl, hb⟩; have HB9 := Aside0.mk (chain' HB8.out hb); clear k0 k1 k2 k3; obtain ⟨k0, k1, k2, k3⟩ := fourC (carry HB9.out HZ.out); clear hb)
        | (go_at_call 12; clear HF3; refine (HRT.out _ HB9.out).mono ?_; rintro e W10 ⟨rfl, hb⟩; have HB10 := Aside0.mk (chain' HB9.out hb); clear k0 k1 k2 k3; obtain ⟨k0, k1, k2, k3⟩ := fourC (carry HB10.out HZ.out); clear hb)
        | (go_at_call 12; refine (HRT.out _ HB10.out).mono ?_; rintro e W11 ⟨rfl, hb⟩; have HB11 := Aside0.mk (chain' HB10.out hb); clear HB10; have HB10 := HB11; clear HB11; clear k0 k1 k2 k3; obtain ⟨k0, k1, k2, k3⟩ := fourC (carry HB10.out HZ.out); clear hb))
      all_goals go_ret
      all_goals exact ⟨rfl, chain' HBZ.out HB10.out⟩
    | true =>
      obtain ⟨hbx, k, rfl, hk1, hk2⟩ := good_parts ho
      have hroom : Room (Disk.fresh 9999) u k b := ⟨hbx, hk1, hk2, rfl, by decide, by show (b.length : Int) ≤ min (max 9999 0) 16777216 - ((0 : Nat) : Int); omega⟩
      have hnot : (readB (Disk.fresh 9999) u (k : Int)).2 = false := by rw [readB_good hb0 hbx hk1 hk2]; rfl
      have hused : usedL (Disk.fresh 9999) u = 0 := by rw [usedL_sum hb0]; rfl
      have HDL := Aside0.mk (fun (X : World) (f : Nat) (T : Nat → Prop) (X4 : World) (hF : FsAt X f (Disk.fresh 9999) 0 T X4) (hT : ∀ k, T k → X.heap.size ≤ k) (hX : Below z.heap.size z X) =>
        show Calls Tryz.prog 10 #[.pointer (some ⟨f, 0, none⟩), .string (S u), .int .i64 (k : Int), .slice A b.length c, .int .i64 1048576] X4 (fun e W' => e = .returned (.tuple #[.bool true, .int .i64 0]) ∧ ∃ x, ¬ (Disk.fresh 9999).has x ∧ Wrote X f (laidD (Disk.fresh 9999) x u k b) (0 + b.length + 6) T X4 W') from by
          refine (deliverNew hF (by omega) (HGZ.out.below hX) rfl hb0.short u (by omega) (k : Int) ho hnot b (by omega) A b.length c rfl (HRZ.out.below (chain' hX hF.below')) (notIn (HRZ.out.below hX) hT) (fun k' hk' => ?_) 1048576 (by omega) (by rw [hused]; rw [show max (1048576 : Int) 0 = 1048576 from by decide]; omega)).mono ?_
          · obtain rfl : k' = k := by omega
            exact lay_ok hb0 hroom
          · rintro e W' ⟨rfl, x, hx, hw⟩
            refine ⟨rfl, x, hx, ?_⟩
            have e5 := (lay_steps hb0 hroom hx).2.2.2.2.2
            rw [Int.toNat_natCast, e5] at hw
            exact hw)
      have HRD := Aside0.mk (fun (X : World) (f x : Nat) (T : Nat → Prop) (X4 : World) (hx : ¬ (Disk.fresh 9999).has x) (hF : FsAt X f (laidD (Disk.fresh 9999) x u k b) (0 + b.length + 6) T X4) (hX : Below z.heap.size z X) =>
        show Calls Tryz.prog 9 #[.pointer (some ⟨f, 0, none⟩), .string (S u), .int .i64 (k : Int)] X4 (fun e W' => ∃ v, e = .returned (.tuple #[v, .bool true]) ∧ RdOf X4 b v W') from by
          have h := boxReadIs hF (by omega) u (by omega) (k : Int) (HGZ.out.below (chain' hX hF.below'))
          rw [laid_read hb0 hroom hx] at h
          exact h)
      clear ho hb0 hq hu hb hroom hnot hused hbx hk1 hk2
      go_enter Tryz.func5, Tryz.ntmps5
      have HF := Aside0.mk True.intro
      have HF2 := Aside0.mk True.intro
      have HF3 := Aside0.mk True.intro
      go_wp2_with (first
        | (go_at_call 6; (try rw [hY]); refine (HLT.out Y _ _ _ HY.out).mono ?_; rintro e W1 ⟨rfl, hb⟩; have HB1 := Aside0.mk (chain' HBY.out hb); clear k0 k1 k2 k3; obtain ⟨k0, k1, k2, k3⟩ := fourC (carry HB1.out HZ.out); clear hb)
        | (go_at_call 10; clear HF; refine (HDN.out _).mono ?_; rintro e W2 ⟨rfl, rfl⟩)
        | (go_at_call 9; clear HF2; refine (HRN.out _ HB1.out).mono ?_; rintro e W3 ⟨v3, rfl, hb⟩; have HB3 := Aside0.mk (chain' HB1.out hb); clear k0 k1 k2 k3; obtain ⟨k0, k1, k2, k3⟩ := fourC (carry HB3.out HZ.out); clear hb)
        | (go_at_call 8; refine (HNW.out _).mono ?_; rintro e W4 ⟨f, T, rfl, hF, hT, hb⟩; have HB4 := Aside0.mk (chain' HB3.out hb); have HF4 := Aside0.mk hF; have HT4 := Aside0.mk hT; clear k0 k1 k2 k3; obtain ⟨k0, k1, k2, k3⟩ := fourC (carry HB4.out HZ.out); clear hb hF hT)
        | (go_at_call 10; refine (HDL.out W3 f T W4 HF4.out HT4.out HB3.out).mono ?_; rintro e W5 ⟨rfl, x, hx, T5, hF5, hT5⟩; have HX5 := Aside0.mk hx; have HF5 := Aside0.mk hF5; have HB5 := Aside0.mk (chain' HB3.out hF5.below'); clear k0 k1 k2 k3; obtain ⟨k0, k1, k2, k3⟩ := fourC (carry HB5.out HZ.out); clear hx hF5 hT5)
        | (go_at_call 9; refine (HRD.out W3 f x T5 _ HX5.out HF5.out HB3.out).mono ?_; rintro e W6 ⟨v6, rfl, ho⟩; have HB6 := Aside0.mk (chain' HB5.out ho.2); clear k0 k1 k2 k3; obtain ⟨k0, k1, k2, k3⟩ := fourC (carry HB6.out HZ.out); clear ho)
        | (go_at_call 7; refine (HAN.out _ HB6.out).mono ?_; rintro e W7 ⟨rfl, hb⟩; have HB7 := Aside0.mk (chain' HB6.out hb); clear k0 k1 k2 k3; obtain ⟨k0, k1, k2, k3⟩ := fourC (carry HB7.out HZ.out); clear hb)
        | (go_at_call 14; refine (HMN.out _ HB7.out).mono ?_; rintro e W8 ⟨v8, rfl, hm⟩; obtain ⟨A8, c8, rfl⟩ := own_slice hm.row; have HB8 := Aside0.mk (chain' HB7.out hm.below); clear k0 k1 k2 k3; obtain ⟨k0, k1, k2, k3⟩ := fourC (carry HB8.out HZ.out); clear hm)
        | (go_at_call 11; refine (HUN.out _ HB8.out).mono ?_; rintro e W9 ⟨rfl, hb⟩; have HB9 := Aside0.mk (chain' HB8.out hb); clear k0 k1 k2 k3; obtain ⟨k0, k1, k2, k3⟩ := fourC (carry HB9.out HZ.out); clear hb)
        | (go_at_call 12; clear HF3; refine (HRT.out _ HB9.out).mono ?_; rintro e W10 ⟨rfl, hb⟩; have HB10 := Aside0.mk (chain' HB9.out hb); clear k0 k1 k2 k3; obtain ⟨k0, k1, k2, k3⟩ := fourC (carry HB10.out HZ.out); clear hb)
        | (go_at_call 12; refine (HRT.out _ HB10.out).mono ?_; rintro e W11 ⟨rfl, hb⟩; have HB11 := Aside0.mk (chain' HB10.out hb); clear HB10; have HB10 := HB11; clear HB11; clear k0 k1 k2 k3; obtain ⟨k0, k1, k2, k3⟩ := fourC (carry HB10.out HZ.out); clear hb))
      all_goals go_ret
      all_goals exact ⟨rfl, chain' HBZ.out HB10.out⟩
end Go.Proofs.YtilgfpljjjbgdaaGreatDoor.Fs
