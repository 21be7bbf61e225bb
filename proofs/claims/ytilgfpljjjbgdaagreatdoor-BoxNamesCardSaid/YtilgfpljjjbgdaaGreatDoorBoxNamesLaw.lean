/- The law BoxNames, walked. -/
import Derived.Test.YtilgfpljjjbgdaaGreatDoorBoxList
namespace Go.Proofs.YtilgfpljjjbgdaaGreatDoor.Fs
open Go.RowKit Go.Proofs.YtilgfpljjjbgdaaGreatDoor Go.Proofs.YtilgfpljjjbgdaaGreatDoor.Plain Go.Proofs.YtilgfpljjjbgdaaGreatDoorW.PrintWords Go.Maps
set_option linter.unusedVariables false
set_option linter.unusedSimpArgs false
theorem twoOps {X : World} {g : Nat} {o1 o2 : OpD} {t : TypeId} {fr : Nat × Nat} (h : X.heap[g]? = some (.cells #[.string (S o1.box), .int .i64 o1.id, .int .i64 o1.quota, .slice o1.A o1.body.length o1.c, .string (S o2.box), .int .i64 o2.id, .int .i64 o2.quota, .slice o2.A o2.body.length o2.c] t fr)) : OpsAt X (some ⟨g, 0, none⟩) [o1, o2] := by
  intro j hj
  refine ⟨_, rfl, fun i hi => ?_⟩
  have h5 : (⟨g, 0, none⟩ : Addr).add (j * 4 + i) = ⟨g, j * 4 + i, none⟩ := by unfold Addr.add; split <;> simp_all
  rw [h5]
  unfold World.cell?
  simp only []
  rw [h]
  have hj2 : j = 0 ∨ j = 1 := by simp at hj; omega
  have hi4 : i = 0 ∨ i = 1 ∨ i = 2 ∨ i = 3 := by omega
  rcases hj2 with rfl | rfl <;> rcases hi4 with rfl | rfl | rfl | rfl <;> rfl
set_option maxHeartbeats 4000000 in
set_option maxRecDepth 100000 in
theorem boxNames {w : World} (v : Value) (hv : OpOf w v) (v' : Value) (hv' : OpOf w v') (hG : GI w) : Calls Tryz.prog 4 #[v, v'] w fun e w' => e = .returned (.bool true) ∧ Below w.heap.size w w' := by
  obtain ⟨u, n, q, A, c, b, rfl, hr, hn, hq, hul⟩ := hv
  obtain ⟨u', n', q', A', c', b', rfl, hr', hn', hq', hul'⟩ := hv'
  obtain ⟨z, hz⟩ : ∃ z, (w.alloc (.cells #[.string (S u), .int .i64 n, .int .i64 q, .slice A b.length c] 29)).alloc (.cells #[.string (S u'), .int .i64 n', .int .i64 q', .slice A' b'.length c'] 29) = z := ⟨_, rfl⟩
  have HZ := Aside0.mk (show z.heap[w.heap.size]? = some (.cells #[.string (S u), .int .i64 n, .int .i64 q, .slice A b.length c] 29 (0, 0)) by rw [← hz]; exact heapAt rfl (below_alloc (Below.refl _ _) _))
  have HZ2 := Aside0.mk (show z.heap[w.heap.size + 1]? = some (.cells #[.string (S u'), .int .i64 n', .int .i64 q', .slice A' b'.length c'] 29 (0, 0)) by rw [← hz]; exact heapAt (by simp) (Below.refl _ _))
  have HBZ := Aside0.mk (show Below w.heap.size w z by rw [← hz]; exact below_alloc (below_alloc (Below.refl _ _) _) _)
  have HGZ := Aside0.mk (hG.below HBZ.out)
  have HRZ := Aside0.mk (hr.below HBZ.out)
  obtain ⟨k0, k1, k2, k3⟩ := fourC HZ.out
  obtain ⟨j0, j1, j2, j3⟩ := fourC HZ2.out
  have HAN := Aside0.mk (fun (X : World) (hX : Below z.heap.size z X) => boxAnswers X (HGZ.out.below hX))
  have HLT := Aside0.mk (fun (X : World) (h : OpsAt X (some ⟨z.heap.size, 0, none⟩) [⟨u, n, q, A, c, b⟩, ⟨u', n', q', A', c', b'⟩]) => show Calls Tryz.prog 6 #[.slice (some ⟨z.heap.size, 0, none⟩) 2 2] X _ from lightIs (some ⟨z.heap.size, 0, none⟩) 2 [⟨u, n, q, A, c, b⟩, ⟨u', n', q', A', c', b'⟩] (by simp) X h)
  have HLP := Aside0.mk (lightL_true (l := [⟨u, n, q, A, c, b⟩, ⟨u', n', q', A', c', b'⟩]))
  obtain ⟨l, hl⟩ : ∃ l, lightL [⟨u, n, q, A, c, b⟩, ⟨u', n', q', A', c', b'⟩] = l := ⟨_, rfl⟩
  rw [hl] at HLT HLP
  obtain ⟨Y, hY⟩ : ∃ Y, z.alloc (.cells #[.string (S u), .int .i64 n, .int .i64 q, .slice A b.length c, .string (S u'), .int .i64 n', .int .i64 q', .slice A' b'.length c'] 29) = Y := ⟨_, rfl⟩
  have HOP := Aside0.mk (show OpsAt Y (some ⟨z.heap.size, 0, none⟩) [⟨u, n, q, A, c, b⟩, ⟨u', n', q', A', c', b'⟩] by rw [← hY]; exact twoOps (o1 := ⟨u, n, q, A, c, b⟩) (o2 := ⟨u', n', q', A', c', b'⟩) (heapAt rfl (Below.refl _ _)))
  have HBY := Aside0.mk (show Below z.heap.size z Y by rw [← hY]; exact below_alloc (Below.refl _ _) _)
  have HF := Aside0.mk True.intro
  clear hG hr hr' hn hn' hl
  cases l with
  | false =>
    clear hq hul hq' hul' HLP
    go_enter Tryz.func4, Tryz.ntmps4
    go_wp2_with (first
      | (go_at_call 6; (try rw [hY]); refine (HLT.out Y HOP.out).mono ?_; rintro e W1 ⟨rfl, hb⟩; have HB1 := Aside0.mk (chain' HBY.out hb); clear k0 k1 k2 k3 j0 j1 j2 j3; obtain ⟨k0, k1, k2, k3⟩ := fourC (carry HB1.out HZ.out); obtain ⟨j0, j1, j2, j3⟩ := fourC (carry HB1.out HZ2.out); clear hb)
      | (go_at_call 7; refine (HAN.out _ HB1.out).mono ?_; rintro e W9 ⟨rfl, hb⟩; have HB9 := Aside0.mk (chain' HBZ.out (chain' HB1.out hb)); clear hb))
    all_goals go_ret
    all_goals exact ⟨rfl, HB9.out⟩
  | true =>
    have hlp := HLP.out.1 rfl
    have hlp1 := hlp ⟨u, n, q, A, c, b⟩ (by simp)
    have hlp2 := hlp ⟨u', n', q', A', c', b'⟩ (by simp)
    have hu : u.length ≤ 200 := hlp1.2.1
    have hb : b.length ≤ 1000 := hlp1.2.2
    have hu' : u'.length ≤ 200 := hlp2.2.1
    clear hlp hlp1 hlp2 hul hul' HLP
    have HR1 := Aside0.mk (fun (X : World) (hX : Below z.heap.size z X) => lawRight u (by omega) n q A b.length c X (HGZ.out.below hX))
    have HR2 := Aside0.mk (fun (X : World) (hX : Below z.heap.size z X) => lawRight u' (by omega) n' q' A' b'.length c' X (HGZ.out.below hX))
    obtain ⟨o, ho⟩ : ∃ o, goodB u n = o := ⟨_, rfl⟩
    rw [ho] at HR1
    cases o with
    | false =>
      clear ho hu hb hu' hq hq'
      go_enter Tryz.func4, Tryz.ntmps4
      go_wp2_with (first
        | (go_at_call 6; (try rw [hY]); refine (HLT.out Y HOP.out).mono ?_; rintro e W1 ⟨rfl, hb⟩; have HB1 := Aside0.mk (chain' HBY.out hb); clear k0 k1 k2 k3 j0 j1 j2 j3; obtain ⟨k0, k1, k2, k3⟩ := fourC (carry HB1.out HZ.out); obtain ⟨j0, j1, j2, j3⟩ := fourC (carry HB1.out HZ2.out); clear hb)
        | (go_at_call 12; clear HF; refine (HR1.out _ HB1.out).mono ?_; rintro e W2 ⟨rfl, hb⟩; have HB2 := Aside0.mk (chain' HB1.out hb); clear k0 k1 k2 k3 j0 j1 j2 j3; obtain ⟨k0, k1, k2, k3⟩ := fourC (carry HB2.out HZ.out); obtain ⟨j0, j1, j2, j3⟩ := fourC (carry HB2.out HZ2.out); clear hb)
        | (go_at_call 7; refine (HAN.out _ HB2.out).mono ?_; rintro e W9 ⟨rfl, hb⟩; have HB9 := Aside0.mk (chain' HBZ.out (chain' HB2.out hb)); clear hb))
      all_goals go_ret
      all_goals exact ⟨rfl, HB9.out⟩
    | true =>
      obtain ⟨o', ho'⟩ : ∃ o, goodB u' n' = o := ⟨_, rfl⟩
      rw [ho'] at HR2
      cases o' with
      | false =>
        clear ho ho' hu hb hu' hq hq'
        go_enter Tryz.func4, Tryz.ntmps4
        go_wp2_with (first
          | (go_at_call 6; (try rw [hY]); refine (HLT.out Y HOP.out).mono ?_; rintro e W1 ⟨rfl, hb⟩; have HB1 := Aside0.mk (chain' HBY.out hb); clear k0 k1 k2 k3 j0 j1 j2 j3; obtain ⟨k0, k1, k2, k3⟩ := fourC (carry HB1.out HZ.out); obtain ⟨j0, j1, j2, j3⟩ := fourC (carry HB1.out HZ2.out); clear hb)
          | (go_at_call 12; clear HF; refine (HR1.out _ HB1.out).mono ?_; rintro e W2 ⟨rfl, hb⟩; have HB2 := Aside0.mk (chain' HB1.out hb); clear k0 k1 k2 k3 j0 j1 j2 j3; obtain ⟨k0, k1, k2, k3⟩ := fourC (carry HB2.out HZ.out); obtain ⟨j0, j1, j2, j3⟩ := fourC (carry HB2.out HZ2.out); clear hb)
          | (go_at_call 12; refine (HR2.out _ HB2.out).mono ?_; rintro e W3 ⟨rfl, hb⟩; have HB3 := Aside0.mk (chain' HB2.out hb); clear k0 k1 k2 k3 j0 j1 j2 j3; obtain ⟨k0, k1, k2, k3⟩ := fourC (carry HB3.out HZ.out); obtain ⟨j0, j1, j2, j3⟩ := fourC (carry HB3.out HZ2.out); clear hb)
          | (go_at_call 7; refine (HAN.out _ HB3.out).mono ?_; rintro e W9 ⟨rfl, hb⟩; have HB9 := Aside0.mk (chain' HBZ.out (chain' HB3.out hb)); clear hb))
        all_goals go_ret
        all_goals exact ⟨rfl, HB9.out⟩
      | true =>
        have hb0 : BoxD (Disk.fresh 1048576) := box_fresh 1048576
        obtain ⟨hbx, k, rfl, hk1, hk2⟩ := good_parts ho
        have hbx' := (good_parts ho').1
        have hroom : Room (Disk.fresh 1048576) u k b := ⟨hbx, hk1, hk2, rfl, by decide, by show (b.length : Int) ≤ min (max 1048576 0) 16777216 - ((0 : Nat) : Int); omega⟩
        have hnot : (readB (Disk.fresh 1048576) u (k : Int)).2 = false := by rw [readB_good hb0 hbx hk1 hk2]; rfl
        have hused : usedL (Disk.fresh 1048576) u = 0 := by rw [usedL_sum hb0]; rfl
        have HNW := Aside0.mk (fun (X : World) => new (w0 := X) (W := X) (Below.refl _ _) 1048576)
        have HDL := Aside0.mk (fun (X : World) (f : Nat) (T : Nat → Prop) (X4 : World) (hF : FsAt X f (Disk.fresh 1048576) 0 T X4) (hT : ∀ k, T k → X.heap.size ≤ k) (hX : Below z.heap.size z X) =>
          show Calls Tryz.prog 10 #[.pointer (some ⟨f, 0, none⟩), .string (S u), .int .i64 (k : Int), .slice A b.length c, .int .i64 1073741824] X4 (fun e W' => e = .returned (.tuple #[.bool true, .int .i64 0]) ∧ ∃ x, ¬ (Disk.fresh 1048576).has x ∧ Wrote X f (laidD (Disk.fresh 1048576) x u k b) (0 + b.length + 6) T X4 W') from by
            refine (deliverNew hF (by omega) (HGZ.out.below hX) rfl hb0.short u (by omega) (k : Int) ho hnot b (by omega) A b.length c rfl (HRZ.out.below (chain' hX hF.below')) (notIn (HRZ.out.below hX) hT) (fun k' hk' => ?_) 1073741824 (by omega) (by rw [hused, show max (1073741824 : Int) 0 = 1073741824 from by decide]; omega)).mono ?_
            · obtain rfl : k' = k := by omega
              exact lay_ok hb0 hroom
            · rintro e W' ⟨rfl, x, hx, hw⟩
              refine ⟨rfl, x, hx, ?_⟩
              have e5 := (lay_steps hb0 hroom hx).2.2.2.2.2
              rw [Int.toNat_natCast, e5] at hw
              exact hw)
        obtain ⟨F, hFe⟩ : ∃ F, fileN u 43 k = F := ⟨_, rfl⟩
        have HLS := Aside0.mk (fun (X : World) (f x : Nat) (T : Nat → Prop) (X4 : World) (hx : ¬ (Disk.fresh 1048576).has x) (hF : FsAt X f (laidD (Disk.fresh 1048576) x u k b) (0 + b.length + 6) T X4) =>
          show Calls Tryz.prog 13 #[.pointer (some ⟨f, 0, none⟩)] X4 (fun e W' => ∃ A c, e = .returned (.slice A 1 c) ∧ NamesAt W' A [F] ∧ Below X4.heap.size X4 W') from by
            have hbox := laid_box hb0 hroom hx
            have h := list hF (by omega) hbox.1.on.1
            rw [names_perm (p := (fileN u 43 k, x)) hbox.2, hbox.2.length_eq] at h
            refine h.mono ?_
            rintro e W' ⟨v, rfl, hown, hb⟩
            obtain ⟨A6, c6, rfl⟩ := own_slice hown
            have h6 := names_at hown (fun s hs => by rw [List.mem_singleton.1 hs]; exact file_len u (by omega) 43 k)
            rw [← hFe]
            exact ⟨A6, c6, rfl, h6.1, hb⟩)
        obtain ⟨L, hL⟩ : ∃ L : Nat, (if u' = u then 1 else 0) = L := ⟨_, rfl⟩
        have HML := Aside0.mk (fun (X : World) (f x : Nat) (T : Nat → Prop) (X4 : World) (hx : ¬ (Disk.fresh 1048576).has x) (hF : FsAt X f (laidD (Disk.fresh 1048576) x u k b) (0 + b.length + 6) T X4) (hX : Below z.heap.size z X4) =>
          show Calls Tryz.prog 14 #[.pointer (some ⟨f, 0, none⟩), .string (S u')] X4 (fun e W' => ∃ A c, e = .returned (.slice A L c) ∧ Below X4.heap.size X4 W') from by
            have hbox := laid_box hb0 hroom hx
            refine (boxMailsIs hF (by omega) hbox.1.on.1 hbox.1.short u' (by omega) (HGZ.out.below hX)).mono ?_
            rintro e W' ⟨v, rfl, hm⟩
            obtain ⟨A7, c7, rfl⟩ := own_slice hm.row
            have e : (mailsL (laidD (Disk.fresh 1048576) x u k b) u').length = L := by
              unfold mailsL
              rw [names_perm (p := (fileN u 43 k, x)) hbox.2, ← hL]
              by_cases hu2 : u' = u
              · subst hu2
                rw [if_pos rfl, List.filterMap_cons, idOf_file hbx hk1 hk2]
                rfl
              · rw [if_neg hu2, List.filterMap_cons]
                cases hid : idOf u' (fileN u 43 k) with
                | none => rfl
                | some l2 =>
                  obtain ⟨-, -, a2, -, a4, -⟩ := idOf_some hid
                  exact absurd (file_inj hk2 a4 a2).1.symm hu2
            rw [e]
            exact ⟨A7, c7, rfl, hm.below⟩)
        have HDG := Aside0.mk (fun (X : World) => digitsIs10 k hk2 X)
        obtain ⟨D, hD⟩ : ∃ D, digN 9 k = D := ⟨_, rfl⟩
        have hD9 : D.length = 9 := by rw [← hD]; exact digN_length 9 k
        rw [hD] at HDG
        have HE := Aside0.mk (show S u ++ (⟨#[43]⟩ : ByteArray) ++ S D = S F by rw [show (⟨#[43]⟩ : ByteArray) = S [43] from rfl, S_append, S_append, ← hFe, ← hD]; unfold fileN; simp)
        have HFL := Aside0.mk (show F.length ≤ 140737488351232 by rw [← hFe]; exact file_len u (by omega) 43 k)
        have hz1 : (S u).size = u.length := S_size u
        have hz2 : (S D).size = D.length := S_size D
        have c0 : (9223372036854775807 < u.length + 1) = False := by simp; omega
        have c1 : (9223372036854775807 < u.length + 1 + D.length) = False := by simp; omega
        have hcmp : ((u == u') = true ∧ L = 1) ∨ ((u == u') = false ∧ L = 0) := by
          by_cases hu2 : u' = u
          · exact .inl ⟨by simpa using hu2.symm, by rw [← hL, if_pos hu2]⟩
          · exact .inr ⟨by simpa using fun e : u = u' => hu2 e.symm, by rw [← hL, if_neg hu2]⟩
        clear ho ho' hb0 hq hq' hroom hnot hused hbx hbx' hk1 hk2 hL hFe hD hu' hb hD9 hu
        go_enter Tryz.func4, Tryz.ntmps4
        go_wp2_with (first
          | (go_at_call 6; (try rw [hY]); refine (HLT.out Y HOP.out).mono ?_; rintro e W1 ⟨rfl, hb⟩; have HB1 := Aside0.mk (chain' HBY.out hb); clear k0 k1 k2 k3 j0 j1 j2 j3; obtain ⟨k0, k1, k2, k3⟩ := fourC (carry HB1.out HZ.out); obtain ⟨j0, j1, j2, j3⟩ := fourC (carry HB1.out HZ2.out); clear hb)
          | (go_at_call 12; clear HF; refine (HR1.out _ HB1.out).mono ?_; rintro e W2 ⟨rfl, hb⟩; have HB2 := Aside0.mk (chain' HB1.out hb); clear k0 k1 k2 k3 j0 j1 j2 j3; obtain ⟨k0, k1, k2, k3⟩ := fourC (carry HB2.out HZ.out); obtain ⟨j0, j1, j2, j3⟩ := fourC (carry HB2.out HZ2.out); clear hb)
          | (go_at_call 12; refine (HR2.out _ HB2.out).mono ?_; rintro e W3 ⟨rfl, hb⟩; have HB3 := Aside0.mk (chain' HB2.out hb); clear k0 k1 k2 k3 j0 j1 j2 j3; obtain ⟨k0, k1, k2, k3⟩ := fourC (carry HB3.out HZ.out); obtain ⟨j0, j1, j2, j3⟩ := fourC (carry HB3.out HZ2.out); clear hb)
          | (go_at_call 8; refine (HNW.out _).mono ?_; rintro e W4 ⟨f, T, rfl, hF, hT, hb⟩; have HB4 := Aside0.mk (chain' HB3.out hb); have HF4 := Aside0.mk hF; have HT4 := Aside0.mk hT; clear k0 k1 k2 k3 j0 j1 j2 j3; obtain ⟨k0, k1, k2, k3⟩ := fourC (carry HB4.out HZ.out); obtain ⟨j0, j1, j2, j3⟩ := fourC (carry HB4.out HZ2.out); clear hb hF hT)
          | (go_at_call 10; refine (HDL.out W3 f T W4 HF4.out HT4.out HB3.out).mono ?_; rintro e W5 ⟨rfl, x, hx, T5, hF5, hT5⟩; have HX5 := Aside0.mk hx; have HF5 := Aside0.mk hF5; have HB5 := Aside0.mk (chain' HB3.out hF5.below'); clear k0 k1 k2 k3 j0 j1 j2 j3; obtain ⟨k0, k1, k2, k3⟩ := fourC (carry HB5.out HZ.out); obtain ⟨j0, j1, j2, j3⟩ := fourC (carry HB5.out HZ2.out); clear hx hF5 hT5)
          | (go_at_call 13; refine (HLS.out W3 f x T5 _ HX5.out HF5.out).mono ?_; rintro e W6 ⟨A6, c6, rfl, hn6, hb⟩; have HN6 := Aside0.mk hn6; have HF6 := Aside0.mk (HF5.out.step hb); have HB6 := Aside0.mk (chain' HB5.out hb); clear k0 k1 k2 k3 j0 j1 j2 j3; obtain ⟨k0, k1, k2, k3⟩ := fourC (carry HB6.out HZ.out); obtain ⟨j0, j1, j2, j3⟩ := fourC (carry HB6.out HZ2.out); clear hb hn6)
          | (go_at_call 14; refine (HML.out W3 f x T5 _ HX5.out HF6.out HB6.out).mono ?_; rintro e W7 ⟨A7, c7, rfl, hb⟩; have HN7 := Aside0.mk (HN6.out.below hb); have HB7 := Aside0.mk (chain' HB6.out hb); clear k0 k1 k2 k3 j0 j1 j2 j3; obtain ⟨k0, k1, k2, k3⟩ := fourC (carry HB7.out HZ.out); obtain ⟨j0, j1, j2, j3⟩ := fourC (carry HB7.out HZ2.out); clear hb))
        have K0 : W7.cell? ⟨w.heap.size, 0, none⟩ = some (.string (S u)) ∧ W7.cell? ⟨w.heap.size, 1, none⟩ = some (.int .i64 (k : Int)) ∧ W7.cell? ⟨w.heap.size + 1, 0, none⟩ = some (.string (S u')) := ⟨k0, k1, j0⟩
        have HS := Aside0.mk (fun (X : World) (hX : Below W7.heap.size W7 X) => show X.cell? ⟨w.heap.size, 0, none⟩ = some (.string (S u)) ∧ X.cell? ⟨w.heap.size, 1, none⟩ = some (.int .i64 (k : Int)) ∧ X.cell? ⟨w.heap.size + 1, 0, none⟩ = some (.string (S u')) from ⟨pw_cell_below hX K0.1, pw_cell_below hX K0.2.1, pw_cell_below hX K0.2.2⟩)
        clear k0 k1 k2 k3 j0 j1 j2 j3 hz
        rcases hcmp with ⟨hcmp, rfl⟩ | ⟨hcmp, rfl⟩
        all_goals
          go_region_held3 (fun X => X.cell? ⟨w.heap.size, 0, none⟩ = some (.string (S u)) ∧ X.cell? ⟨w.heap.size, 1, none⟩ = some (.int .i64 (k : Int)) ∧ X.cell? ⟨w.heap.size + 1, 0, none⟩ = some (.string (S u')))
            (first | (with_reducible exact K0) | (exact HS.out _ (by repeat (first | exact Below.refl _ _ | exact HC10.out | exact HC9.out | exact HC8.out | apply below_drew1 | refine below_alloc ?_ _))) | go_keep)
            (first
              | (go_at_call 7; with_reducible refine (HAN.out _ (by repeat (first | exact HB7.out | apply below_drew1))).mono ?_; rintro e W8 ⟨rfl, hb⟩; have HC8 := Aside0.mk (chain' (W := W7) (by repeat (first | exact Below.refl _ _ | apply below_drew1)) hb); clear hb)
              | (go_at_call 16; with_reducible refine (HDG.out _).mono ?_; rintro e W9 ⟨rfl, hb⟩; have HC9 := Aside0.mk (chain' (W := W7) (by repeat (first | exact HC8.out | apply below_drew1)) hb); clear hb)
              | (go_at_call 15; refine (texts (l := [F]) (r := [F]) (HN7.out.below (by repeat (first | exact HC9.out | apply below_drew1 | refine below_alloc ?_ _))) (NamesAt.below (names1 (W := W9) F HFL.out #[.string (S u ++ (⟨#[43]⟩ : ByteArray) ++ S D)] 9 (0, 0) (by rw [HE.out])) (by repeat (first | exact Below.refl _ _ | apply below_drew1))) rfl rfl (by simp) (by simp)).mono ?_; rintro e W10 ⟨rfl, hb⟩; have HC10 := Aside0.mk (chain' (W := W7) (by repeat (first | exact HC9.out | apply below_drew1 | refine below_alloc ?_ _)) hb); clear hb))
        all_goals go_wp2
        all_goals go_ret
        all_goals exact ⟨rfl, chain' HBZ.out (chain' HB7.out HC10.out)⟩
end Go.Proofs.YtilgfpljjjbgdaaGreatDoor.Fs
