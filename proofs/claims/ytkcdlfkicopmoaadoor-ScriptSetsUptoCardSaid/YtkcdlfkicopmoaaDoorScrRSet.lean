/- ref27: Set. -/
import Derived.Test.YtkcdlfkicopmoaaDoorScrRSetP
namespace Go.Proofs.YtkcdlfkicopmoaaDoor.Fs
open Go.RowKit Go.Proofs.YtkcdlfkicopmoaaDoor Go.Proofs.YtkcdlfkicopmoaaDoor.Plain Go.Proofs.YtkcdlfkicopmoaaDoorW.PrintWords Go.Maps
set_option linter.unusedVariables false
set_option linter.unusedSimpArgs false
theorem ten10 {X : World} {b : Nat} {c0 c1 c2 c3 c4 c5 c6 c7 c8 c9 : Value} {t : TypeId} {fr : Nat × Nat} (h : X.heap[b]? = some (.cells #[c0, c1, c2, c3, c4, c5, c6, c7, c8, c9] t fr)) : X.cell? ⟨b, 0, none⟩ = some c0 ∧ X.cell? ⟨b, 1, none⟩ = some c1 ∧ X.cell? ⟨b, 2, none⟩ = some c2 ∧ X.cell? ⟨b, 3, none⟩ = some c3 ∧ X.cell? ⟨b, 4, none⟩ = some c4 ∧ X.cell? ⟨b, 5, none⟩ = some c5 ∧ X.cell? ⟨b, 6, none⟩ = some c6 ∧ X.cell? ⟨b, 7, none⟩ = some c7 ∧ X.cell? ⟨b, 8, none⟩ = some c8 ∧ X.cell? ⟨b, 9, none⟩ = some c9 := by
  unfold World.cell?
  simp only []
  rw [h]
  exact ⟨rfl, rfl, rfl, rfl, rfl, rfl, rfl, rfl, rfl, rfl⟩
theorem setInts10 (a0 a1 a2 a3 a4 a5 a6 a7 a8 a9 : Int) : setInts #[.int .i64 0, .int .i64 0, .int .i64 0, .int .i64 0, .int .i64 0, .int .i64 0, .int .i64 0, .int .i64 0, .int .i64 0, .int .i64 0] 0 [a0, a1, a2, a3, a4, a5, a6, a7, a8, a9] = #[.int .i64 a0, .int .i64 a1, .int .i64 a2, .int .i64 a3, .int .i64 a4, .int .i64 a5, .int .i64 a6, .int .i64 a7, .int .i64 a8, .int .i64 a9] := by
  simp [setInts]
set_option maxHeartbeats 4000000 in
set_option maxRecDepth 100000 in
theorem refSetIs (s : Nm) (hs : s.length ≤ 268435456) (w : World) : Calls Tryd.prog 18 #[.string (S s)] w (SetPost w (setP s)) := by
  obtain ⟨z, hz⟩ : ∃ z, w.alloc (.cells #[.string ⟨#[]⟩, .slice none 0 0, .int .i64 0, .int .i64 0, .int .i64 0, .int .i64 0, .int .i64 0, .int .i64 0, .int .i64 0, .int .i64 0, .int .i64 0, .int .i64 0] 32) = z := ⟨_, rfl⟩
  have HZ := Aside0.mk (show z.heap[w.heap.size]? = some (.cells #[.string ⟨#[]⟩, .slice none 0 0, .int .i64 0, .int .i64 0, .int .i64 0, .int .i64 0, .int .i64 0, .int .i64 0, .int .i64 0, .int .i64 0, .int .i64 0, .int .i64 0] 32 (0, 0)) by rw [← hz]; exact heapAt rfl (Below.refl _ _))
  have HB0 := Aside0.mk (show Below w.heap.size w z by rw [← hz]; exact below_alloc (Below.refl _ _) _)
  obtain ⟨k0, k1, k2, k3, k4, k5, k6, k7, k8, k9, k10, k11⟩ := confCells HZ.out
  obtain ⟨f0, f1, f2, f3, f4, f5, f6, f7, f8, f9, f10, f11⟩ := frozen12 HZ.out
  by_cases hne : s = []
  · subst hne
    have HX := Aside0.mk setP_nil
    go_enter Tryd.func18, Tryd.ntmps18
    go_wp2
    refine bodyPost_ret (resConf rfl _ rfl (set12 HZ.out)) rfl ?_
    rw [HX.out]
    exact ⟨(Below.setCell (Below.setCell (Below.setCell (Below.setCell (Below.setCell (Below.setCell (Below.setCell (Below.setCell (Below.setCell (Below.setCell (Below.setCell (Below.setCell HB0.out (Nat.le_refl _) _) (Nat.le_refl _) _) (Nat.le_refl _) _) (Nat.le_refl _) _) (Nat.le_refl _) _) (Nat.le_refl _) _) (Nat.le_refl _) _) (Nat.le_refl _) _) (Nat.le_refl _) _) (Nat.le_refl _) _) (Nat.le_refl _) _) (Nat.le_refl _) _), none, 0, rfl, fun j hj => by cases hj⟩
  · have hsd := List.dropLast_concat_getLast hne
    obtain ⟨x, hx⟩ : ∃ x, s.dropLast = x := ⟨_, rfl⟩
    obtain ⟨b, hb⟩ : ∃ b, s.getLast hne = b := ⟨_, rfl⟩
    rw [hx, hb] at hsd
    clear hx hb hne
    subst hsd
    have hxl : x.length ≤ 268435455 := by simp at hs; omega
    obtain ⟨u, hu⟩ : ∃ u, x ++ [b] = u := ⟨_, rfl⟩
    have hul : u.length = x.length + 1 := by rw [← hu]; simp
    have hg : ∀ pf, (S u)[x.length]'pf = b := by
      intro pf
      have : u[x.length]'(by rw [hul]; omega) = b := by simp [← hu]
      exact this
    have hsl : (S u).extract 0 x.length = S x := by rw [S_extract, ← hu]; simp
    have hn0 : (((x.length : Nat) : Int) + 1 == 0) = false := by simp only [beq_eq_false_iff_ne, ne_eq]; omega
    by_cases h10 : b = 10
    · subst h10
      have XC := Aside0.mk (show Calls Tryd.prog 34 #[.string (S x), .int .u8 32] z (fun e W' => ∃ v, e = .returned v ∧ SRow z v (cuts 32 x) W') from refCutIs x (by omega) 32 z)
      have HML := Aside0.mk (fun p (hp : p ∈ cuts 32 x) => Nat.le_trans (cuts_mem_length hp) hxl)
      have hcl := cuts_length 32 x
      rw [hu] at hs ⊢
      by_cases h12 : (cuts 32 x).length < 12
      · have HX := Aside0.mk (show setP u = none by rw [← hu]; exact setP_short h12)
        have HPL := Aside0.mk (fun p (hp : p ∈ cuts 32 x) => Nat.le_trans (HML.out p hp) (show 268435455 ≤ 140737488351232 by omega))
        obtain ⟨ps, hps⟩ : ∃ ps, cuts 32 x = ps := ⟨_, rfl⟩
        rw [hps] at XC h12 HPL
        clear hps hcl hu HML
        go_enter Tryd.func18, Tryd.ntmps18
        go_wp2_with (go_at_call 34; (try rw [hz]); refine XC.out.mono ?_; rintro e W1 ⟨v, rfl, hr⟩; obtain ⟨A1, c1, rfl⟩ := hr.slice; have hz5 := carry hr.below HZ.out; clear k0 k1 k2 k3 k4 k5 k6 k7 k8 k9 k10 k11 f0 f1 f2 f3 f4 f5 f6 f7 f8 f9 f10 f11; obtain ⟨k0, k1, k2, k3, k4, k5, k6, k7, k8, k9, k10, k11⟩ := confCells hz5; obtain ⟨f0, f1, f2, f3, f4, f5, f6, f7, f8, f9, f10, f11⟩ := frozen12 hz5; have HZ5 := Aside0.mk hz5; have HB5 := Aside0.mk (chain' HB0.out hr.below); clear hr hz5)
        refine bodyPost_ret (resConf rfl _ rfl (set12 HZ5.out)) rfl ?_
        rw [HX.out]
        exact ⟨(Below.setCell (Below.setCell (Below.setCell (Below.setCell (Below.setCell (Below.setCell (Below.setCell (Below.setCell (Below.setCell (Below.setCell (Below.setCell (Below.setCell HB5.out (Nat.le_refl _) _) (Nat.le_refl _) _) (Nat.le_refl _) _) (Nat.le_refl _) _) (Nat.le_refl _) _) (Nat.le_refl _) _) (Nat.le_refl _) _) (Nat.le_refl _) _) (Nat.le_refl _) _) (Nat.le_refl _) _) (Nat.le_refl _) _) (Nat.le_refl _) _), none, 0, rfl, fun j hj => by cases hj⟩
      · obtain ⟨p0, p1, p2, p3, p4, p5, p6, p7, p8, p9, p10, p11, qs, hc⟩ := twelve (cuts 32 x) (by omega)
        have HBAD := Aside0.mk (fun h => show setP u = none by rw [← hu]; exact setP_bad (by omega) hc h)
        have HMAKE := Aside0.mk (fun h1 h2 h3 h4 h5 => show setP u = some ⟨unhexT p10, qs.map unhexT, numV p0, numV p1, numV p2, numV p3, numV p4, numV p5, numV p6, numV p7, numV p8, numV p9⟩ by rw [← hu]; exact setP_make hc h1 h2 h3 h4 h5)
        rw [hc] at XC HML hcl
        obtain ⟨ps, hps⟩ : ∃ ps, (p0 :: p1 :: p2 :: p3 :: p4 :: p5 :: p6 :: p7 :: p8 :: p9 :: p10 :: p11 :: qs) = ps := ⟨_, rfl⟩
        have HG := Aside0.mk hps
        have hpn : ps.length = qs.length + 12 := by rw [← hps]; simp
        have hql : qs.length ≤ 268435456 := by simp only [List.length_cons] at hcl; omega
        rw [hps] at XC HML
        have HPL := Aside0.mk (show ∀ p ∈ ps, p.length ≤ 140737488351232 from fun p hp => Nat.le_trans (HML.out p hp) (by omega))
        have XN := Aside0.mk (fun p (hp : p ∈ ps) X => refNumberIs p (Nat.le_trans (HML.out p hp) (by omega)) X)
        have XT := Aside0.mk (fun p (hp : p ∈ ps) X => refTextIs p (Nat.le_trans (HML.out p hp) (by omega)) X)
        have hn12 : ¬ ((ps.length : Int) < 12) := by omega
        clear hps hcl hu hc HML h12
        go_enter Tryd.func18, Tryd.ntmps18
        go_wp2_with (go_at_call 34; (try rw [hz]); refine XC.out.mono ?_; rintro e W1 ⟨v, rfl, hr⟩; obtain ⟨A1, c1, rfl⟩ := hr.slice; have HN1 := Aside0.mk (hr.at_ HPL.out); have HB1 := Aside0.mk hr.below; clear hr)
        go_loopw [6, 7, 8] (fun v6 v7 v8 wr => ∃ i : Nat, i ≤ 10 ∧ v6 = .int .i64 i ∧ Aside0 (∀ j (hj : j < ps.length), j < i → numO ps[j] = true) ∧ Aside0 (Below W1.heap.size W1 wr) ∧ Aside0 (wr.heap[W1.heap.size]? = some (.cells (setInts #[.int .i64 0, .int .i64 0, .int .i64 0, .int .i64 0, .int .i64 0, .int .i64 0, .int .i64 0, .int .i64 0, .int .i64 0, .int .i64 0] 0 ((ps.take i).map numV)) 66 (0, 0)))) (fun v6 _ _ _ => 10 - (intOf v6).toNat)
        case atStart => exact ⟨0, by omega, rfl, ⟨fun j hj h => by omega⟩, ⟨below_alloc (Below.refl _ _) _⟩, ⟨heapAt rfl (Below.refl _ _)⟩⟩
        case round =>
          obtain ⟨i, hi, rfl, HA, HB, HC⟩ := hrel
          by_cases hlt : i < 10
          · have hlt2 : i < ps.length := by omega
            obtain ⟨ad, hA1, hcell, -⟩ := (HN1.out.below HB.out) i hlt2
            have HT := Aside0.mk (show (ps.take (i + 1)).map numV = (ps.take i).map numV ++ [numV ps[i]] from map_take_succ _ hlt2)
            have HLN := Aside0.mk (show ((ps.take i).map numV).length = i by rw [List.length_map, List.length_take]; omega)
            have HX := Aside0.mk (show numO ps[i] = false → setP u = none from fun h => HBAD.out (fun hall => by
              have hg := HG.out
              subst hg
              have h10 : (p0 :: p1 :: p2 :: p3 :: p4 :: p5 :: p6 :: p7 :: p8 :: p9 :: p10 :: p11 :: qs)[i]'hlt2 ∈ [p0, p1, p2, p3, p4, p5, p6, p7, p8, p9] := by
                have : i = 0 ∨ i = 1 ∨ i = 2 ∨ i = 3 ∨ i = 4 ∨ i = 5 ∨ i = 6 ∨ i = 7 ∨ i = 8 ∨ i = 9 := by omega
                rcases this with rfl | rfl | rfl | rfl | rfl | rfl | rfl | rfl | rfl | rfl <;> simp
              have := hall.1 _ h10
              rw [h] at this
              cases this))
            have HA2 := Aside0.mk (show numO ps[i] = true → ∀ j (hj : j < ps.length), j < i + 1 → numO ps[j] = true from fun h j hj h2 => by
              by_cases e : j < i
              · exact HA.out j hj e
              · obtain rfl : j = i := by omega
                exact h)
            have XN1 := XN.out _ (List.getElem_mem hlt2) wr
            obtain ⟨p, hp⟩ : ∃ p, ps[i] = p := ⟨_, rfl⟩
            subst hA1
            rw [hp] at hcell HT HX HA2 XN1
            obtain ⟨v, hv⟩ : ∃ v, numV p = v := ⟨_, rfl⟩
            obtain ⟨o, ho⟩ : ∃ o, numO p = o := ⟨_, rfl⟩
            rw [hv] at HT XN1
            rw [ho] at HX HA2 XN1
            have hc := HC.out
            obtain ⟨⟨u0, hu0⟩, hfz⟩ := cellOfBlock (i := 0 + i) hc (by rw [setInts_size]; show 0 + i < 10; omega)
            rw [Nat.zero_add] at hu0 hfz
            have HHC := Aside0.mk hc
            have HZW := Aside0.mk (carry (HB1.out.trans (HB.out.mono HB1.out.size)) HZ.out)
            have hz0 := confCells HZW.out
            have hf0 := frozen12 HZW.out
            have HBW := Aside0.mk (chain' (chain' HB0.out HB1.out) HB.out)
            clear hp hv ho hc HC HA hz k0 k1 k2 k3 k4 k5 k6 k7 k8 k9 k10 k11 f0 f1 f2 f3 f4 f5 f6 f7 f8 f9 f10 f11 hg hsl hn0
            obtain ⟨k0, k1, k2, k3, k4, k5, k6, k7, k8, k9, k10, k11⟩ := hz0
            obtain ⟨f0, f1, f2, f3, f4, f5, f6, f7, f8, f9, f10, f11⟩ := hf0
            cases o with
            | false =>
              go_wp2_with (go_at_call 35; refine XN1.mono ?_; rintro e W2 ⟨rfl, rfl⟩; clear XN1)
              refine bodyPost_ret (resConf rfl _ rfl (set12 HZW.out)) rfl ?_
              rw [HX.out (by trivial)]
              exact ⟨(Below.setCell (Below.setCell (Below.setCell (Below.setCell (Below.setCell (Below.setCell (Below.setCell (Below.setCell (Below.setCell (Below.setCell (Below.setCell (Below.setCell HBW.out (Nat.le_refl _) _) (Nat.le_refl _) _) (Nat.le_refl _) _) (Nat.le_refl _) _) (Nat.le_refl _) _) (Nat.le_refl _) _) (Nat.le_refl _) _) (Nat.le_refl _) _) (Nat.le_refl _) _) (Nat.le_refl _) _) (Nat.le_refl _) _) (Nat.le_refl _) _), none, 0, rfl, fun j hj => by cases hj⟩
            | true =>
              clear k0 k1 k2 k3 k4 k5 k6 k7 k8 k9 k10 k11 f0 f1 f2 f3 f4 f5 f6 f7 f8 f9 f10 f11
              go_wp2_with (go_at_call 35; refine XN1.mono ?_; rintro e W2 ⟨rfl, rfl⟩; clear XN1)
              refine ⟨⟨i + 1, by omega, by go_num, ⟨HA2.out (by trivial)⟩, ⟨Below.setCell HB.out (Nat.le_refl _) _⟩, ⟨?_⟩⟩, by simp [intOf] <;> omega⟩
              rw [HT.out, setInts_snoc, HLN.out, Nat.zero_add]
              exact heap_setCell_same _ _ _ _ _ _ HHC.out
          · obtain rfl : i = 10 := by omega
            have hg10 := HG.out
            subst hg10
            have hc10 : wr.heap[W1.heap.size]? = some (.cells #[.int .i64 (numV p0), .int .i64 (numV p1), .int .i64 (numV p2), .int .i64 (numV p3), .int .i64 (numV p4), .int .i64 (numV p5), .int .i64 (numV p6), .int .i64 (numV p7), .int .i64 (numV p8), .int .i64 (numV p9)] 66 (0, 0)) := by
              have h := HC.out
              rw [show ((p0 :: p1 :: p2 :: p3 :: p4 :: p5 :: p6 :: p7 :: p8 :: p9 :: p10 :: p11 :: qs).take 10).map numV = [numV p0, numV p1, numV p2, numV p3, numV p4, numV p5, numV p6, numV p7, numV p8, numV p9] from rfl, setInts10] at h
              exact h
            have hall : ∀ p ∈ [p0, p1, p2, p3, p4, p5, p6, p7, p8, p9], numO p = true := by
              intro p hp
              simp only [List.mem_cons, List.not_mem_nil, or_false] at hp
              rcases hp with rfl | rfl | rfl | rfl | rfl | rfl | rfl | rfl | rfl | rfl
              · exact HA.out 0 (by simp) (by omega)
              · exact HA.out 1 (by simp) (by omega)
              · exact HA.out 2 (by simp) (by omega)
              · exact HA.out 3 (by simp) (by omega)
              · exact HA.out 4 (by simp) (by omega)
              · exact HA.out 5 (by simp) (by omega)
              · exact HA.out 6 (by simp) (by omega)
              · exact HA.out 7 (by simp) (by omega)
              · exact HA.out 8 (by simp) (by omega)
              · exact HA.out 9 (by simp) (by omega)
            have HOK2 := Aside0.mk (HMAKE.out hall)
            have HNO2 := Aside0.mk (show (unhexO p10 = false ∨ numO p11 = false ∨ numV p11 ≠ (qs.length : Int) ∨ ∃ q ∈ qs, unhexO q = false) → setP u = none from fun h => HBAD.out (fun g => by
              obtain ⟨-, g1, g2, g3, g4⟩ := g
              rcases h with h | h | h | ⟨q, hq, h⟩
              · rw [h] at g1; cases g1
              · rw [h] at g2; cases g2
              · exact h g3
              · rw [g4 q hq] at h; cases h))
            have hnw := HN1.out.below HB.out
            obtain ⟨ad, hA1, hcell, -⟩ := hnw 10 (by simp)
            obtain ⟨ad', hA2, hcell', -⟩ := hnw 11 (by simp)
            subst hA1
            cases hA2
            have q10 : wr.cell? ⟨ad.block, ad.off + 10, none⟩ = some (.string (S p10)) := hcell
            have q11 : wr.cell? ⟨ad.block, ad.off + 11, none⟩ = some (.string (S p11)) := hcell'
            have Q11 := Aside0.mk q11
            have HZW := Aside0.mk (carry (HB1.out.trans (HB.out.mono HB1.out.size)) HZ.out)
            have HBW := Aside0.mk (chain' (chain' HB0.out HB1.out) HB.out)
            have HNW := Aside0.mk hnw
            have HSW := Aside0.mk (show w.heap.size < wr.heap.size from (Array.getElem?_eq_some_iff.1 HZW.out).1)
            have X10 := Aside0.mk (XT.out p10 (by simp))
            have X11 := Aside0.mk (XN.out p11 (by simp))
            have hqn : (p0 :: p1 :: p2 :: p3 :: p4 :: p5 :: p6 :: p7 :: p8 :: p9 :: p10 :: p11 :: qs).length = qs.length + 12 := by simp
            have HQB := Aside0.mk (show ∀ q ∈ qs, q.length ≤ 140737488351232 from fun q hq => HPL.out q (by simp [hq]))
            have XQ := Aside0.mk (show ∀ q ∈ qs, ∀ X, _ from fun q hq => XT.out q (by simp [hq]))
            obtain ⟨H, hH⟩ : ∃ H, unhexT p10 = H := ⟨_, rfl⟩
            obtain ⟨o1, ho1⟩ : ∃ o, unhexO p10 = o := ⟨_, rfl⟩
            obtain ⟨N, hN⟩ : ∃ N, numV p11 = N := ⟨_, rfl⟩
            obtain ⟨o2, ho2⟩ : ∃ o, numO p11 = o := ⟨_, rfl⟩
            rw [hH, ho1] at X10
            rw [hN, ho2] at X11
            rw [hH, ho1, hN, ho2] at HOK2
            rw [ho1, hN, ho2] at HNO2
            obtain ⟨a0, h0⟩ : ∃ a, numV p0 = a := ⟨_, rfl⟩
            obtain ⟨a1, h1⟩ : ∃ a, numV p1 = a := ⟨_, rfl⟩
            obtain ⟨a2, h2⟩ : ∃ a, numV p2 = a := ⟨_, rfl⟩
            obtain ⟨a3, h3⟩ : ∃ a, numV p3 = a := ⟨_, rfl⟩
            obtain ⟨a4, h4⟩ : ∃ a, numV p4 = a := ⟨_, rfl⟩
            obtain ⟨a5, h5⟩ : ∃ a, numV p5 = a := ⟨_, rfl⟩
            obtain ⟨a6, h6⟩ : ∃ a, numV p6 = a := ⟨_, rfl⟩
            obtain ⟨a7, h7⟩ : ∃ a, numV p7 = a := ⟨_, rfl⟩
            obtain ⟨a8, h8⟩ : ∃ a, numV p8 = a := ⟨_, rfl⟩
            obtain ⟨a9, h9⟩ : ∃ a, numV p9 = a := ⟨_, rfl⟩
            rw [h0, h1, h2, h3, h4, h5, h6, h7, h8, h9] at hc10 HOK2
            have HC3 := Aside0.mk hc10
            clear hH ho1 hN ho2 h0 h1 h2 h3 h4 h5 h6 h7 h8 h9 hcell hcell' hc10 hall HC HA HMAKE HBAD hz hnw q11 k0 k1 k2 k3 k4 k5 k6 k7 k8 k9 k10 k11 f0 f1 f2 f3 f4 f5 f6 f7 f8 f9 f10 f11 hg hsl hn0 HN1 XT XN HPL HG XC HZ hlt
            obtain ⟨psl, hpsl⟩ : ∃ psl, (p0 :: p1 :: p2 :: p3 :: p4 :: p5 :: p6 :: p7 :: p8 :: p9 :: p10 :: p11 :: qs) = psl := ⟨_, rfl⟩
            rw [hpsl] at HNW hpn hn12 hqn ⊢
            have HPS := Aside0.mk hpsl
            clear hpsl hqn
            by_cases hbad : o1 = false ∨ o2 = false ∨ N ≠ (qs.length : Int)
            · have HX := Aside0.mk (HNO2.out (by rcases hbad with h | h | h; exact .inl h; exact .inr (.inl h); exact .inr (.inr (.inl h))))
              have hcs : (o1 = false) ∨ (o1 = true ∧ o2 = false) ∨ (o1 = true ∧ o2 = true ∧ (N != (qs.length : Int)) = true) := by
                cases o1 <;> cases o2 <;> simp at hbad ⊢
                exact hbad
              clear hbad HNO2 HOK2
              rcases hcs with rfl | ⟨rfl, rfl⟩ | ⟨rfl, rfl, hNm⟩
              all_goals
                go_wp2_with (first
                  | (go_at_call 36; refine (X10.out _).mono ?_; rintro e W2 ⟨rfl, hb⟩; have hz5 := carry hb HZW.out; obtain ⟨k0, k1, k2, k3, k4, k5, k6, k7, k8, k9, k10, k11⟩ := confCells hz5; obtain ⟨f0, f1, f2, f3, f4, f5, f6, f7, f8, f9, f10, f11⟩ := frozen12 hz5; obtain ⟨t0, t1, t2, t3, t4, t5, t6, t7, t8, t9⟩ := ten10 (carry hb HC3.out); have r11 := pw_cell_below hb Q11.out; have HZ5 := Aside0.mk hz5; have HN5 := Aside0.mk (HNW.out.below hb); have HS5 := Aside0.mk (Nat.lt_of_lt_of_le HSW.out hb.size); have HB5 := Aside0.mk (chain' HBW.out hb); clear hb hz5)
                  | (go_at_call 35; refine (X11.out _).mono ?_; rintro e W3 ⟨rfl, rfl⟩))
                refine bodyPost_ret (resConf rfl _ rfl (set12 HZ5.out)) rfl ?_
                rw [HX.out]
                exact ⟨(Below.setCell (Below.setCell (Below.setCell (Below.setCell (Below.setCell (Below.setCell (Below.setCell (Below.setCell (Below.setCell (Below.setCell (Below.setCell (Below.setCell HB5.out (Nat.le_refl _) _) (Nat.le_refl _) _) (Nat.le_refl _) _) (Nat.le_refl _) _) (Nat.le_refl _) _) (Nat.le_refl _) _) (Nat.le_refl _) _) (Nat.le_refl _) _) (Nat.le_refl _) _) (Nat.le_refl _) _) (Nat.le_refl _) _) (Nat.le_refl _) _), none, 0, rfl, fun j hj => by cases hj⟩
            · have hgood : o1 = true ∧ o2 = true ∧ N = (qs.length : Int) := by
                refine ⟨?_, ?_, ?_⟩
                · cases o1 <;> simp at hbad ⊢
                · cases o2 <;> simp at hbad ⊢
                · by_cases h : N = (qs.length : Int)
                  · exact h
                  · exact absurd (.inr (.inr h)) hbad
              obtain ⟨rfl, rfl, rfl⟩ := hgood
              have hNm : (((qs.length : Nat) : Int) != (qs.length : Int)) = false := by simp
              have HOK3 := Aside0.mk (HOK2.out rfl rfl rfl)
              have HNO3 := Aside0.mk (fun q hq h => HNO2.out (.inr (.inr (.inr ⟨q, hq, h⟩))))
              clear hbad HOK2 HNO2
              go_wp2_with (first
                | (go_at_call 36; refine (X10.out _).mono ?_; rintro e W2 ⟨rfl, hb⟩; have hz5 := carry hb HZW.out; obtain ⟨k0, k1, k2, k3, k4, k5, k6, k7, k8, k9, k10, k11⟩ := confCells hz5; obtain ⟨f0, f1, f2, f3, f4, f5, f6, f7, f8, f9, f10, f11⟩ := frozen12 hz5; obtain ⟨t0, t1, t2, t3, t4, t5, t6, t7, t8, t9⟩ := ten10 (carry hb HC3.out); have r11 := pw_cell_below hb Q11.out; have HZ5 := Aside0.mk hz5; have HN5 := Aside0.mk (HNW.out.below hb); have HS5 := Aside0.mk (Nat.lt_of_lt_of_le HSW.out hb.size); have HB5 := Aside0.mk (chain' HBW.out hb); clear hb hz5)
                | (go_at_call 35; refine (X11.out _).mono ?_; rintro e W3 ⟨rfl, rfl⟩))
              obtain ⟨w1, hw1⟩ : ∃ w1, W3.alloc (.cells #[.string (S H), .slice none 0 0, .int .i64 a0, .int .i64 a1, .int .i64 a2, .int .i64 a3, .int .i64 a4, .int .i64 a5, .int .i64 a6, .int .i64 a7, .int .i64 a8, .int .i64 a9] 32) = w1 := ⟨_, rfl⟩
              have HB1' := Aside0.mk (show Below w.heap.size w w1 by rw [← hw1]; exact below_alloc HB5.out _)
              have HC1 := Aside0.mk (show w1.heap[W3.heap.size]? = some (.cells #[.string (S H), .slice none 0 0, .int .i64 a0, .int .i64 a1, .int .i64 a2, .int .i64 a3, .int .i64 a4, .int .i64 a5, .int .i64 a6, .int .i64 a7, .int .i64 a8, .int .i64 a9] 32 (0, 0)) by rw [← hw1]; exact heapAt rfl (Below.refl _ _))
              have HZ1 := Aside0.mk (show w1.heap[w.heap.size]? = some (.cells #[.string ⟨#[]⟩, .slice none 0 0, .int .i64 0, .int .i64 0, .int .i64 0, .int .i64 0, .int .i64 0, .int .i64 0, .int .i64 0, .int .i64 0, .int .i64 0, .int .i64 0] 32 (0, 0)) by rw [← hw1]; exact carry (below_alloc (Below.refl _ _) _) HZ5.out)
              have HN2 := Aside0.mk (show NamesAt w1 (some ad) psl by rw [← hw1]; exact HN5.out.below (below_alloc (Below.refl _ _) _))
              have HNE := Aside0.mk (show ∀ a, some ad = some a → a.block ≠ W3.heap.size from fun a e => by
                cases e
                obtain ⟨ad2, e2, h2, -⟩ := HN5.out 0 (by rw [hpn]; omega)
                cases e2
                have := World.block_lt_of_cell? _ _ h2
                rw [blockOf_add] at this
                omega)
              have HSZ := Aside0.mk ((Array.getElem?_eq_some_iff.1 HC1.out).1)
              try rw [hw1]
              clear hw1 hNm t0 t1 t2 t3 t4 t5 t6 t7 t8 t9 r11 q10 k0 k1 k2 k3 k4 k5 k6 k7 k8 k9 k10 k11 f0 f1 f2 f3 f4 f5 f6 f7 f8 f9 f10 f11 HZ5 HN5 HC3 HZW HNW HBW Q11 X10 X11
              go_loopw [14, 15, 16] (fun v14 v15 v16 wr => ∃ (i k : Nat) (v : Value), i ≤ qs.length ∧ k ≤ qs.length + 12 ∧ v14 = .int .i64 (k : Int) ∧ Aside0 (k = i + 12) ∧ Aside0 (wr.ownsRow w1.heap.size 9 1 v ((qs.take i).map unhexT).length (strs ((qs.take i).map unhexT))) ∧ Aside0 (Apart W3.heap.size w1 wr) ∧ Aside0 (Below w.heap.size w wr) ∧ Aside0 (wr.heap[W3.heap.size]? = some (.cells #[.string (S H), v, .int .i64 a0, .int .i64 a1, .int .i64 a2, .int .i64 a3, .int .i64 a4, .int .i64 a5, .int .i64 a6, .int .i64 a7, .int .i64 a8, .int .i64 a9] 32 (0, 0))) ∧ Aside0 (∀ j (hj : j < qs.length), j < i → unhexO qs[j] = true)) (fun v14 _ _ _ => qs.length + 12 - (intOf v14).toNat)
              case atStart => exact ⟨0, 12, .slice none 0 0, by omega, by omega, rfl, ⟨rfl⟩, ⟨World.ownsRow_nil _ _ _ _⟩, ⟨Apart.refl _ _⟩, HB1', HC1, ⟨fun j hj h => by omega⟩⟩
              case round =>
                obtain ⟨i, k, v, hi, hk, rfl, HK, HR, HAP, HB, HC, HA⟩ := hrel
                have hki := HK.out
                have hs5 := HS5.out
                by_cases hlt : i < qs.length
                · have hlp : k < psl.length := by omega
                  have hkl : k < qs.length + 12 := by omega
                  obtain ⟨ad2, hA2, hcell, -⟩ := (HAP.out.names HN2.out HNE.out) k hlp
                  cases hA2
                  have hpi : psl[k] = qs[i] := by
                    have hp := HPS.out
                    subst hp hki
                    rfl
                  rw [hpi] at hcell
                  have HZW := Aside0.mk ((HAP.out.block _ (Array.getElem?_eq_some_iff.1 HZ1.out).1 (by omega)).trans HZ1.out)
                  have HT := Aside0.mk (show (qs.take (i + 1)).map unhexT = (qs.take i).map unhexT ++ [unhexT qs[i]] from map_take_succ _ hlt)
                  have HX := Aside0.mk (HNO3.out _ (List.getElem_mem hlt))
                  have HA2 := Aside0.mk (show unhexO qs[i] = true → ∀ j (hj : j < qs.length), j < i + 1 → unhexO qs[j] = true from fun h j hj h2 => by
                    by_cases e : j < i
                    · exact HA.out j hj e
                    · obtain rfl : j = i := by omega
                      exact h)
                  have XV := Aside0.mk (XQ.out _ (List.getElem_mem hlt))
                  obtain ⟨q, hq2⟩ : ∃ q, qs[i] = q := ⟨_, rfl⟩
                  rw [hq2] at hcell HT HX HA2 XV
                  obtain ⟨y, hy⟩ : ∃ y, unhexT q = y := ⟨_, rfl⟩
                  obtain ⟨o, ho⟩ : ∃ o, unhexO q = o := ⟨_, rfl⟩
                  rw [hy] at HT XV
                  rw [ho] at HX HA2 XV
                  have HLE := Aside0.mk (show ((qs.take i).map unhexT).length ≤ 8796093022207 by rw [List.length_map, List.length_take]; omega)
                  obtain ⟨l0, hl0⟩ : ∃ l0, (qs.take i).map unhexT = l0 := ⟨_, rfl⟩
                  rw [hl0] at HR HT HLE
                  clear hq2 hy ho hl0 hpi hlp HA hki
                  cases o with
                  | false =>
                    go_wp2_with (go_at_call 36; refine (XV.out _).mono ?_; rintro e W6 ⟨rfl, hb⟩; have hz5 := carry hb HZW.out; obtain ⟨k0, k1, k2, k3, k4, k5, k6, k7, k8, k9, k10, k11⟩ := confCells hz5; obtain ⟨f0, f1, f2, f3, f4, f5, f6, f7, f8, f9, f10, f11⟩ := frozen12 hz5; have HZ5 := Aside0.mk hz5; have HB5 := Aside0.mk (chain' HB.out hb); clear hb hz5 hcell)
                    refine bodyPost_ret (resConf rfl _ rfl (set12 HZ5.out)) rfl ?_
                    rw [HX.out (by trivial)]
                    exact ⟨(Below.setCell (Below.setCell (Below.setCell (Below.setCell (Below.setCell (Below.setCell (Below.setCell (Below.setCell (Below.setCell (Below.setCell (Below.setCell (Below.setCell HB5.out (Nat.le_refl _) _) (Nat.le_refl _) _) (Nat.le_refl _) _) (Nat.le_refl _) _) (Nat.le_refl _) _) (Nat.le_refl _) _) (Nat.le_refl _) _) (Nat.le_refl _) _) (Nat.le_refl _) _) (Nat.le_refl _) _) (Nat.le_refl _) _) (Nat.le_refl _) _), none, 0, rfl, fun j hj => by cases hj⟩
                  | true =>
                    go_wp2_with (first
                      | (go_at_call 36; refine (XV.out _).mono ?_; rintro e W6 ⟨rfl, hb⟩; have hc6 := carry hb HC.out; have k1 := (confCells hc6).2.1; have HB6 := Aside0.mk hb; have HC6 := Aside0.mk hc6; clear hb hc6 hcell)
                      | (at_builtin; refine appendA (own_move HR.out (fun k hk => (below_alloc HB6.out _).block k (HR.out.lt k hk).2)) (Nat.le_trans (Nat.le_trans HAP.out.size HB6.out.size) (by simp)) y HLE.out rfl _ _ rfl rfl _ 1 rfl (cell_one_new _ _ _) ?_; rintro v1 W7 ho hb7; obtain ⟨n1, hn1⟩ : ∃ n1, (l0 ++ [y]).length = n1 := ⟨_, rfl⟩; rw [hn1] at ho; obtain ⟨A1, cp1, hv1⟩ := own_slice ho; subst hv1; have HN1 := Aside0.mk hn1; clear hn1; have hc7 := (hb7.block _ HSZ.out).trans (carry (below_alloc (Below.refl _ _) _) HC6.out); obtain ⟨⟨u1, g1⟩, f1⟩ := cellOfBlock (i := 1) hc7 (Nat.succ_lt_succ (Nat.succ_pos 10)); have HO7 := Aside0.mk ho; have HB7 := Aside0.mk hb7; have HC7 := Aside0.mk hc7; clear ho hb7 hc7 k1))
                    go_roundw
                    case rel =>
                      refine ⟨i + 1, k + 1, .slice A1 n1 cp1, by omega, by omega, by go_num, ⟨by have := HK.out; omega⟩, ⟨?_⟩, ⟨((HAP.out.below (below_alloc HB6.out _)).base HB7.out).set _ _⟩, ⟨Below.setCell (((chain' HB.out (below_alloc HB6.out _))).trans (HB7.out.mono HB1'.out.size)) (by show _ ≤ W3.heap.size; omega) _⟩, ⟨heap_setCell_same W7 _ 1 _ _ _ HC7.out⟩, ⟨HA2.out (by trivial)⟩⟩
                      rw [HT.out, HN1.out]
                      exact own_move HO7.out (fun k hk => heap_setCell_other _ _ _ _ (by have := (HO7.out.lt k hk).1; have := HSZ.out; show k ≠ W3.heap.size; omega))
                    case measure => simp [intOf] <;> omega
                · obtain rfl : i = qs.length := by omega
                  have hkl : k = qs.length + 12 := hki
                  subst hkl
                  have hr := HR.out
                  rw [List.take_length] at hr
                  have HZW := Aside0.mk ((HAP.out.block _ (Array.getElem?_eq_some_iff.1 HZ1.out).1 (by omega)).trans HZ1.out)
                  have HOK4 := Aside0.mk (HOK3.out (fun q hq => by
                    obtain ⟨j, hj, rfl⟩ := List.getElem_of_mem hq
                    exact HA.out j hj hj))
                  have HQL := Aside0.mk (show ∀ t ∈ qs.map unhexT, t.length ≤ 140737488351232 from fun t ht => by
                    obtain ⟨q, hq, rfl⟩ := List.mem_map.1 ht
                    have h1 := unhexT_length q
                    have h2 := HQB.out q hq
                    omega)
                  obtain ⟨ls, hlse⟩ : ∃ ls, qs.map unhexT = ls := ⟨_, rfl⟩
                  rw [hlse] at hr HOK4 HQL
                  obtain ⟨A9, c9, hv⟩ := own_slice hr
                  subst hv
                  obtain ⟨hna, hnb⟩ := ownNames hr HQL.out
                  have HNA := Aside0.mk hna
                  have HNB := Aside0.mk (fun (a : Addr) (e : A9 = some a) => (show w.heap.size ≠ a.block by have h1 := hnb a e; have h2 := HSZ.out; omega))
                  obtain ⟨d0, d1, d2, d3, d4, d5, d6, d7, d8, d9, d10, d11⟩ := confCells HC.out
                  obtain ⟨k0, k1, k2, k3, k4, k5, k6, k7, k8, k9, k10, k11⟩ := confCells HZW.out
                  obtain ⟨f0, f1, f2, f3, f4, f5, f6, f7, f8, f9, f10, f11⟩ := frozen12 HZW.out
                  clear hr hlse hna hnb HA
                  go_wp2
                  refine bodyPost_ret (resConf rfl _ rfl (set12 HZW.out)) rfl ?_
                  rw [HOK4.out]
                  exact ⟨(Below.setCell (Below.setCell (Below.setCell (Below.setCell (Below.setCell (Below.setCell (Below.setCell (Below.setCell (Below.setCell (Below.setCell (Below.setCell (Below.setCell HB.out (Nat.le_refl _) _) (Nat.le_refl _) _) (Nat.le_refl _) _) (Nat.le_refl _) _) (Nat.le_refl _) _) (Nat.le_refl _) _) (Nat.le_refl _) _) (Nat.le_refl _) _) (Nat.le_refl _) _) (Nat.le_refl _) _) (Nat.le_refl _) _) (Nat.le_refl _) _), A9, c9, rfl, Apart.names (Apart.set (Apart.set (Apart.set (Apart.set (Apart.set (Apart.set (Apart.set (Apart.set (Apart.set (Apart.set (Apart.set (Apart.set (Apart.refl w.heap.size wr) _ _) _ _) _ _) _ _) _ _) _ _) _ _) _ _) _ _) _ _) _ _) _ _) HNA.out (fun a e h => HNB.out a e h.symm)⟩
    · have HX := Aside0.mk (show setP u = none by rw [← hu]; exact setP_last h10)
      have hne10 : ((b.toNat : Int) != 10) = true := by have := toNat_ne (a := b) (b := 10) h10; simpa using this
      rw [hu] at hs ⊢
      clear hu h10 hsl
      go_enter Tryd.func18, Tryd.ntmps18
      go_wp2
      refine bodyPost_ret (resConf rfl _ rfl (set12 HZ.out)) rfl ?_
      rw [HX.out]
      exact ⟨(Below.setCell (Below.setCell (Below.setCell (Below.setCell (Below.setCell (Below.setCell (Below.setCell (Below.setCell (Below.setCell (Below.setCell (Below.setCell (Below.setCell HB0.out (Nat.le_refl _) _) (Nat.le_refl _) _) (Nat.le_refl _) _) (Nat.le_refl _) _) (Nat.le_refl _) _) (Nat.le_refl _) _) (Nat.le_refl _) _) (Nat.le_refl _) _) (Nat.le_refl _) _) (Nat.le_refl _) _) (Nat.le_refl _) _) (Nat.le_refl _) _), none, 0, rfl, fun j hj => by cases hj⟩
end Go.Proofs.YtkcdlfkicopmoaaDoor.Fs
