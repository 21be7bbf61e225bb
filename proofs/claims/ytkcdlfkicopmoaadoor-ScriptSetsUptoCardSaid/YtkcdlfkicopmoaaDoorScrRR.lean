/- ref27: what lines and settings say, by its own numbers and texts. ref27: ReadLine. ref27: Read. -/
import Derived.Test.YtkcdlfkicopmoaaDoorScrRN
import Derived.Test.YtkcdlfkicopmoaaDoorScrBack
namespace Go.Proofs.YtkcdlfkicopmoaaDoor.Fs
open Go.RowKit Go.Proofs.YtkcdlfkicopmoaaDoor Go.Proofs.YtkcdlfkicopmoaaDoor.Plain Go.Proofs.YtkcdlfkicopmoaaDoorW.PrintWords Go.Maps
set_option linter.unusedVariables false
set_option linter.unusedSimpArgs false
theorem join_cuts (c : UInt8) (u : Nm) : Lib.join (cuts c u) [c] = u := by
  induction u using split_ind c with
  | h0 u h => rw [cuts_none h, Lib.join_one]
  | h1 a b h ih =>
    rw [cuts_app h]
    cases hc : cuts c b with
    | nil => exact absurd hc (cuts_ne b)
    | cons m r =>
      rw [hc] at ih
      have e : Lib.join (a :: m :: r) [c] = a ++ c :: Lib.join (m :: r) [c] := by
        rw [Lib.join_cons, Lib.join_cons]
        simp [Lib.joinTail]
      rw [e, ih]
theorem numP_itoa {n : Int} (h : I64 n) : numP (Lib.itoa n) = some n := numP_iff.2 ⟨rfl, h⟩
theorem readP_of {s p0 p1 p2 p3 : Nm} {a b c : Int} {t : Nm} (hc : cuts 32 s = [p0, p1, p2, p3]) (h0 : numP p0 = some a) (h1 : numP p1 = some b) (h2 : numP p2 = some c) (h3 : unhexB p3 = some t) : readP s = some ⟨a, b, c, t⟩ := by
  obtain ⟨rfl, i0⟩ := numP_iff.1 h0
  obtain ⟨rfl, i1⟩ := numP_iff.1 h1
  obtain ⟨rfl, i2⟩ := numP_iff.1 h2
  obtain rfl := unhexB_iff.1 h3
  refine readP_step i0 i1 i2 ?_
  have := join_cuts 32 s
  rw [hc] at this
  rw [← this]
  rfl
theorem readP_parts {s : Nm} {x : StepD} (h : readP s = some x) : cuts 32 s = [Lib.itoa x.kind, Lib.itoa x.a, Lib.itoa x.b, 120 :: hexL x.text] ∧ I64 x.kind ∧ I64 x.a ∧ I64 x.b := by
  obtain ⟨e, i0, i1, i2⟩ := readP_some h
  refine ⟨?_, i0, i1, i2⟩
  have hs : s = Lib.join (wordsL [x.kind, x.a, x.b] [x.text]) [32] := by
    have : Lib.join (wordsL [x.kind, x.a, x.b] [x.text]) [32] ++ [10] = s ++ [10] := e
    exact (List.append_cancel_right this).symm
  rw [hs, cuts_join _ (by simp [wordsL]) (fun s hs => (wordsL_no _ _ s hs).1)]
  rfl
theorem numO_itoa {n : Int} (h : I64 n) : numO (Lib.itoa n) = true := by unfold numO; rw [numP_itoa h]; rfl
theorem readP_len {s : Nm} (h : (cuts 32 s).length ≠ 4) : readP s = none := by
  cases hr : readP s with
  | none => rfl
  | some x => rw [(readP_parts hr).1] at h; exact absurd rfl h
theorem readP_num {s p0 p1 p2 p3 : Nm} (hc : cuts 32 s = [p0, p1, p2, p3]) (h : numO p0 = false ∨ numO p1 = false ∨ numO p2 = false ∨ unhexO p3 = false) : readP s = none := by
  cases hr : readP s with
  | none => rfl
  | some x =>
    obtain ⟨e, i0, i1, i2⟩ := readP_parts hr
    rw [hc] at e
    injection e with e0 e
    injection e with e1 e
    injection e with e2 e
    injection e with e3 e
    subst e0 e1 e2 e3
    rw [numO_itoa i0, numO_itoa i1, numO_itoa i2] at h
    have : unhexO (120 :: hexL x.text) = true := by unfold unhexO; rw [unhexB_iff.2 rfl]; rfl
    rw [this] at h
    simp at h
theorem numO_some {u : Nm} (h : numO u = true) : numP u = some (numV u) := by
  unfold numO numV at *
  cases hn : numP u with
  | none => rw [hn] at h; cases h
  | some n => rfl
theorem unhexO_some {u : Nm} (h : unhexO u = true) : unhexB u = some (unhexT u) := by
  unfold unhexO unhexT at *
  cases hn : unhexB u with
  | none => rw [hn] at h; cases h
  | some n => rfl
theorem readX_none {s : Nm} (h : readP s = none) : readX s = zeroS ∧ readO s = false := by unfold readX readO; rw [h]; exact ⟨rfl, rfl⟩
theorem readX_some {s : Nm} {x : StepD} (h : readP s = some x) : readX s = x ∧ readO s = true := by unfold readX readO; rw [h]; exact ⟨rfl, rfl⟩
end Go.Proofs.YtkcdlfkicopmoaaDoor.Fs
namespace Go.Proofs.YtkcdlfkicopmoaaDoor.Fs
open Go.RowKit Go.Proofs.YtkcdlfkicopmoaaDoor Go.Proofs.YtkcdlfkicopmoaaDoor.Plain Go.Proofs.YtkcdlfkicopmoaaDoorW.PrintWords Go.Maps
set_option linter.unusedVariables false
set_option linter.unusedSimpArgs false
theorem arr3 {X : World} {b : Nat} {c0 c1 c2 : Value} {t : TypeId} {fr : Nat × Nat} (h : X.heap[b]? = some (.cells #[c0, c1, c2] t fr)) : X.cell? ⟨b, 0, none⟩ = some c0 ∧ X.cell? ⟨b, 1, none⟩ = some c1 ∧ X.cell? ⟨b, 2, none⟩ = some c2 := by
  unfold World.cell?
  simp only []
  rw [h]
  exact ⟨rfl, rfl, rfl⟩
theorem setInts3 (a b c : Int) : setInts #[.int .i64 0, .int .i64 0, .int .i64 0] 0 [a, b, c] = #[.int .i64 a, .int .i64 b, .int .i64 c] := rfl
set_option maxHeartbeats 2000000 in
set_option maxRecDepth 100000 in
theorem refReadLineIs (s : Nm) (hs : s.length ≤ 1073741824) (w : World) :
    Calls Tryd.prog 19 #[.string (S s)] w fun e W' => e = .returned (.tuple #[.agg #[.int .i64 (readX s).kind, .int .i64 (readX s).a, .int .i64 (readX s).b, .string (S (readX s).text)], .bool (readO s)]) ∧ Below w.heap.size w W' := by
  obtain ⟨z, hz⟩ : ∃ z, w.alloc (.cells #[.int .i64 0, .int .i64 0, .int .i64 0, .string ⟨#[]⟩] 39) = z := ⟨_, rfl⟩
  have hzb : z.heap[w.heap.size]? = some (.cells #[.int .i64 0, .int .i64 0, .int .i64 0, .string ⟨#[]⟩] 39 (0, 0)) := by rw [← hz]; exact heapAt rfl (Below.refl _ _)
  have HZ := Aside0.mk hzb
  have HB0 := Aside0.mk (show Below w.heap.size w z by rw [← hz]; exact below_alloc (Below.refl _ _) _)
  have HZS := Aside0.mk (show z.heap.size = w.heap.size + 1 by rw [← hz]; simp)
  have XC := Aside0.mk (show Calls Tryd.prog 34 #[.string (S s), .int .u8 32] z (fun e W' => ∃ v, e = .returned v ∧ SRow z v (cuts 32 s) W') from refCutIs s (by omega) 32 z)
  have HML := Aside0.mk (fun p (hp : p ∈ cuts 32 s) => Nat.le_trans (cuts_mem_length hp) hs)
  clear hzb
  by_cases h4 : (cuts 32 s).length = 4
  · obtain ⟨p0, p1, p2, p3, hc⟩ : ∃ p0 p1 p2 p3, cuts 32 s = [p0, p1, p2, p3] := by
      match cuts 32 s, h4 with
      | [a, b, c, d], _ => exact ⟨a, b, c, d, rfl⟩
    have HNO := Aside0.mk (fun h => readX_none (readP_num hc h))
    have HOK := Aside0.mk (fun (h0 : numO p0 = true) (h1 : numO p1 = true) (h2 : numO p2 = true) (h3 : unhexO p3 = true) => readX_some (readP_of hc (numO_some h0) (numO_some h1) (numO_some h2) (unhexO_some h3)))
    rw [hc] at XC HML
    have h3l := HML.out p3 (by simp)
    have HPL := Aside0.mk (show ∀ p ∈ [p0, p1, p2, p3], p.length ≤ 140737488351232 from fun p hp => Nat.le_trans (HML.out p hp) (by omega))
    have XT := Aside0.mk (fun X => refTextIs p3 (by omega) X)
    clear hc h4 h3l
    obtain ⟨ps, hps⟩ : ∃ ps, [p0, p1, p2, p3] = ps := ⟨_, rfl⟩
    have hpn : ps.length = 4 := by rw [← hps]; rfl
    have HG := Aside0.mk hps
    rw [hps] at XC HML HPL
    have XN := Aside0.mk (fun p (hp : p ∈ ps) X => refNumberIs p (Nat.le_trans (HML.out p hp) (by omega)) X)
    clear hps
    go_enter Tryd.func19, Tryd.ntmps19
    go_wp2_with (go_at_call 34; (try rw [hz]); refine XC.out.mono ?_; rintro e W1 ⟨v, rfl, hr⟩; obtain ⟨A1, c1, rfl⟩ := hr.slice; have HN1 := Aside0.mk (hr.at_ HPL.out); have HB1 := Aside0.mk hr.below; clear hr)
    go_loopw [6, 7, 8] (fun v6 v7 v8 wr => ∃ i : Nat, i ≤ 3 ∧ v6 = .int .i64 i ∧ Aside0 (∀ j (hj : j < ps.length), j < i → numO ps[j] = true) ∧ Aside0 (Below W1.heap.size W1 wr) ∧ Aside0 (wr.heap[W1.heap.size]? = some (.cells (setInts #[.int .i64 0, .int .i64 0, .int .i64 0] 0 ((ps.take i).map numV)) 69 (0, 0)))) (fun v6 _ _ _ => 3 - (intOf v6).toNat)
    case atStart => exact ⟨0, by omega, rfl, ⟨fun j hj h => by omega⟩, ⟨below_alloc (Below.refl _ _) _⟩, ⟨heapAt rfl (Below.refl _ _)⟩⟩
    case round =>
      obtain ⟨i, hi, rfl, HA, HB, HC⟩ := hrel
      have hpn' := hpn
      by_cases hlt : i < 3
      · have hlt2 : i < ps.length := by omega
        obtain ⟨ad, hA1, hcell, -⟩ := (HN1.out.below HB.out) i hlt2
        have HT := Aside0.mk (show (ps.take (i + 1)).map numV = (ps.take i).map numV ++ [numV ps[i]] from map_take_succ _ hlt2)
        have HLN := Aside0.mk (show ((ps.take i).map numV).length = i by rw [List.length_map, List.length_take]; omega)
        have HX := Aside0.mk (show numO ps[i] = false → readX s = zeroS ∧ readO s = false from fun h => HNO.out (by
          have hg := HG.out
          subst hg
          have : i = 0 ∨ i = 1 ∨ i = 2 := by omega
          rcases this with rfl | rfl | rfl
          · exact .inl h
          · exact .inr (.inl h)
          · exact .inr (.inr (.inl h))))
        have HA2 := Aside0.mk (show numO ps[i] = true → ∀ j (hj : j < ps.length), j < i + 1 → numO ps[j] = true from fun h j hj h2 => by
          by_cases e : j < i
          · exact HA.out j hj e
          · obtain rfl : j = i := by omega
            exact h)
        have XN1 := XN.out _ (List.getElem_mem hlt2) wr
        obtain ⟨p, hp⟩ : ∃ p, ps[i] = p := ⟨_, rfl⟩
        subst hA1
        rw [hp] at hcell HT HX HA2 XN1
        obtain ⟨v, hv⟩ : ∃ v, numV p = v := ⟨_, rfl⟩
        obtain ⟨o, ho⟩ : ∃ o, numO p = o := ⟨_, rfl⟩
        rw [hv] at HT XN1
        rw [ho] at HX HA2 XN1
        have hc := HC.out
        obtain ⟨⟨u0, hu0⟩, hfz⟩ := cellOfBlock (i := 0 + i) hc (by rw [setInts_size]; show 0 + i < 3; omega)
        rw [Nat.zero_add] at hu0 hfz
        have HHC := Aside0.mk hc
        have HZW := Aside0.mk (carry (HB1.out.trans (HB.out.mono HB1.out.size)) HZ.out)
        have hz0 := fourCells HZW.out
        have HBW := Aside0.mk (chain' (chain' HB0.out HB1.out) HB.out)
        clear hp hv ho hc HC HA hz
        obtain ⟨⟨k0, k1, k2, k3⟩, f0, f1, f2, f3⟩ := hz0
        cases o with
        | false =>
          go_wp2_with (go_at_call 35; refine XN1.mono ?_; rintro e W2 ⟨rfl, rfl⟩; clear XN1)
          refine bodyPost_ret (resStep rfl _ rfl (fourCells (set4 HZW.out)).1) rfl ?_
          rw [(HX.out (by trivial)).1, (HX.out (by trivial)).2]
          exact ⟨rfl, Below.setCell (Below.setCell (Below.setCell (Below.setCell HBW.out (Nat.le_refl _) _) (Nat.le_refl _) _) (Nat.le_refl _) _) (Nat.le_refl _) _⟩
        | true =>
          go_wp2_with (go_at_call 35; refine XN1.mono ?_; rintro e W2 ⟨rfl, rfl⟩; clear XN1)
          refine ⟨⟨i + 1, by omega, by go_num, ⟨HA2.out (by trivial)⟩, ⟨Below.setCell HB.out (Nat.le_refl _) _⟩, ⟨?_⟩⟩, by simp [intOf] <;> omega⟩
          rw [HT.out, setInts_snoc, HLN.out, Nat.zero_add]
          exact heap_setCell_same _ _ _ _ _ _ HHC.out
      · obtain rfl : i = 3 := by omega
        have hg := HG.out
        subst hg
        have hc3 : wr.heap[W1.heap.size]? = some (.cells #[.int .i64 (numV p0), .int .i64 (numV p1), .int .i64 (numV p2)] 69 (0, 0)) := HC.out
        have g0 : numO p0 = true := HA.out 0 (by simp) (by omega)
        have g1 : numO p1 = true := HA.out 1 (by simp) (by omega)
        have g2 : numO p2 = true := HA.out 2 (by simp) (by omega)
        have HOK2 := Aside0.mk (HOK.out g0 g1 g2)
        have HNO2 := Aside0.mk (show unhexO p3 = false → readX s = zeroS ∧ readO s = false from fun h => HNO.out (.inr (.inr (.inr h))))
        obtain ⟨ad, hA1, hcell, -⟩ := (HN1.out.below HB.out) 3 (by simp)
        have hcell' : wr.cell? ⟨ad.block, ad.off + 3, none⟩ = some (.string (S p3)) := hcell
        subst hA1
        have HZW := Aside0.mk (carry (HB1.out.trans (HB.out.mono HB1.out.size)) HZ.out)
        have HBW := Aside0.mk (chain' (chain' HB0.out HB1.out) HB.out)
        obtain ⟨a0, ha0⟩ : ∃ a, numV p0 = a := ⟨_, rfl⟩
        obtain ⟨a1, ha1⟩ : ∃ a, numV p1 = a := ⟨_, rfl⟩
        obtain ⟨a2, ha2⟩ : ∃ a, numV p2 = a := ⟨_, rfl⟩
        obtain ⟨T, hT⟩ : ∃ T, unhexT p3 = T := ⟨_, rfl⟩
        obtain ⟨o, ho⟩ : ∃ o, unhexO p3 = o := ⟨_, rfl⟩
        rw [ha0, ha1, ha2] at hc3 HOK2
        rw [hT] at HOK2 XT
        rw [ho] at HOK2 HNO2 XT
        have HC3 := Aside0.mk hc3
        clear hcell g0 g1 g2 ha0 ha1 ha2 hT ho hc3 HC HA HOK HNO hz
        cases o with
        | false =>
          go_wp2_with (go_at_call 36; refine (XT.out _).mono ?_; rintro e W2 ⟨rfl, hb⟩; have hz5 := carry hb HZW.out; obtain ⟨⟨k0, k1, k2, k3⟩, f0, f1, f2, f3⟩ := fourCells hz5; have HZ5 := Aside0.mk hz5; have HB5 := Aside0.mk (chain' HBW.out hb); clear hb hz5)
          refine bodyPost_ret (resStep rfl _ rfl (fourCells (set4 HZ5.out)).1) rfl ?_
          rw [(HNO2.out (by trivial)).1, (HNO2.out (by trivial)).2]
          exact ⟨rfl, Below.setCell (Below.setCell (Below.setCell (Below.setCell HB5.out (Nat.le_refl _) _) (Nat.le_refl _) _) (Nat.le_refl _) _) (Nat.le_refl _) _⟩
        | true =>
          go_wp2_with (go_at_call 36; refine (XT.out _).mono ?_; rintro e W2 ⟨rfl, hb⟩; have hz5 := carry hb HZW.out; obtain ⟨⟨k0, k1, k2, k3⟩, f0, f1, f2, f3⟩ := fourCells hz5; obtain ⟨j0, j1, j2⟩ := arr3 (carry hb HC3.out); have HZ5 := Aside0.mk hz5; have HB5 := Aside0.mk (chain' HBW.out hb); clear hb hz5)
          refine bodyPost_ret (resStep rfl _ rfl (fourCells (set4 HZ5.out)).1) rfl ?_
          rw [(HOK2.out (by trivial)).1, (HOK2.out (by trivial)).2]
          exact ⟨rfl, Below.setCell (Below.setCell (Below.setCell (Below.setCell HB5.out (Nat.le_refl _) _) (Nat.le_refl _) _) (Nat.le_refl _) _) (Nat.le_refl _) _⟩
  · obtain ⟨ex, eo⟩ := readX_none (readP_len h4)
    obtain ⟨ps, hps⟩ : ∃ ps, cuts 32 s = ps := ⟨_, rfl⟩
    rw [hps] at XC h4
    have hne : ((ps.length : Int) == 4) = false := by simp only [beq_eq_false_iff_ne, ne_eq]; omega
    have HX := Aside0.mk ex
    have HO := Aside0.mk eo
    clear hps ex eo h4
    go_enter Tryd.func19, Tryd.ntmps19
    go_wp2_with (go_at_call 34; (try rw [hz]); refine XC.out.mono ?_; rintro e W1 ⟨v, rfl, hr⟩; obtain ⟨A1, c1, rfl⟩ := hr.slice; have hz5 := carry hr.below HZ.out; obtain ⟨⟨k0, k1, k2, k3⟩, f0, f1, f2, f3⟩ := fourCells hz5; have HZ5 := Aside0.mk hz5; have HB5 := Aside0.mk (chain' HB0.out hr.below); clear hr hz5)
    refine bodyPost_ret (resStep rfl _ rfl (fourCells (set4 HZ5.out)).1) rfl ?_
    rw [HX.out, HO.out]
    exact ⟨rfl, Below.setCell (Below.setCell (Below.setCell (Below.setCell HB5.out (Nat.le_refl _) _) (Nat.le_refl _) _) (Nat.le_refl _) _) (Nat.le_refl _) _⟩
end Go.Proofs.YtkcdlfkicopmoaaDoor.Fs
namespace Go.Proofs.YtkcdlfkicopmoaaDoor.Fs
open Go.RowKit Go.Proofs.YtkcdlfkicopmoaaDoor Go.Proofs.YtkcdlfkicopmoaaDoor.Plain Go.Proofs.YtkcdlfkicopmoaaDoorW.PrintWords Go.Maps
set_option linter.unusedVariables false
set_option linter.unusedSimpArgs false
theorem goP_one (n : Nat) (p : Nm) : goP readP n [p] = if p = [] then .inl [] else .inr n := by rw [goP]
set_option maxHeartbeats 2000000 in
set_option maxRecDepth 100000 in
theorem refReadIs (u : Nm) (hu : u.length ≤ 1073741824) (w : World) :
    Calls Tryd.prog 13 #[.string (S u)] w (ParsePost w (parseP readP u)) := by
  go_enter Tryd.func13, Tryd.ntmps13
  go_wp2
  go_loopw [5, 6, 7, 8, 9, 10] (fun v5 v6 v7 v8 v9 v10 wr => ∃ (i a m : Nat) (L : List StepD), i ≤ u.length ∧ a ≤ i ∧ m ≤ i + 1 ∧ v6 = .int .i64 a ∧ v7 = .int .i64 m ∧ v8 = .int .i64 i ∧ Aside0 (m = L.length + 1) ∧ Aside0 (parseP readP u = pre L (goP readP m (cutsA 10 ((u.take i).drop a) (u.drop i)))) ∧ Aside0 (TRow w v5 L wr)) (fun _ _ _ v8 _ _ _ => u.length - (intOf v8).toNat)
  case atStart => exact ⟨0, 0, 1, [], by omega, by omega, by omega, rfl, rfl, rfl, ⟨rfl⟩, ⟨by rw [pre_nil]; rfl⟩, ⟨TRow.nil (Below.refl _ _)⟩⟩
  case round =>
    obtain ⟨i, a, m, L, hi, ha, hm, rfl, rfl, rfl, HM, HP, HR⟩ := hrel
    obtain ⟨p, hp⟩ : ∃ p, (u.take i).drop a = p := ⟨_, rfl⟩
    by_cases hlt : i < u.length
    · obtain ⟨b, hb⟩ : ∃ b, u[i] = b := ⟨_, rfl⟩
      have hgb : ∀ pf, (S u)[i]'pf = b := fun _ => hb
      have hdr : u.drop i = b :: u.drop (i + 1) := by rw [List.drop_eq_getElem_cons hlt, hb]
      have hg := HP.out
      rw [hdr, hp, cutsA] at hg
      by_cases h10 : b = 10
      · subst h10
        rw [if_pos rfl, show cutsA 10 [] (u.drop (i + 1)) = cuts 10 (u.drop (i + 1)) from rfl, goP_line] at hg
        have hsl : (S u).extract a i = S p := by rw [S_extract, hp]
        have hpl : p.length ≤ 1073741824 := by rw [← hp]; simp; omega
        have XR := refReadLineIs p hpl wr
        cases hra : readP p with
        | none =>
          rw [hra] at hg
          have HPP := Aside0.mk (show parseP readP u = .inr m from hg)
          obtain ⟨ex, eo⟩ := readX_none hra
          rw [ex, eo] at XR
          clear hg hra ex eo hp hdr hb HP hpl
          go_wp2_with (go_at_call 19; refine XR.mono ?_; rintro e W2 ⟨rfl, hb⟩; have HB2 := Aside0.mk (chain' HR.out.below hb); clear hb XR)
          go_ret3
          rw [HPP.out]
          exact ⟨below_alloc HB2.out _, rfl⟩
        | some x =>
          rw [hra] at hg
          have HNX := Aside0.mk (show parseP readP u = pre (L ++ [x]) (goP readP (m + 1) (cutsA 10 ((u.take (i + 1)).drop (i + 1)) (u.drop (i + 1)))) by rw [hg, drop_self, ← pre_pre]; rfl)
          obtain ⟨ex, eo⟩ := readX_some hra
          rw [ex, eo] at XR
          have HLE := Aside0.mk (show L.length ≤ 1000000000000 by have := HM.out; omega)
          clear hg hra ex eo hp hdr hb HP hpl
          go_wp2_with (first
            | (go_at_call 19; refine XR.mono ?_; rintro e W2 ⟨rfl, hb⟩; have HB2 := Aside0.mk hb; clear hb XR)
            | (at_builtin; refine appendT (HR.out.step (below_alloc (below_alloc HB2.out _) _)) x HLE.out rfl _ _ rfl rfl _ 1 rfl (stepNew _ _ _ _ (by simp)) ?_; rintro v1 W4 h; have HR4 := Aside0.mk h; clear h))
          go_roundw
          case rel => exact ⟨i + 1, i + 1, m + 1, L ++ [x], by omega, by omega, by omega, by go_num, by go_num, by go_num, ⟨by rw [List.length_append, HM.out]; rfl⟩, HNX, HR4⟩
          case measure => simp [intOf] <;> omega
      · rw [if_neg h10] at hg
        have hne : ((b.toNat : Int) == 10) = false := toNat_ne (b := 10) h10
        have HNX := Aside0.mk (show parseP readP u = pre L (goP readP m (cutsA 10 ((u.take (i + 1)).drop a) (u.drop (i + 1)))) by rw [take_drop_snoc ha hlt, hp, hb, hg])
        clear hg hp hdr hb HP h10
        go_wp2
        go_roundw
        case rel => exact ⟨i + 1, a, m, L, by omega, by omega, by omega, rfl, rfl, by go_num, HM, HNX, HR⟩
        case measure => simp [intOf] <;> omega
    · obtain rfl : i = u.length := by omega
      have hg := HP.out
      rw [List.drop_length, hp, show cutsA 10 p [] = [p] from rfl, goP_one] at hg
      by_cases he : a < u.length
      · have hpn : p ≠ [] := by rw [← hp]; intro e; have := congrArg List.length e; simp at this; omega
        have HPP := Aside0.mk (show parseP readP u = .inr m by rw [hg, if_neg hpn]; rfl)
        clear hg hp HP hpn
        go_wp2
        go_ret3
        rw [HPP.out]
        exact ⟨HR.out.below, rfl⟩
      · have hpn : p = [] := by rw [← hp]; exact List.drop_eq_nil_of_le (by simp; omega)
        have HPP := Aside0.mk (show parseP readP u = .inl L by rw [hg, if_pos hpn]; show Sum.inl (L ++ []) = _; rw [List.append_nil])
        clear hg hp HP hpn
        go_wp2
        go_ret3
        rw [HPP.out]
        exact ⟨HR.out.below, _, rfl, HR.out⟩
end Go.Proofs.YtkcdlfkicopmoaaDoor.Fs
