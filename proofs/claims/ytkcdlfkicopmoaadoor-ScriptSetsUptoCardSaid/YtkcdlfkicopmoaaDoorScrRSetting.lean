/- ref27: Setting. -/
import Derived.Test.YtkcdlfkicopmoaaDoorScrRLine
import Derived.Test.YtkcdlfkicopmoaaDoorScrBack
import Derived.Deep.RegionHeld3
namespace Go.Proofs.YtkcdlfkicopmoaaDoor.Fs
open Go.RowKit Go.Proofs.YtkcdlfkicopmoaaDoor Go.Proofs.YtkcdlfkicopmoaaDoor.Plain Go.Proofs.YtkcdlfkicopmoaaDoorW.PrintWords Go.Maps
set_option linter.unusedVariables false
set_option linter.unusedSimpArgs false
def p1L (ns : List Int) : Nm := ns.flatMap fun n => Lib.itoa n ++ [32]
def p2L (ts : List Nm) : Nm := ts.flatMap fun t => [32, 120] ++ hexL t
theorem join_two (x : Nm) (l : List Nm) (h : l ≠ []) : Lib.join (x :: l) [32] = x ++ [32] ++ Lib.join l [32] := by
  cases l with
  | nil => exact absurd rfl h
  | cons y r =>
    rw [Lib.join_cons, Lib.join_cons]
    simp [Lib.joinTail]
theorem join_p1 : ∀ (ns : List Int) (l : List Nm), l ≠ [] → Lib.join (ns.map Lib.itoa ++ l) [32] = p1L ns ++ Lib.join l [32]
  | [], l, h => rfl
  | n :: ns, l, h => by
    rw [List.map_cons, List.cons_append, join_two _ _ (by simp [h]), join_p1 ns l h]
    simp [p1L]
theorem join_p2 : ∀ (ts : List Nm) (x : Nm), Lib.join (x :: ts.map fun t => 120 :: hexL t) [32] = x ++ p2L ts
  | [], x => by rw [List.map_nil, Lib.join_one]; simp [p2L]
  | t :: ts, x => by
    rw [List.map_cons, join_two _ _ (by simp), join_p2 ts]
    simp [p2L]
theorem settingL_parts (c : ConfD) : settingL c = p1L c.ints ++ [120] ++ hexL c.host ++ [32] ++ Lib.itoa (c.locals.length : Int) ++ p2L c.locals ++ [10] := by
  rw [settingL_eq]
  have e : allW c = c.ints.map Lib.itoa ++ ((120 :: hexL c.host) :: (Lib.itoa (c.locals.length : Int) :: c.locals.map fun t => 120 :: hexL t)) := by simp [allW, wordsL]
  rw [e, join_p1 _ _ (by simp), join_two _ _ (by simp), join_p2]
  simp
theorem p1L_succ {l : List Int} {i : Nat} (h : i < l.length) : p1L (l.take (i + 1)) = p1L (l.take i) ++ Lib.itoa l[i] ++ [32] := by
  unfold p1L
  rw [List.take_add_one, List.getElem?_eq_getElem h, List.flatMap_append]
  simp
theorem p2L_succ {l : List Nm} {i : Nat} (h : i < l.length) : p2L (l.take (i + 1)) = p2L (l.take i) ++ [32, 120] ++ hexL l[i] := by
  unfold p2L
  rw [List.take_add_one, List.getElem?_eq_getElem h, List.flatMap_append]
  simp
theorem p1L_length : ∀ (l : List Int), (∀ n ∈ l, I64 n) → (p1L l).length ≤ 21 * l.length
  | [], _ => by simp [p1L]
  | n :: l, h => by
    have h1 := p1L_length l (fun m hm => h m (by simp [hm]))
    have h2 := itoa_length (h n (by simp))
    simp only [p1L, List.flatMap_cons, List.length_append, List.length_cons, List.length_nil] at h1 ⊢
    omega
theorem p2L_length : ∀ (l : List Nm), (p2L l).length = 2 * l.length + 2 * Lib.lens l
  | [] => by simp [p2L, Lib.lens]
  | t :: l => by
    have h1 := p2L_length l
    simp only [p2L, Lib.lens, List.flatMap_cons, List.length_append, List.length_cons, List.length_nil, hexL_length, List.map_cons, List.sum_cons] at h1 ⊢
    omega
theorem p2L_take (l : List Nm) (i : Nat) : (p2L (l.take i)).length ≤ (p2L l).length := by
  unfold p2L
  conv => rhs; rw [← List.take_append_drop i l, List.flatMap_append, List.length_append]
  omega
def cellsC (A : Option Addr) (cp : Nat) (c : ConfD) : Array Value := #[.string (S c.host), .slice A c.locals.length cp, .int .i64 c.i0, .int .i64 c.i1, .int .i64 c.i2, .int .i64 c.i3, .int .i64 c.i4, .int .i64 c.i5, .int .i64 c.i6, .int .i64 c.i7, .int .i64 c.i8, .int .i64 c.i9]
theorem conf12 {X : World} {b : Nat} {A : Option Addr} {cp : Nat} {c : ConfD} {t : TypeId} (h : X.heap[b]? = some (.cells (cellsC A cp c) t (0, 0))) :
    X.cell? ⟨b, 0, none⟩ = some (.string (S c.host)) ∧ X.cell? ⟨b, 1, none⟩ = some (.slice A c.locals.length cp) ∧ X.cell? ⟨b, 2, none⟩ = some (.int .i64 c.i0) ∧ X.cell? ⟨b, 3, none⟩ = some (.int .i64 c.i1) ∧ X.cell? ⟨b, 4, none⟩ = some (.int .i64 c.i2) ∧ X.cell? ⟨b, 5, none⟩ = some (.int .i64 c.i3) ∧ X.cell? ⟨b, 6, none⟩ = some (.int .i64 c.i4) ∧ X.cell? ⟨b, 7, none⟩ = some (.int .i64 c.i5) ∧ X.cell? ⟨b, 8, none⟩ = some (.int .i64 c.i6) ∧ X.cell? ⟨b, 9, none⟩ = some (.int .i64 c.i7) ∧ X.cell? ⟨b, 10, none⟩ = some (.int .i64 c.i8) ∧ X.cell? ⟨b, 11, none⟩ = some (.int .i64 c.i9) := confCells h
set_option maxHeartbeats 2000000 in
set_option maxRecDepth 100000 in
theorem refSettingIs (c : ConfD) (hok : ConfOk c) (A : Option Addr) (cp : Nat) (w : World) (hA : NamesAt w A c.locals) :
    Calls Tryd.prog 16 #[.agg (#[.string (S c.host), .slice A c.locals.length cp, .int .i64 c.i0, .int .i64 c.i1, .int .i64 c.i2, .int .i64 c.i3, .int .i64 c.i4, .int .i64 c.i5, .int .i64 c.i6, .int .i64 c.i7, .int .i64 c.i8, .int .i64 c.i9])] w fun e W' => e = .returned (.string (S (settingL c))) ∧ Below w.heap.size w W' := by
  have HA := Aside0.mk hA
  have hH := hok.host
  have hLn := hok.len
  have hls := hok.lens
  have hq2 := p2L_length c.locals
  have hI1 : I64 (c.locals.length : Int) := ⟨by omega, by omega⟩
  have HP := Aside0.mk (settingL_parts c)
  have HI := Aside0.mk hok.ints
  have XH := Aside0.mk (fun X => refHexIs c.host (by omega) X)
  have XD := Aside0.mk (fun X => refDecIs (c.locals.length : Int) hI1 X)
  have XN := Aside0.mk (fun (n : Int) (h : I64 n) X => refDecIs n h X)
  have XL := Aside0.mk (fun (t : Nm) (h : t ∈ c.locals) X => refHexIs t (by have := lens_mem h; omega) X)
  have lH := hexL_length c.host
  have lD := itoa_length hI1
  have HLN := Aside0.mk (show c.ints.length = 10 from rfl)
  have HIA := Aside0.mk (fun (X : World) h => intsNew (X := X) (b := w.heap.size + 1) (ns := c.ints) (t := 3) (fr := (0, 0)) h rfl)
  have HBX := Aside0.mk (fun (X : World) h => conf12 (X := X) (b := w.heap.size) (A := A) (cp := cp) (c := c) (t := 32) h)
  have HB0 := Aside0.mk (Below.refl w.heap.size w)
  obtain ⟨T, hT⟩ : ∃ T, hexL c.host = T := ⟨_, rfl⟩
  obtain ⟨D, hD⟩ : ∃ D, Lib.itoa (c.locals.length : Int) = D := ⟨_, rfl⟩
  rw [hT] at HP XH lH
  rw [hD] at HP XD lD
  clear hA hok hT hD hI1
  go_enter Tryd.func16, Tryd.ntmps16
  go_wp2
  go_loopw [3, 5, 29] (fun v3 v5 v29 wr => ∃ i : Nat, i ≤ 10 ∧ v29 = .int .i64 i ∧ v3 = .string (S (p1L (c.ints.take i))) ∧ Aside0 (Below w.heap.size w wr) ∧ Aside0 (wr.heap[w.heap.size]? = some (.cells (cellsC A cp c) 32 (0, 0))) ∧ Aside0 (IntsAt wr (some ⟨w.heap.size + 1, 0, none⟩) c.ints)) (fun _ _ v29 _ => 10 - (intOf v29).toNat)
  case atStart => exact ⟨0, by omega, rfl, rfl, ⟨below_alloc (below_alloc HB0.out _) _⟩, ⟨heapAt rfl (below_alloc (Below.refl _ _) _)⟩, ⟨HIA.out _ (heapAt (by simp) (Below.refl _ _))⟩⟩
  case round =>
    obtain ⟨i, hi, rfl, rfl, HB, HX, HN⟩ := hrel
    by_cases hlt : i < 10
    · have hlt2 : i < c.ints.length := by rw [HLN.out]; exact hlt
      obtain ⟨ad, hA1, hcell⟩ := HN.out i hlt2
      cases hA1
      have h5 : (⟨w.heap.size + 1, 0, none⟩ : Addr).add i = ⟨w.heap.size + 1, i, none⟩ := by unfold Addr.add; split <;> simp_all
      have hcell2 := hcell
      rw [h5] at hcell2
      have HS := Aside0.mk (p1L_succ hlt2)
      have hI := HI.out _ (List.getElem_mem hlt2)
      have XN1 := XN.out _ hI wr
      have l1 := itoa_length hI
      have l2 := p1L_length (c.ints.take i) (fun n hn => HI.out n (List.mem_of_mem_take hn))
      rw [List.length_take] at l2
      obtain ⟨n, hn⟩ : ∃ n, c.ints[i] = n := ⟨_, rfl⟩
      rw [hn] at hcell hcell2 HS XN1 l1
      obtain ⟨N, hN⟩ : ∃ N, Lib.itoa n = N := ⟨_, rfl⟩
      obtain ⟨P, hP⟩ : ∃ P, p1L (c.ints.take i) = P := ⟨_, rfl⟩
      rw [hN] at HS XN1 l1
      rw [hP] at HS l2 ⊢
      have hz1 : (S N).size = N.length := S_size N
      have hz2 : (S P).size = P.length := S_size P
      have hl : P.length ≤ 210 := by omega
      have HE := Aside0.mk (show S P ++ S N ++ (⟨#[32]⟩ : ByteArray) = S (P ++ N ++ [32]) by rw [show (⟨#[32]⟩ : ByteArray) = S [32] from rfl]; simp only [S_append])
      clear hn hN hP h5 l2 hI hq2 lH lD
      go_wp2_with (go_at_call 33; refine XN1.mono ?_; rintro e W3 ⟨rfl, hb⟩; have HB3 := Aside0.mk hb; clear hb XN1)
      go_roundw
      case rel => exact ⟨i + 1, by omega, by go_num, by rw [HS.out, ← HE.out], ⟨chain' HB.out HB3.out⟩, ⟨carry HB3.out HX.out⟩, ⟨HN.out.below HB3.out⟩⟩
      case measure => simp [intOf] <;> omega
    · obtain rfl : i = 10 := by omega
      have e10 : c.ints.take 10 = c.ints := rfl
      have l2 := p1L_length c.ints HI.out
      rw [HLN.out] at l2
      rw [e10]
      obtain ⟨P, hP⟩ : ∃ P, p1L c.ints = P := ⟨_, rfl⟩
      rw [hP] at HP l2 ⊢
      have hz1 : (S P).size = P.length := S_size P
      have hz2 : (S T).size = T.length := S_size T
      have hz3 : (S D).size = D.length := S_size D
      have c0 : (9223372036854775807 < P.length + 1) = False := by simp; omega
      have c1 : (9223372036854775807 < P.length + 1 + T.length) = False := by simp; omega
      have c2 : (9223372036854775807 < P.length + 1 + T.length + 1) = False := by simp; omega
      have c3 : (9223372036854775807 < P.length + 1 + T.length + 1 + D.length) = False := by simp; omega
      have HPL := Aside0.mk (show P.length + 1 + T.length + 1 + D.length ≤ 1073742100 by omega)
      have hq3 : (p2L c.locals).length ≤ 2147483648 := by omega
      have HQ3 := Aside0.mk hq3
      have HLL := Aside0.mk hLn
      have hbx := HBX.out wr HX.out
      obtain ⟨k0, k1, -, -, -, -, -, -, -, -, -, -⟩ := hbx
      have HS := Aside0.mk (fun (X : World) (hX : Below wr.heap.size wr X) => show X.cell? ⟨w.heap.size, 0, none⟩ = some (.string (S c.host)) ∧ X.cell? ⟨w.heap.size, 1, none⟩ = some (.slice A c.locals.length cp) from ⟨(HBX.out X (carry hX HX.out)).1, (HBX.out X (carry hX HX.out)).2.1⟩)
      have K0 : wr.cell? ⟨w.heap.size, 0, none⟩ = some (.string (S c.host)) ∧ wr.cell? ⟨w.heap.size, 1, none⟩ = some (.slice A c.locals.length cp) := ⟨k0, k1⟩
      have HE := Aside0.mk (show S P ++ (⟨#[120]⟩ : ByteArray) ++ S T ++ (⟨#[32]⟩ : ByteArray) ++ S D = S (P ++ [120] ++ T ++ [32] ++ D) by rw [show (⟨#[32]⟩ : ByteArray) = S [32] from rfl, show (⟨#[120]⟩ : ByteArray) = S [120] from rfl]; simp only [S_append])
      clear hP l2 hq2 lH lD e10 hq3 hls k0 k1
      go_wp2
      go_region_held3 (fun X => X.cell? ⟨w.heap.size, 0, none⟩ = some (.string (S c.host)) ∧ X.cell? ⟨w.heap.size, 1, none⟩ = some (.slice A c.locals.length cp))
        (first | (with_reducible exact K0) | (exact HS.out _ (by repeat (first | exact Below.refl _ _ | exact HB5.out | exact HB4.out | apply below_drew1))) | go_keep)
        (first
          | (go_at_call 21; with_reducible refine (XH.out _).mono ?_; rintro e W4 ⟨rfl, hb⟩; have HB4 := Aside0.mk (chain' (W := wr) (by repeat (first | exact Below.refl _ _ | apply below_drew1)) hb); clear hb)
          | (go_at_call 33; with_reducible refine (XD.out _).mono ?_; rintro e W5 ⟨rfl, hb⟩; have HB5 := Aside0.mk (chain' (W := wr) (by repeat (first | exact Below.refl _ _ | exact HB4.out | apply below_drew1)) hb); clear hb))
      have HB5' := Aside0.mk (chain' HB.out HB5.out)
      have HX5 := Aside0.mk (carry HB5.out HX.out)
      have HQL := HPL.out
      have hqe := HE.out
      have hpp := HP.out
      obtain ⟨Q, hQ⟩ : ∃ Q, P ++ [120] ++ T ++ [32] ++ D = Q := ⟨_, rfl⟩
      rw [hQ] at hqe hpp
      have hql : Q.length ≤ 1073742100 := by rw [← hQ]; simp; omega
      have HQE := Aside0.mk hqe
      have HP2 := Aside0.mk hpp
      clear HQL hqe hpp hQ HE HP HPL hz1 hz2 hz3 c0 c1 c2 c3 K0 HS XD XH HN HX HB
      go_wp2
      go_loopw [3, 6] (fun v3 v6 wr => ∃ j : Nat, j ≤ c.locals.length ∧ v6 = .int .i64 j ∧ v3 = .string (S (Q ++ p2L (c.locals.take j))) ∧ Aside0 (Below w.heap.size w wr) ∧ Aside0 (wr.heap[w.heap.size]? = some (.cells (cellsC A cp c) 32 (0, 0)))) (fun _ v6 _ => c.locals.length - (intOf v6).toNat)
      case atStart => exact ⟨0, by omega, rfl, by rw [HQE.out]; simp [p2L], HB5', HX5⟩
      case round =>
        obtain ⟨j, hj, rfl, rfl, HB, HX⟩ := hrel
        obtain ⟨-, k1, -, -, -, -, -, -, -, -, -, -⟩ := HBX.out _ HX.out
        have hll := HLL.out
        by_cases hlt : j < c.locals.length
        · obtain ⟨ad, hA1, hcell, -⟩ := (HA.out.below HB.out) j hlt
          subst hA1
          have HS := Aside0.mk (p2L_succ hlt)
          have XL1 := XL.out _ (List.getElem_mem hlt)
          have l1 := p2L_length (c.locals.take (j + 1))
          have l2 := p2L_take c.locals (j + 1)
          have l3 := HQ3.out
          obtain ⟨t, ht⟩ : ∃ t, c.locals[j] = t := ⟨_, rfl⟩
          rw [ht] at hcell HS XL1
          obtain ⟨N, hN⟩ : ∃ N, hexL t = N := ⟨_, rfl⟩
          obtain ⟨R, hR⟩ : ∃ R, Q ++ p2L (c.locals.take j) = R := ⟨_, rfl⟩
          rw [hN] at HS XL1
          have hrl : R.length + 2 + N.length ≤ 4294967296 := by
            have := congrArg List.length HS.out
            rw [← hR]
            simp only [List.length_append, List.length_cons, List.length_nil] at this ⊢
            omega
          have HS2 := Aside0.mk (show Q ++ p2L (c.locals.take (j + 1)) = R ++ [32, 120] ++ N by rw [HS.out, ← hR]; simp)
          rw [hR]
          have hz1 : (S N).size = N.length := S_size N
          have hz2 : (S R).size = R.length := S_size R
          have HE := Aside0.mk (show S R ++ (⟨#[32, 120]⟩ : ByteArray) ++ S N = S (R ++ [32, 120] ++ N) by rw [show (⟨#[32, 120]⟩ : ByteArray) = S [32, 120] from rfl]; simp only [S_append])
          have XL2 := Aside0.mk (XL1)
          clear ht hN hR l1 l2 l3 HS XL1
          go_wp2_with (go_at_call 21; refine (XL2.out _).mono ?_; rintro e W6 ⟨rfl, hb⟩; have HB6 := Aside0.mk hb; clear hb)
          go_roundw
          case rel => exact ⟨j + 1, by omega, by go_num, by rw [HS2.out, ← HE.out], ⟨chain' HB.out HB6.out⟩, ⟨carry HB6.out HX.out⟩⟩
          case measure => simp [intOf] <;> omega
        · obtain rfl : j = c.locals.length := by omega
          rw [List.take_length]
          have l3 := HQ3.out
          obtain ⟨R, hR⟩ : ∃ R, Q ++ p2L c.locals = R := ⟨_, rfl⟩
          have hrl : R.length ≤ 4294967296 := by rw [← hR]; simp; omega
          have HS2 := Aside0.mk (show settingL c = R ++ [10] by rw [HP2.out, hR])
          have hz2 : (S R).size = R.length := S_size R
          have HE := Aside0.mk (show S R ++ (⟨#[10]⟩ : ByteArray) = S (R ++ [10]) by rw [show (⟨#[10]⟩ : ByteArray) = S [10] from rfl]; simp only [S_append])
          rw [hR]
          clear hR l3
          go_wp2
          go_ret
          exact ⟨congrArg (fun s => Ending.returned (.string s)) (HE.out.trans (congrArg S HS2.out.symm)), HB.out⟩
end Go.Proofs.YtkcdlfkicopmoaaDoor.Fs
