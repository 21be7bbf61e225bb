/- ref27: Line. -/
import Derived.Test.YtkcdlfkicopmoaaDoorScrDec
namespace Go.Proofs.YtkcdlfkicopmoaaDoor.Fs
open Go.RowKit Go.Proofs.YtkcdlfkicopmoaaDoor Go.Proofs.YtkcdlfkicopmoaaDoor.Plain Go.Proofs.YtkcdlfkicopmoaaDoorW.PrintWords Go.Maps
set_option linter.unusedVariables false
set_option linter.unusedSimpArgs false
theorem stepL_cat (k a b : Int) (t : Nm) : stepL ⟨k, a, b, t⟩ = Lib.itoa k ++ [32] ++ Lib.itoa a ++ [32] ++ Lib.itoa b ++ [32, 120] ++ hexL t ++ [10] := by
  show Lib.join [Lib.itoa k, Lib.itoa a, Lib.itoa b, 120 :: hexL t] [32] ++ [10] = _
  rw [Lib.join_cons]
  simp [Lib.joinTail]
set_option maxHeartbeats 1500000 in
set_option maxRecDepth 100000 in
theorem refLineIs (k a b : Int) (t : Nm) (hk : I64 k) (ha : I64 a) (hb : I64 b) (ht : t.length ≤ 1073741824) (w : World) : Calls Tryd.prog 27 #[.agg #[.int .i64 k, .int .i64 a, .int .i64 b, .string (S t)]] w fun e w' => e = .returned (.string (S (stepL ⟨k, a, b, t⟩))) ∧ Below w.heap.size w w' := by
  have XK := Aside0.mk (fun X => refDecIs k hk X)
  have XA := Aside0.mk (fun X => refDecIs a ha X)
  have XB := Aside0.mk (fun X => refDecIs b hb X)
  have XH := Aside0.mk (fun X => refHexIs t ht X)
  have l1 := itoa_length hk
  have l2 := itoa_length ha
  have l3 := itoa_length hb
  have l4 := hexL_length t
  have HE := Aside0.mk (stepL_cat k a b t)
  obtain ⟨K, hK⟩ : ∃ K, Lib.itoa k = K := ⟨_, rfl⟩
  obtain ⟨A, hA⟩ : ∃ A, Lib.itoa a = A := ⟨_, rfl⟩
  obtain ⟨B', hB⟩ : ∃ B', Lib.itoa b = B' := ⟨_, rfl⟩
  obtain ⟨T, hT⟩ : ∃ T, hexL t = T := ⟨_, rfl⟩
  rw [hK] at XK l1 HE
  rw [hA] at XA l2 HE
  rw [hB] at XB l3 HE
  rw [hT] at XH l4 HE
  have z1 : (S K).size = K.length := S_size K
  have z2 : (S A).size = A.length := S_size A
  have z3 : (S B').size = B'.length := S_size B'
  have z4 : (S T).size = T.length := S_size T
  have c0 : (9223372036854775807 < K.length + 1) = False := by simp; omega
  have c1 : (9223372036854775807 < K.length + 1 + A.length) = False := by simp; omega
  have c2 : (9223372036854775807 < K.length + 1 + A.length + 1) = False := by simp; omega
  have c3 : (9223372036854775807 < K.length + 1 + A.length + 1 + B'.length) = False := by simp; omega
  have c4 : (9223372036854775807 < K.length + 1 + A.length + 1 + B'.length + 2) = False := by simp; omega
  have c5 : (9223372036854775807 < K.length + 1 + A.length + 1 + B'.length + 2 + T.length) = False := by simp; omega
  have c6 : (9223372036854775807 < K.length + 1 + A.length + 1 + B'.length + 2 + T.length + 1) = False := by simp; omega
  have HC := Aside0.mk (fun (X : World) (hX : Below (w.alloc (.cells #[.int .i64 k, .int .i64 a, .int .i64 b, .string (S t)] 39)).heap.size (w.alloc (.cells #[.int .i64 k, .int .i64 a, .int .i64 b, .string (S t)] 39)) X) => stepCells (W := X) (ad := ⟨w.heap.size, 0, none⟩) (i := 0) (x := ⟨k, a, b, t⟩) (fun i hi => ((stepsNew (s := ⟨k, a, b, t⟩) (heapAt rfl hX)) 0 (by simp)).elim fun ad h => by cases h.1; exact h.2 i hi))
  have HC2 := Aside0.mk (show ∀ X : World, Below (w.alloc (.cells #[.int .i64 k, .int .i64 a, .int .i64 b, .string (S t)] 39)).heap.size (w.alloc (.cells #[.int .i64 k, .int .i64 a, .int .i64 b, .string (S t)] 39)) X → X.cell? ⟨w.heap.size, 0, none⟩ = some (.int .i64 k) ∧ X.cell? ⟨w.heap.size, 1, none⟩ = some (.int .i64 a) ∧ X.cell? ⟨w.heap.size, 2, none⟩ = some (.int .i64 b) ∧ X.cell? ⟨w.heap.size, 3, none⟩ = some (.string (S t)) from fun X hX => HC.out X hX)
  have hBB := below_alloc (Below.refl _ w) (.cells #[.int .i64 k, .int .i64 a, .int .i64 b, .string (S t)] 39)
  have HBB := Aside0.mk hBB
  have K0 := HC2.out _ (Below.refl _ _)
  clear hK hA hB hT hk ha hb HC hBB l1 l2 l3 l4
  go_enter Tryd.func27, Tryd.ntmps27
  go_wp2
  go_region_held3 (fun X => X.cell? ⟨w.heap.size, 0, none⟩ = some (.int .i64 k) ∧ X.cell? ⟨w.heap.size, 1, none⟩ = some (.int .i64 a) ∧ X.cell? ⟨w.heap.size, 2, none⟩ = some (.int .i64 b) ∧ X.cell? ⟨w.heap.size, 3, none⟩ = some (.string (S t)))
    (first | (with_reducible exact K0) | (exact HC2.out _ (by repeat (first | exact Below.refl _ _ | exact HB4.out | exact HB3.out | exact HB2.out | exact HB1.out | apply below_drew1))) | go_keep)
    (first
      | (go_at_call 33; with_reducible refine (XK.out _).mono ?_; rintro e W1 ⟨rfl, hb⟩; have HB1 := Aside0.mk (chain' (W := (w.alloc (.cells #[.int .i64 k, .int .i64 a, .int .i64 b, .string (S t)] 39))) (by repeat (first | exact Below.refl _ _ | apply below_drew1)) hb); clear hb)
      | (go_at_call 33; with_reducible refine (XA.out _).mono ?_; rintro e W2 ⟨rfl, hb⟩; have HB2 := Aside0.mk (chain' (W := (w.alloc (.cells #[.int .i64 k, .int .i64 a, .int .i64 b, .string (S t)] 39))) (by repeat (first | exact Below.refl _ _ | exact HB1.out | apply below_drew1)) hb); clear hb)
      | (go_at_call 33; with_reducible refine (XB.out _).mono ?_; rintro e W3 ⟨rfl, hb⟩; have HB3 := Aside0.mk (chain' (W := (w.alloc (.cells #[.int .i64 k, .int .i64 a, .int .i64 b, .string (S t)] 39))) (by repeat (first | exact Below.refl _ _ | exact HB2.out | apply below_drew1)) hb); clear hb)
      | (go_at_call 21; with_reducible refine (XH.out _).mono ?_; rintro e W4 ⟨rfl, hb⟩; have HB4 := Aside0.mk (chain' (W := (w.alloc (.cells #[.int .i64 k, .int .i64 a, .int .i64 b, .string (S t)] 39))) (by repeat (first | exact Below.refl _ _ | exact HB3.out | apply below_drew1)) hb); clear hb))
  go_wp2
  go_ret
  have HS5 := Aside0.mk (show S K ++ (⟨#[32]⟩ : ByteArray) ++ S A ++ (⟨#[32]⟩ : ByteArray) ++ S B' ++ (⟨#[32, 120]⟩ : ByteArray) ++ S T ++ (⟨#[10]⟩ : ByteArray) = S (K ++ [32] ++ A ++ [32] ++ B' ++ [32, 120] ++ T ++ [10]) by rw [show (⟨#[32]⟩ : ByteArray) = S [32] from rfl, show (⟨#[32, 120]⟩ : ByteArray) = S [32, 120] from rfl, show (⟨#[10]⟩ : ByteArray) = S [10] from rfl]; simp only [S_append])
  exact ⟨congrArg (fun s => Ending.returned (.string s)) (HS5.out.trans (congrArg S HE.out.symm)), chain' HBB.out HB4.out⟩
end Go.Proofs.YtkcdlfkicopmoaaDoor.Fs
