/- law15: light, right. law15: a delivery, opened. -/
import Derived.Test.YtilgfpljjjbgdaaGreatDoorBoxB3
namespace Go.Proofs.YtilgfpljjjbgdaaGreatDoor.Fs
open Go.RowKit Go.Proofs.YtilgfpljjjbgdaaGreatDoor Go.Proofs.YtilgfpljjjbgdaaGreatDoor.Plain Go.Proofs.YtilgfpljjjbgdaaGreatDoorW.PrintWords Go.Maps
set_option linter.unusedVariables false
set_option linter.unusedSimpArgs false
theorem fourC {X : World} {b : Nat} {c0 c1 c2 c3 : Value} {t : TypeId} {fr : Nat × Nat} (h : X.heap[b]? = some (.cells #[c0, c1, c2, c3] t fr)) :
    X.cell? ⟨b, 0, none⟩ = some c0 ∧ X.cell? ⟨b, 1, none⟩ = some c1 ∧ X.cell? ⟨b, 2, none⟩ = some c2 ∧ X.cell? ⟨b, 3, none⟩ = some c3 := by
  unfold World.cell?
  simp only []
  rw [h]
  exact ⟨rfl, rfl, rfl, rfl⟩
def lightB (u : Nm) (m : Nat) : Bool := decide (u.length ≤ 200 ∧ m ≤ 1000)
set_option maxHeartbeats 1000000 in
set_option maxRecDepth 100000 in
theorem lightOne (g : Nat) (u : Nm) (n q : Int) (A : Option Addr) (m c : Nat) (W : World) {t : TypeId} {fr : Nat × Nat} (h : W.heap[g]? = some (.cells #[.string (S u), .int .i64 n, .int .i64 q, .slice A m c] t fr)) : Calls Tryz.prog 6 #[.slice (some ⟨g, 0, none⟩) 1 1] W fun e W' => e = .returned (.bool (lightB u m)) ∧ Below W.heap.size W W' := by
  obtain ⟨k0, k1, k2, k3⟩ := fourC h
  have HB := Aside0.mk (show lightB u m = decide (u.length ≤ 200 ∧ m ≤ 1000) from rfl)
  clear h k1 k2
  go_enter Tryz.func6, Tryz.ntmps6
  go_wp2
  go_loopw [3] (fun v3 wr => ∃ i : Nat, i ≤ 1 ∧ v3 = .int .i64 i ∧ wr = W ∧ Aside0 (1 ≤ i → lightB u m = true)) (fun v3 _ => 1 - (intOf v3).toNat)
  case atStart => exact ⟨0, by omega, rfl, rfl, ⟨fun h => by omega⟩⟩
  case round =>
    obtain ⟨i, hi, rfl, rfl, HL⟩ := hrel
    have hc : i = 0 ∨ i = 1 := by omega
    clear hi
    rcases hc with rfl | rfl
    · by_cases h1 : 200 < u.length
      · have hl : lightB u m = false := by rw [HB.out]; simp; omega
        have HL2 := Aside0.mk hl
        clear hl HL
        go_wp2
        go_ret
        rw [HL2.out]
        exact ⟨rfl, Below.refl _ _⟩
      · by_cases h2 : 1000 < m
        · have hl : lightB u m = false := by rw [HB.out]; simp; omega
          have HL2 := Aside0.mk hl
          clear hl HL
          go_wp2
          go_ret
          rw [HL2.out]
          exact ⟨rfl, Below.refl _ _⟩
        · have HL2 := Aside0.mk (show lightB u m = true by rw [HB.out]; simp; omega)
          clear HL
          go_wp2
          go_roundw
          case rel => exact ⟨1, by omega, by go_num, by trivial, ⟨fun _ => HL2.out⟩⟩
          case measure => simp [intOf] <;> omega
    · have HL2 := Aside0.mk (HL.out (by omega))
      clear HL
      go_wp2
      go_ret
      rw [HL2.out]
      exact ⟨rfl, Below.refl _ _⟩
set_option maxHeartbeats 1000000 in
set_option maxRecDepth 100000 in
theorem lawRight (u : Nm) (hu : u.length ≤ 500000) (n q : Int) (A : Option Addr) (m c : Nat) (W : World) (hG : GI W) : Calls Tryz.prog 12 #[.agg #[.string (S u), .int .i64 n, .int .i64 q, .slice A m c]] W fun e W' => e = .returned (.bool (goodB u n)) ∧ Below W.heap.size W W' := by
  have HX := Aside0.mk (fun (X : World) (hX : Below W.heap.size W X) => refParseIs u hu X (hG.below hX))
  have HGD := Aside0.mk (show goodB u n = ((parO u && (parT u == u)) && idOk n) from rfl)
  obtain ⟨t, ht⟩ : ∃ t, parT u = t := ⟨_, rfl⟩
  obtain ⟨o, ho⟩ : ∃ o, parO u = o := ⟨_, rfl⟩
  rw [ht, ho] at HX HGD
  have HB0 := Aside0.mk (below_alloc (Below.refl W.heap.size W) (.cells #[.string (S u), .int .i64 n, .int .i64 q, .slice A m c] 29))
  have HC := Aside0.mk (fun (X : World) (hX : Below (W.alloc (.cells #[.string (S u), .int .i64 n, .int .i64 q, .slice A m c] 29)).heap.size (W.alloc (.cells #[.string (S u), .int .i64 n, .int .i64 q, .slice A m c] 29)) X) => fourC (carry hX (heapAt rfl (Below.refl _ _))))
  clear ht ho hG
  cases o with
  | false =>
    have HGD2 := Aside0.mk (show goodB u n = false by rw [HGD.out]; rfl)
    clear HGD
    go_enter Tryz.func12, Tryz.ntmps12
    go_wp2_with (go_at_call 25; refine (HX.out _ HB0.out).mono ?_; rintro e W1 ⟨rfl, hb⟩; have HB1 := Aside0.mk (chain' HB0.out hb); obtain ⟨k0, k1, -, -⟩ := HC.out _ hb; clear hb)
    all_goals go_ret
    all_goals rw [HGD2.out]
    all_goals exact ⟨rfl, HB1.out⟩
  | true =>
    by_cases h : t = u
    · have hb1 : (t == u) = true := by simpa using h
      by_cases h1 : n < 1
      · have HGD2 := Aside0.mk (show goodB u n = false by rw [HGD.out, hb1]; unfold idOk; simp; omega)
        clear HGD h
        go_enter Tryz.func12, Tryz.ntmps12
        go_wp2_with (go_at_call 25; refine (HX.out _ HB0.out).mono ?_; rintro e W1 ⟨rfl, hb⟩; have HB1 := Aside0.mk (chain' HB0.out hb); obtain ⟨k0, k1, -, -⟩ := HC.out _ hb; clear hb)
        all_goals go_ret
        all_goals rw [HGD2.out]
        all_goals exact ⟨rfl, HB1.out⟩
      · by_cases h2 : 999999999 < n
        · have HGD2 := Aside0.mk (show goodB u n = false by rw [HGD.out, hb1]; unfold idOk; simp; omega)
          clear HGD h
          go_enter Tryz.func12, Tryz.ntmps12
          go_wp2_with (go_at_call 25; refine (HX.out _ HB0.out).mono ?_; rintro e W1 ⟨rfl, hb⟩; have HB1 := Aside0.mk (chain' HB0.out hb); obtain ⟨k0, k1, -, -⟩ := HC.out _ hb; clear hb)
          all_goals go_ret
          all_goals rw [HGD2.out]
          all_goals exact ⟨congrArg (fun b => Ending.returned (.bool b)) (show decide (n ≤ 999999999) = false from decide_eq_false (by omega)), HB1.out⟩
        · have HGD2 := Aside0.mk (show goodB u n = true by rw [HGD.out, hb1]; unfold idOk; simp; omega)
          clear HGD h
          go_enter Tryz.func12, Tryz.ntmps12
          go_wp2_with (go_at_call 25; refine (HX.out _ HB0.out).mono ?_; rintro e W1 ⟨rfl, hb⟩; have HB1 := Aside0.mk (chain' HB0.out hb); obtain ⟨k0, k1, -, -⟩ := HC.out _ hb; clear hb)
          all_goals go_ret
          all_goals rw [HGD2.out]
          all_goals exact ⟨rfl, HB1.out⟩
    · have hb1 : (t == u) = false := by simpa using h
      have HGD2 := Aside0.mk (show goodB u n = false by rw [HGD.out, hb1]; rfl)
      clear HGD h
      go_enter Tryz.func12, Tryz.ntmps12
      go_wp2_with (go_at_call 25; refine (HX.out _ HB0.out).mono ?_; rintro e W1 ⟨rfl, hb⟩; have HB1 := Aside0.mk (chain' HB0.out hb); obtain ⟨k0, k1, -, -⟩ := HC.out _ hb; clear hb)
      all_goals go_ret
      all_goals rw [HGD2.out]
      all_goals exact ⟨rfl, HB1.out⟩
theorem readsBelow' {w W : World} {Q : Option Addr} {u : List UInt8} (h : ReadsInt w .u8 Q (B u).length (B u)) (hb : Below w.heap.size w W) : ReadsInt W .u8 Q (B u).length (B u) := h.below hb
/-- a delivery of the law: its argument -/
def OpOf (W : World) (v : Value) : Prop := ∃ (u : Nm) (n q : Int) (A : Option Addr) (c : Nat) (b : List UInt8), v = .agg #[.string (S u), .int .i64 n, .int .i64 q, .slice A b.length c] ∧ ReadsInt W .u8 A (B b).length (B b) ∧ (-9223372036854775808 ≤ n ∧ n ≤ 9223372036854775807) ∧ (-9223372036854775808 ≤ q ∧ q ≤ 9223372036854775807) ∧ u.length ≤ 140737488351232
theorem notIn {W : World} {A : Option Addr} {b : List UInt8} {T : Nat → Prop} (h : ReadsInt W .u8 A (B b).length (B b)) (hT : ∀ k, T k → W.heap.size ≤ k) : ∀ a, A = some a → ¬ T a.block ∨ (B b).length = 0 := fun a e => by
  rcases Nat.eq_zero_or_pos (B b).length with h0 | h0
  · exact .inr h0
  · obtain ⟨a2, e2, hc⟩ := h.2.2 h0
    obtain rfl : a2 = a := Option.some.inj (e2.symm.trans e)
    have hlt := World.block_lt_of_cell? _ _ (hc 0 h0)
    have h3 : (a2.add 0).block = a2.block := by unfold Addr.add; split <;> rfl
    rw [h3] at hlt
    exact .inl (fun hh => by have := hT _ hh; omega)
end Go.Proofs.YtilgfpljjjbgdaaGreatDoor.Fs
namespace Go.Proofs.YtilgfpljjjbgdaaGreatDoor.Fs
open Go.RowKit Go.Proofs.YtilgfpljjjbgdaaGreatDoor Go.Proofs.YtilgfpljjjbgdaaGreatDoor.Plain Go.Proofs.YtilgfpljjjbgdaaGreatDoorW.PrintWords Go.Maps Go.ChangeShapes Go.WideShapes
set_option linter.unusedVariables false
set_option linter.unusedSimpArgs false
theorem cellsOfOp : Tryz.prog.cellsOf 29 = 4 := by kernel_rfl
theorem fourE {α : Type} {l : List α} (h : l.length = 4) : ∃ a b c d, l = [a, b, c, d] := by
  match l, h with
  | [a, b, c, d], _ => exact ⟨a, b, c, d, rfl⟩
theorem i64_of {n : Int} (h : (Lit.int .i64 n).wf = true) : -9223372036854775808 ≤ n ∧ n ≤ 9223372036854775807 := by
  simp [Lit.wf] at h
  have e1 : IntKind.i64.min = -9223372036854775808 := by decide
  have e2 : IntKind.i64.max = 9223372036854775807 := by decide
  exact ⟨by omega, by omega⟩
set_option maxRecDepth 100000 in
theorem opOf {H : Type} {enc : TypeId × Value → H} {W : World} {base : Nat} {v : Value} {d : DataW H} {p : List MemPlace} (hv : Value.okWide Tryz.prog W .any base 29 v) (h : DataW.Trod enc Tryz.prog W 0 (fun _ => true) true 29 v d p) (hw : ∀ x ∈ d.weights Tryz.prog 29, x ≤ reachBytes) : OpOf W v := by
  obtain ⟨cs, rfl, hcs⟩ := okWide_struct Tryz.underlying29 hv
  obtain ⟨fuel, hf⟩ := h
  obtain ⟨xs, n, _, hx, hl, hxl, hf⟩ := DataW.trod_struct Tryz.underlying29 hf
  have hd := (Prod.mk.inj hx).1
  rw [cellsOfOp] at hl
  obtain ⟨c0, c1, c2, c3, he⟩ := fourE hl
  obtain ⟨y0, y1, y2, y3, rfl⟩ := fourE (l := xs) (by simpa using hxl)
  have hce : cs = #[c0, c1, c2, c3] := by
    simp only [Value.cells] at he
    exact Array.toList_inj.1 he
  subst hce
  rw [he] at hf
  have k3 : Tryz.prog.cellsOf 3 = 1 := by kernel_rfl
  have k9 : Tryz.prog.cellsOf 9 = 1 := by kernel_rfl
  have k22 : Tryz.prog.cellsOf 27 = 1 := by kernel_rfl
  have f0 := hf 0 _ rfl
  have f1 := hf 1 _ rfl
  have f2 := hf 2 _ rfl
  have f3 := hf 3 _ rfl
  simp only [k3, k9, k22, List.drop_succ_cons, List.drop_zero, List.take_succ_cons, List.take_zero, List.getElem?_cons_zero, List.getElem?_cons_succ] at f0 f1 f2 f3
  obtain ⟨s0, e0, q0, -⟩ := DataW.trod_string Tryz.underlying9 f0
  obtain ⟨u0, rfl⟩ := exS s0
  obtain ⟨m1, e1, -, w1⟩ := DataW.trod_int Tryz.underlying3 f1
  obtain ⟨m2, e2, -, w2⟩ := DataW.trod_int Tryz.underlying3 f2
  injection e0 with e0
  injection e1 with e1
  injection e2 with e2
  subst e0 e1 e2
  have hlen : u0.length ≤ 140737488351232 := by
    have := hw u0.length (by rw [hd]; simp [DataW.weights, Tryz.underlying29, DataW.weightsEach, q0])
    simpa [reachBytes] using this
  rcases open_ints Tryz.underlying27 Tryz.underlying5 (by kernel_rfl) f3 with ⟨e3, _⟩ | ⟨ad, l, cp, zs, e3, _, hl1, hl2, hl3, _, hcell, hwf⟩
  · injection e3 with e3
    subst e3
    exact ⟨u0, m1, m2, none, 0, [], rfl, ⟨rfl, Nat.zero_le _, fun h => absurd h (Nat.lt_irrefl 0)⟩, i64_of w1, i64_of w2, hlen⟩
  · injection e3 with e3
    subst e3
    have hzl : l ≤ zs.length := by rw [hl3]; split <;> omega
    obtain ⟨u, hu⟩ := exB (zs.take l) (fun z hz => hwf z (List.mem_of_mem_take hz))
    have hul : u.length = l := by have := congrArg List.length hu; rw [B_length, List.length_take] at this; omega
    refine ⟨u0, m1, m2, some ad, cp, u, by rw [← hul], ⟨rfl, by rw [B_length, hul]; simp only [maxLen] at hl2; omega, fun _ => ⟨ad, rfl, fun j hj => ?_⟩⟩, i64_of w1, i64_of w2, hlen⟩
    have hj' : j < l := by rw [B_length, hul] at hj; exact hj
    rw [hcell j (by omega)]
    show some (Value.int .u8 (zs.getD j 0)) = some (Value.int .u8 ((B u).getD j 0))
    rw [← hu]
    simp [List.getD_eq_getElem?_getD, List.getElem?_take, hj']
end Go.Proofs.YtilgfpljjjbgdaaGreatDoor.Fs
