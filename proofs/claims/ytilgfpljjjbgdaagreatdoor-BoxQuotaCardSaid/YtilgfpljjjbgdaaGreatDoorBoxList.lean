/- law15: lists of deliveries; light. -/
import Derived.Test.YtilgfpljjjbgdaaGreatDoorBoxB4
namespace Go.Proofs.YtilgfpljjjbgdaaGreatDoor.Fs
open Go.RowKit Go.Proofs.YtilgfpljjjbgdaaGreatDoor Go.Proofs.YtilgfpljjjbgdaaGreatDoor.Plain Go.Proofs.YtilgfpljjjbgdaaGreatDoorW.PrintWords Go.Maps
set_option linter.unusedVariables false
set_option linter.unusedSimpArgs false
structure OpD where
  box : Nm
  id : Int
  quota : Int
  A : Option Addr
  c : Nat
  body : List UInt8
def opV (o : OpD) : Array Value := #[.string (S o.box), .int .i64 o.id, .int .i64 o.quota, .slice o.A o.body.length o.c]
def OpsAt (W : World) (A : Option Addr) (l : List OpD) : Prop := ∀ j (hj : j < l.length), ∃ ad, A = some ad ∧ ∀ i, i < 4 → W.cell? (ad.add (j * 4 + i)) = (opV l[j])[i]?
theorem opV_some (x : OpD) {i : Nat} (h : i < 4) : ∃ v, (opV x)[i]? = some v := by
  have : i < (opV x).size := h
  exact ⟨_, Array.getElem?_eq_getElem this⟩
theorem OpsAt.below {w W : World} {A : Option Addr} {l : List OpD} (h : OpsAt w A l) (hb : Below w.heap.size w W) : OpsAt W A l := fun j hj => by
  obtain ⟨ad, e, hc⟩ := h j hj
  refine ⟨ad, e, fun i hi => ?_⟩
  obtain ⟨v, hv⟩ := opV_some l[j] hi
  have h1 := (hc i hi).trans hv
  rw [hv]
  exact (World.cell?_of_block (hb.block _ (World.block_lt_of_cell? _ _ h1))).trans h1
theorem opCells {W : World} {ad : Addr} {i : Nat} {x : OpD} (h : ∀ k, k < 4 → W.cell? (ad.add (i * 4 + k)) = (opV x)[k]?) :
    W.cell? (ad.add (i * 4)) = some (.string (S x.box)) ∧ W.cell? ⟨(ad.add (i * 4)).block, (ad.add (i * 4)).off + 1, none⟩ = some (.int .i64 x.id) ∧ W.cell? ⟨(ad.add (i * 4)).block, (ad.add (i * 4)).off + 2, none⟩ = some (.int .i64 x.quota) ∧ W.cell? ⟨(ad.add (i * 4)).block, (ad.add (i * 4)).off + 3, none⟩ = some (.slice x.A x.body.length x.c) := by
  have key : ∀ k v, k < 4 → (opV x)[k]? = some v → W.cell? ((ad.add (i * 4)).add k) = some v := fun k v hk hv => by
    have h1 := (h k hk).trans hv
    rw [← Addr.add_add] at h1
    exact h1
  refine ⟨?_, key 1 (.int .i64 x.id) (by omega) rfl, key 2 (.int .i64 x.quota) (by omega) rfl, key 3 (.slice x.A x.body.length x.c) (by omega) rfl⟩
  have := key 0 (.string (S x.box)) (by omega) rfl
  simpa [Addr.add] using this
def LightP (l : List OpD) : Prop := ∀ o ∈ l, l.length ≤ 40 ∧ o.box.length ≤ 200 ∧ o.body.length ≤ 1000
def lightL (l : List OpD) : Bool := l.all fun o => decide (l.length ≤ 40 ∧ o.box.length ≤ 200 ∧ o.body.length ≤ 1000)
theorem lightL_true {l : List OpD} : lightL l = true ↔ LightP l := by
  unfold lightL LightP
  simp
theorem lightL_false {l : List OpD} (h : ¬ LightP l) : lightL l = false := by
  cases hl : lightL l with
  | false => rfl
  | true => exact absurd (lightL_true.1 hl) h
set_option maxHeartbeats 1000000 in
set_option maxRecDepth 100000 in
theorem lightIs (A : Option Addr) (c : Nat) (l : List OpD) (hn : l.length ≤ 9223372036854775807) (W : World) (h : OpsAt W A l) : Calls Tryz.prog 6 #[.slice A l.length c] W fun e W' => e = .returned (.bool (lightL l)) ∧ Below W.heap.size W W' := by
  have HS := Aside0.mk h
  clear h
  go_enter Tryz.func6, Tryz.ntmps6
  go_wp2
  go_loopw [3] (fun v3 wr => ∃ i : Nat, i ≤ l.length ∧ v3 = .int .i64 i ∧ wr = W ∧ Aside0 (∀ j (hj : j < l.length), j < i → l.length ≤ 40 ∧ l[j].box.length ≤ 200 ∧ l[j].body.length ≤ 1000)) (fun v3 _ => l.length - (intOf v3).toNat)
  case atStart => exact ⟨0, by omega, rfl, rfl, ⟨fun j hj h => by omega⟩⟩
  case round =>
    obtain ⟨i, hi, rfl, rfl, HL⟩ := hrel
    by_cases hlt : i < l.length
    · obtain ⟨ad, rfl, hcell⟩ := HS.out i hlt
      have HNO := Aside0.mk (show ¬ (l.length ≤ 40 ∧ l[i].box.length ≤ 200 ∧ l[i].body.length ≤ 1000) → ¬ LightP l from fun hb hp => hb (hp _ (List.getElem_mem hlt)))
      have HYES := Aside0.mk (show (l.length ≤ 40 ∧ l[i].box.length ≤ 200 ∧ l[i].body.length ≤ 1000) → ∀ j (hj : j < l.length), j < i + 1 → l.length ≤ 40 ∧ l[j].box.length ≤ 200 ∧ l[j].body.length ≤ 1000 from fun hb j hj h2 => by
        by_cases e : j < i
        · exact HL.out j hj e
        · obtain rfl : j = i := by omega
          exact hb)
      obtain ⟨x, hx⟩ : ∃ x, l[i] = x := ⟨_, rfl⟩
      rw [hx] at hcell HNO HYES
      obtain ⟨d0, -, -, d3⟩ := opCells hcell
      clear hx hcell HL
      by_cases h40 : 40 < l.length
      · have HN := Aside0.mk (HNO.out (fun h => by omega))
        clear HNO HYES
        go_wp2
        go_ret
        rw [lightL_false HN.out]
        exact ⟨rfl, Below.refl _ _⟩
      · by_cases h200 : 200 < x.box.length
        · have HN := Aside0.mk (HNO.out (fun h => by omega))
          clear HNO HYES
          go_wp2
          go_ret
          rw [lightL_false HN.out]
          exact ⟨rfl, Below.refl _ _⟩
        · by_cases h1000 : 1000 < x.body.length
          · have HN := Aside0.mk (HNO.out (fun h => by omega))
            clear HNO HYES
            go_wp2
            go_ret
            rw [lightL_false HN.out]
            exact ⟨rfl, Below.refl _ _⟩
          · have HY := Aside0.mk (HYES.out ⟨by omega, by omega, by omega⟩)
            clear HNO HYES
            go_wp2
            go_roundw
            case rel => exact ⟨i + 1, by omega, by go_num, by trivial, HY⟩
            case measure => simp [intOf] <;> omega
    · obtain rfl : i = l.length := by omega
      go_wp2
      go_ret
      have hp : LightP l := fun o ho => by
        obtain ⟨j, hj, rfl⟩ := List.getElem_of_mem ho
        exact HL.out j hj hj
      rw [lightL_true.2 hp]
      exact ⟨rfl, Below.refl _ _⟩
set_option maxHeartbeats 1000000 in
set_option maxRecDepth 100000 in
theorem digitsIs10 (k : Nat) (hk : k ≤ 999999999) (W : World) : Calls Tryz.prog 16 #[.int .i64 (k : Int)] W fun e W' => e = .returned (.string (S (digN 9 k))) ∧ Below W.heap.size W W' := by
  go_enter Tryz.func16, Tryz.ntmps16
  go_wp2
  go_loopw [0, 3, 4] (fun v0 v3 v4 wr => ∃ (i m : Nat) (t : Nm), i ≤ 9 ∧ m ≤ 999999999 ∧ t.length ≤ 9 ∧ v4 = .int .i64 i ∧ v0 = .int .i64 (m : Int) ∧ v3 = .string (S t) ∧ Aside0 (digN 9 k = digN (9 - i) m ++ t) ∧ Aside0 (Below W.heap.size W wr)) (fun _ _ v4 _ => 9 - (intOf v4).toNat)
  case atStart => exact ⟨0, k, [], by omega, hk, by simp, rfl, rfl, rfl, ⟨by simp⟩, ⟨Below.refl _ _⟩⟩
  case round =>
    obtain ⟨i, m, t, hi, hm, ht, rfl, rfl, rfl, HD, HB⟩ := hrel
    by_cases hlt : i < 9
    · have hstep : digN (9 - i) m = digN (9 - (i + 1)) (m / 10) ++ [dig m] := by
        rw [show 9 - i = (9 - (i + 1)) + 1 by omega]
        rfl
      have HN := Aside0.mk (show digN 9 k = digN (9 - (i + 1)) (m / 10) ++ ([dig m] ++ t) by rw [HD.out, hstep, List.append_assoc])
      have HLT := Aside0.mk (show ([dig m] ++ t).length ≤ 9 by
        have := congrArg List.length HN.out
        rw [digN_length, List.length_append, digN_length] at this
        omega)
      have hd := dig_toNat m
      have e1 : (m : Int).tmod 10 = ((m % 10 : Nat) : Int) := by rw [Int.tmod_eq_emod_of_nonneg (by omega)]; omega
      have e2 : (m : Int).tdiv 10 = ((m / 10 : Nat) : Int) := by rw [Int.tdiv_eq_ediv_of_nonneg (by omega)]; omega
      obtain ⟨r, hr⟩ : ∃ r, m % 10 = r := ⟨_, rfl⟩
      obtain ⟨q, hq⟩ : ∃ q, m / 10 = q := ⟨_, rfl⟩
      have hr9 : r ≤ 9 := by omega
      have hq9 : q ≤ 999999999 := by omega
      have hone := oneByte wr (dig m)
      rw [show ((dig m).toNat : Int) = 48 + (r : Int) by rw [hd, hr]; omega] at hone
      rw [hr] at e1
      rw [hq] at e2 HN
      have hs1 : (S [dig m]).size = 1 := rfl
      have hs2 : (S t).size = t.length := S_size t
      obtain ⟨g, hg⟩ : ∃ g, dig m = g := ⟨_, rfl⟩
      rw [hg] at hone hs1 HN HLT
      clear hstep hd hr hq hg HD
      go_wp2
      go_roundw
      case rel => exact ⟨i + 1, q, [g] ++ t, by omega, hq9, HLT.out, by go_num, by go_num, by rw [S_append], HN, ⟨below_alloc HB.out _⟩⟩
      case measure => simp [intOf] <;> omega
    · obtain rfl : i = 9 := by omega
      have HE := Aside0.mk (show S t = S (digN 9 k) by rw [HD.out]; rfl)
      clear HD
      go_wp2
      go_ret
      exact ⟨congrArg (fun s => Ending.returned (.string s)) HE.out, HB.out⟩
end Go.Proofs.YtilgfpljjjbgdaaGreatDoor.Fs
