/- law23: ref10.Body. -/
import Derived.Test.YthdjeikfbbdehaaDoorDsnDec
namespace Go.Proofs.YthdjeikfbbdehaaDoor.Fs
open Go.RowKit Go.Proofs.YthdjeikfbbdehaaDoor Go.Proofs.YthdjeikfbbdehaaDoor.Plain Go.Proofs.YthdjeikfbbdehaaDoorW.PrintWords Go.Maps
set_option linter.unusedVariables false
set_option linter.unusedSimpArgs false
def bodyB (u : List UInt8) : Bool := u.all (fun c => c != 13) && (u.getLast? == none || u.getLast? == some 10)
theorem byteCell {w W : World} {Q : Option Addr} {u : List UInt8} (h : ReadsInt w .u8 Q (B u).length (B u)) (hb : Below w.heap.size w W) {j : Nat} (hj : j < u.length) : ∃ ad, Q = some ad ∧ W.cell? (ad.add j) = some (.int .u8 (u[j].toNat : Int)) := by
  obtain ⟨_, _, h3⟩ := h
  obtain ⟨ad, e, hc⟩ := h3 (by rw [B_length]; omega)
  have hc := hc j (by rw [B_length]; exact hj)
  refine ⟨ad, e, ?_⟩
  have e2 : (B u).getD j 0 = (u[j].toNat : Int) := by simp [B, List.getD, hj]
  have hc2 : w.cell? (ad.add j) = some (.int .u8 (u[j].toNat : Int)) := by rw [hc, ← e2]
  exact (World.cell?_of_block (hb.block _ (World.block_lt_of_cell? _ _ hc2))).trans hc2
set_option maxHeartbeats 1000000 in
set_option maxRecDepth 100000 in
theorem bodyIs (Q : Option Addr) (c : Nat) (u : List UInt8) (w : World) (h : ReadsInt w .u8 Q (B u).length (B u)) (hl : u.length ≤ 140737488351232) : Calls Tryd.prog 30 #[.slice Q u.length c] w fun e w' => e = .returned (.bool (bodyB u)) ∧ w' = w := by
  have HU := Aside0.mk h
  clear h
  go_enter Tryd.func30, Tryd.ntmps30
  go_wp2
  go_loopw [3] (fun v3 wr => ∃ i : Nat, i ≤ u.length ∧ v3 = .int .i64 i ∧ Aside0 (∀ j (hj : j < u.length), j < i → (u[j] == 13) = false) ∧ wr = w) (fun v3 _ => u.length - (intOf v3).toNat)
  case atStart => exact ⟨0, by omega, rfl, ⟨fun j hj h => by omega⟩, rfl⟩
  case round =>
    obtain ⟨i, hi, rfl, HI, rfl⟩ := hrel
    by_cases hlt : i < u.length
    · obtain ⟨ad, hA, hcell⟩ := byteCell HU.out (Below.refl _ _) hlt
      subst hA
      obtain ⟨b, hb⟩ : ∃ b, u[i] = b := ⟨_, rfl⟩
      rw [hb] at hcell
      have HB := Aside0.mk hb
      clear hb
      by_cases h13 : b = 13
      · subst h13
        have hcell' : wr.cell? (ad.add i) = some (.int .u8 13) := hcell
        clear hcell
        go_wp2
        go_ret
        refine ⟨?_, rfl⟩
        have e : bodyB u = false := by
          unfold bodyB
          rw [Bool.and_eq_false_iff]
          refine .inl ?_
          rw [List.all_eq_false]
          exact ⟨u[i], List.getElem_mem hlt, by rw [HB.out]; decide⟩
        rw [e]
        rfl
      · have hne : ((b.toNat : Int) == 13) = false := by
          simp only [beq_eq_false_iff_ne, ne_eq]
          exact fun e => h13 (UInt8.toNat_inj.1 (by have : b.toNat = 13 := by omega
                                                    rw [this]; rfl))
        have H13 := Aside0.mk h13
        clear h13
        go_wp2
        go_roundw
        case rel =>
          refine ⟨i + 1, by omega, by go_num, ⟨fun j hj h => ?_⟩, trivial⟩
          by_cases e : j = i
          · subst e; rw [HB.out]; simpa using H13.out
          · exact HI.out j hj (by omega)
        case measure => simp [intOf]; omega
    · obtain rfl : i = u.length := by omega
      have hall : u.all (fun c => c != 13) = true := by
        rw [List.all_eq_true]
        intro x hx
        obtain ⟨j, hj, rfl⟩ := List.getElem_of_mem hx
        have := HI.out j hj hj
        simp only [bne, this]
        rfl
      by_cases h0 : u.length = 0
      · have hu : u = [] := List.eq_nil_of_length_eq_zero h0
        subst hu
        clear HI hall
        go_wp2
        go_ret
        exact ⟨rfl, rfl⟩
      · obtain ⟨ad, hA, hcell⟩ := byteCell HU.out (Below.refl _ _) (show u.length - 1 < u.length by omega)
        subst hA
        have hlast : u.getLast? = some u[u.length - 1] := by rw [List.getLast?_eq_getElem?, List.getElem?_eq_getElem (by omega)]
        obtain ⟨b, hb⟩ : ∃ b, u[u.length - 1] = b := ⟨_, rfl⟩
        rw [hb] at hcell hlast
        have hbb : bodyB u = ((b.toNat : Int) == 10) := by
          unfold bodyB
          rw [hall, hlast]
          have : (b.toNat : Int) = 10 ↔ b = 10 := ⟨fun e => UInt8.toNat_inj.1 (by have : b.toNat = 10 := by omega
                                                                                  rw [this]; rfl), fun e => by rw [e]; rfl⟩
          rw [Bool.eq_iff_iff]
          simp [this]
        have HBB := Aside0.mk hbb
        have hsub : IntKind.i64.wrap ((u.length : Int) - 1) = ((u.length - 1 : Nat) : Int) := by rw [IntWalk.i64_in _ (by omega)]; omega
        have hpos : 0 < u.length := by omega
        have hz : ((u.length : Int) == 0) = false := by simp only [beq_eq_false_iff_ne, ne_eq]; omega
        clear HI hall hlast hbb hb hlt hi h0
        go_wp2
        go_ret
        exact ⟨by rw [HBB.out]; rfl, rfl⟩
end Go.Proofs.YthdjeikfbbdehaaDoor.Fs
