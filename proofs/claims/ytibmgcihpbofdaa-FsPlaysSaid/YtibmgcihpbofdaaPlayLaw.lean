/- law04: FsPlays. Printed by genplaylaw.py. -/
import Derived.Test.YtibmgcihpbofdaaPlayB6
import Derived.Test.YtibmgcihpbofdaaFsBad
namespace Go.Proofs.Ytibmgcihpbofdaa.Fs
open Go.RowKit Go.Proofs.Ytibmgcihpbofdaa Go.Proofs.Ytibmgcihpbofdaa.Plain Go.Proofs.YtibmgcihpbofdaaW.PrintWords Go.Maps
set_option linter.unusedVariables false
set_option linter.unusedSimpArgs false
theorem wfLe {n : Int} (h : (Lit.int .i64 n).wf = true) : n ≤ 9223372036854775807 := by
  simp only [Lit.wf, Bool.and_eq_true, decide_eq_true_eq] at h
  exact h.2
theorem turnHeap {W X : World} {T T' : Nat → Prop} {b : Nat} {o : Obj} (ht : Turn T W T' X) (h : W.heap[b]? = some o) (hT : ¬ T b) : X.heap[b]? = some o := (ht.2.2.1 b (Array.getElem?_eq_some_iff.1 h).1 hT).trans h
theorem sixOf {X : World} {b : Nat} {c0 c1 c2 c3 c4 c5 : Value} {t : Nat} (h : X.heap[b]? = some (.cells #[c0, c1, c2, c3, c4, c5] t (0, 0))) : X.cell? ⟨b, 0, none⟩ = some c0 ∧ X.cell? ⟨b, 1, none⟩ = some c1 ∧ X.cell? ⟨b, 2, none⟩ = some c2 ∧ X.cell? ⟨b, 3, none⟩ = some c3 ∧ X.cell? ⟨b, 4, none⟩ = some c4 ∧ X.cell? ⟨b, 5, none⟩ = some c5 := by
  simp [World.cell?, h]
set_option maxHeartbeats 4000000 in
set_option maxRecDepth 100000 in
theorem playsIn {w : World} (size : Int) (A' : Option Addr) (c' : Nat) (l : List OpD) (hl : l.length ≤ 80) (hops : ∀ j (hj : j < l.length), ∃ ad B' c', A' = some ad ∧ (∀ i, i < 6 → w.cell? (ad.add (j * 6 + i)) = (#[Value.int .i64 l[j].kind, .int .i64 l[j].n, .int .i64 l[j].m, .string (S l[j].a), .string (S l[j].b), .slice B' l[j].data.length c'] : Array Value)[i]?) ∧ (Lit.int .i64 l[j].kind).wf = true ∧ (Lit.int .i64 l[j].n).wf = true ∧ (Lit.int .i64 l[j].m).wf = true ∧ l[j].a.length ≤ 140737488351232 ∧ l[j].b.length ≤ 140737488351232 ∧ ReadsInt w .u8 B' (B l[j].data).length (B l[j].data)) :
    Calls Try.prog 8 #[.int .i64 size, .slice A' l.length c'] w fun e w' => e = .returned (.bool true) ∧ Below w.heap.size w w' := by
  have HO := Aside0.mk hops
  have X0 := new (Below.refl w.heap.size w) size
  clear hops
  go_enter Try.func8, Try.ntmps8
  go_wp2_with (first
    | (go_at_call 12; refine X0.mono ?_; rintro e W1 ⟨f, T, rfl, hF, -, -⟩; have HF := Aside0.mk (bothFresh hF); clear hF X0)
    | (go_at_call 27; refine (roomLaw size _).mono ?_; rintro e W2 ⟨rfl, rfl⟩))
  go_loopw [7, 8] (fun v7 v8 wr => ∃ (i : Nat) (d : Disk) (rd : RDisk) (blk : Nat → Nat), i ≤ l.length ∧ v7 = .int .i64 i ∧ Aside0 (Sim blk d rd) ∧ Aside0 (ROk rd (1001 * i)) ∧ Aside0 (BothAny w f W2.heap.size d rd (1001 * i) wr)) (fun v7 _ _ => l.length - (intOf v7).toNat)
  case atStart => exact ⟨0, _, _, _, by omega, rfl, ⟨sim_fresh size⟩, ⟨rok_fresh size⟩, HF⟩
  case round =>
    obtain ⟨i, d, rd, blk, hi, rfl, HS, HOK, HB⟩ := hrel
    by_cases hlt : i < l.length
    · obtain ⟨ad, B', cc, hA, hcells, hkw, hnw, hmw, hla, hlb, hrd⟩ := HO.out i hlt
      subst hA
      obtain ⟨g0, g1, g2, g3, g4, g5⟩ := opCells hcells HB.out.below
      obtain ⟨o, ho⟩ : ∃ o, l[i] = o := ⟨_, rfl⟩
      rw [ho] at g0 g1 g2 g3 g4 g5 hla hlb hrd hnw hmw
      clear hkw hcells ho
      have HLA := Aside0.mk hla
      have HLB := Aside0.mk hlb
      have HRD := Aside0.mk hrd
      have HNW := Aside0.mk hnw
      have HMW := Aside0.mk (show o.m ≤ 9223372036854775807 by
        simp only [Lit.wf, Bool.and_eq_true, decide_eq_true_eq] at hmw
        exact hmw.2)
      clear hla hlb hrd hnw hmw
      have hi80 : i ≤ 80 := by omega
      by_cases k4 : (o.data.length : Int) > 1000
      · go_wp2_with (go_at_call 11; refine (answers _).mono ?_; rintro e X1 ⟨rfl, hb⟩; have HB9 := Aside0.mk hb; clear hb)
        go_ret
        exact ⟨rfl, chain' HB.out.below (chain' (by repeat (first | exact Below.refl _ _ | apply below_drew1 | refine below_alloc ?_ _)) HB9.out)⟩
      have hdl : o.data.length ≤ 1000 := by omega
      have hgt2 : ¬ (l.length : Int) > 80 := by omega
      obtain ⟨T1, R1, hb1⟩ := HB.out
      have HB1 := Aside0.mk hb1
      have hRW : ∀ k, R1 k → True := fun _ _ => trivial
      clear hb1 HB hRW
      by_cases kb : o.kind < 1 ∨ o.kind > 9
      · rcases kb with kb | kb
        · go_wp2
          go_roundw
          case rel => exact ⟨i + 1, d, rd, blk, by omega, by go_num, HS, ⟨HOK.out.le (by omega)⟩, ⟨(BothAny.step ⟨_, _, HB1.out⟩ (by repeat (first | exact Below.refl _ _ | apply below_drew1 | refine below_alloc ?_ _))).le (by omega)⟩⟩
          case measure => simp [intOf]; omega
        · go_wp2
          go_roundw
          case rel => exact ⟨i + 1, d, rd, blk, by omega, by go_num, HS, ⟨HOK.out.le (by omega)⟩, ⟨(BothAny.step ⟨_, _, HB1.out⟩ (by repeat (first | exact Below.refl _ _ | apply below_drew1 | refine below_alloc ?_ _))).le (by omega)⟩⟩
          case measure => simp [intOf]; omega
      by_cases k7 : o.kind = 7
      · rw [k7] at g0
        clear k7 kb k4
        go_wp2_with (first
          | (go_at_call 28; refine (other7 (BothAny.step ⟨_, _, HB1.out⟩ (by repeat (first | exact Below.refl _ _ | apply below_drew1 | refine below_alloc ?_ _))) _ _ _ _ _).mono ?_; rintro e W6 ⟨rfl, hB⟩; have HB6 := Aside0.mk hB; clear hB)
          | (go_at_call 30; refine (alikeAny HB6.out (sim_room HS.out _) (rok_room HOK.out _) (by omega)).mono ?_; rintro e W9 ⟨rfl, hb⟩; have HB9 := Aside0.mk (HB6.out.step hb); clear hb))
        go_roundw
        case rel => exact ⟨i + 1, _, _, blk, by omega, by go_num, ⟨(sim_room HS.out _)⟩, ⟨ROk.le (rok_room HOK.out _) (by omega)⟩, ⟨HB9.out.le (by omega)⟩⟩
        case measure => simp [intOf]; omega
      by_cases k8 : o.kind = 8
      · rw [k8] at g0
        clear k8 kb k4
        go_wp2_with (first
          | (go_at_call 28; refine (other8 (BothAny.step ⟨_, _, HB1.out⟩ (by repeat (first | exact Below.refl _ _ | apply below_drew1 | refine below_alloc ?_ _))) _ _ HNW.out _ _ _).mono ?_; rintro e W6 ⟨rfl, hB⟩; have HB6 := Aside0.mk hB; clear hB)
          | (go_at_call 30; refine (alikeAny HB6.out (sim_fuse HS.out _) (rok_fuse HOK.out _ (wfLe HNW.out)) (by omega)).mono ?_; rintro e W9 ⟨rfl, hb⟩; have HB9 := Aside0.mk (HB6.out.step hb); clear hb))
        go_roundw
        case rel => exact ⟨i + 1, _, _, blk, by omega, by go_num, ⟨(sim_fuse HS.out _)⟩, ⟨ROk.le (rok_fuse HOK.out _ (wfLe HNW.out)) (by omega)⟩, ⟨HB9.out.le (by omega)⟩⟩
        case measure => simp [intOf]; omega
      by_cases k9 : o.kind = 9
      · rw [k9] at g0
        clear k9 kb k4
        go_wp2_with (first
          | (go_at_call 28; refine (other9 (BothAny.step ⟨_, _, HB1.out⟩ (by repeat (first | exact Below.refl _ _ | apply below_drew1 | refine below_alloc ?_ _))) HOK.out (by omega) _ _ HMW.out _ _ _).mono ?_; rintro e W6 ⟨rfl, hB⟩; have HB6 := Aside0.mk hB; clear hB)
          | (go_at_call 30; refine (alikeAny HB6.out (sim_crash (N := 0) HS.out _ _) (rok_crash HOK.out _ _) (by omega)).mono ?_; rintro e W9 ⟨rfl, hb⟩; have HB9 := Aside0.mk (HB6.out.step hb); clear hb))
        go_roundw
        case rel => exact ⟨i + 1, _, _, blk, by omega, by go_num, ⟨(sim_crash (N := 0) HS.out _ _)⟩, ⟨ROk.le (rok_crash HOK.out _ _) (by omega)⟩, ⟨HB9.out.le (by omega)⟩⟩
        case measure => simp [intOf]; omega
      have hk16 : 1 ≤ o.kind ∧ o.kind ≤ 6 := by omega
      have hk1 : ¬ o.kind < 1 := by omega
      have hk9 : ¬ o.kind > 9 := by omega
      have hk7 : ¬ o.kind ≥ 7 := by omega
      have hwb : wr.heap.size = wr.heap.size := rfl
      clear kb k7 k8 k9 k4 hwb
      go_wp2
      refine wp_region_noPanic ?_
      refine wp_region_held_drew (S := (fun X => X.cell? ⟨wr.heap.size, 0, none⟩ = some (.int .i64 o.kind) ∧ X.cell? ⟨wr.heap.size, 1, none⟩ = some (.int .i64 o.n) ∧ X.cell? ⟨wr.heap.size, 2, none⟩ = some (.int .i64 o.m) ∧ X.cell? ⟨wr.heap.size, 3, none⟩ = some (.string (S o.a)) ∧ X.cell? ⟨wr.heap.size, 4, none⟩ = some (.string (S o.b)) ∧ X.cell? ⟨wr.heap.size, 5, none⟩ = some (.slice B' o.data.length cc))) (by kernel_rfl) ?_ (fun hHeld => ?_)
      · (try dsimp only); first | exact sixOf (by repeat (first | with_reducible exact at_new _ (by simp) | with_reducible apply at_drew | with_reducible refine at_old _ ?_)) | exact sixOf HH5.out | exact sixOf HH6.out | go_keep
      refine wpAnyH_take (i := 0) (v := ?_) rfl (by kernel_rfl) (by kernel_rfl) (by kernel_rfl) (fun _ _ _ h => h) (Or.inl ⟨by rfl, ?_⟩) (by assumption) ?_
      rotate_left
      · (intro w hSw; (try dsimp only at hSw); (go_simp <;> with_reducible rfl))
      try go_simp
      refine wpAnyH_take (i := 1) (v := ?_) rfl (by kernel_rfl) (by kernel_rfl) (by kernel_rfl) (fun _ _ _ h => h) (Or.inl ⟨by rfl, ?_⟩) (by assumption) ?_
      rotate_left
      · (intro w hSw; (try dsimp only at hSw); (go_simp <;> with_reducible rfl))
      try go_simp
      refine wpAnyH_take (i := 3) (v := ?_) rfl (by kernel_rfl) (by kernel_rfl) (by kernel_rfl) (fun _ _ _ h => h) (Or.inl ⟨by rfl, ?_⟩) (by assumption) ?_
      rotate_left
      · (intro w hSw; (try dsimp only at hSw); (go_simp <;> with_reducible rfl))
      try go_simp
      refine wpAnyH_take (i := 4) (v := ?_) rfl (by kernel_rfl) (by kernel_rfl) (by kernel_rfl) (fun _ _ _ h => h) (Or.inl ⟨by rfl, ?_⟩) (by assumption) ?_
      rotate_left
      · (intro w hSw; (try dsimp only at hSw); (go_simp <;> with_reducible rfl))
      try go_simp
      refine wpAnyH_take (i := 5) (v := ?_) rfl (by kernel_rfl) (by kernel_rfl) (by kernel_rfl) (fun _ _ _ h => h) (Or.inl ⟨by rfl, ?_⟩) (by assumption) ?_
      rotate_left
      · (intro w hSw; (try dsimp only at hSw); (go_simp <;> with_reducible rfl))
      try go_simp
      refine wpAnyH_take (i := 6) (v := ?_) rfl (by kernel_rfl) (by kernel_rfl) (by kernel_rfl) (fun _ _ _ h => h) (Or.inl ⟨by rfl, ?_⟩) (by assumption) ?_
      rotate_left
      · (intro w hSw; (try dsimp only at hSw); (go_simp <;> with_reducible rfl))
      try go_simp
      refine wpAnyH_take (i := 7) (v := ?_) rfl (by kernel_rfl) (by kernel_rfl) (by kernel_rfl) (fun _ _ _ h => h) (Or.inl ⟨by rfl, ?_⟩) (by assumption) ?_
      rotate_left
      · (intro w hSw; (try dsimp only at hSw); (go_simp <;> with_reducible rfl))
      try go_simp
      refine wpAnyH_take (i := 8) (v := ?_) rfl (by kernel_rfl) (by kernel_rfl) (by kernel_rfl) (fun _ _ _ h => h) (Or.inl ⟨by rfl, ?_⟩) (by assumption) ?_
      rotate_left
      · (intro w hSw; (try dsimp only at hSw); (go_simp <;> with_reducible rfl))
      try go_simp
      refine wpAnyH_take (i := 9) (v := ?_) rfl (by kernel_rfl) (by kernel_rfl) (by kernel_rfl) (fun _ _ _ h => h) (Or.inl ⟨by rfl, ?_⟩) (by assumption) ?_
      rotate_left
      · (intro w hSw; (try dsimp only at hSw); (go_simp <;> with_reducible rfl))
      try go_simp
      refine wpAnyH_take (i := 10) (v := ?_) rfl (by kernel_rfl) (by kernel_rfl) (by kernel_rfl) (fun _ _ _ h => h) (Or.inl ⟨by rfl, ?_⟩) (by assumption) ?_
      rotate_left
      · (intro w hSw; (try dsimp only at hSw); (go_simp <;> with_reducible rfl))
      try go_simp
      refine wpAnyH_take (i := 11) (v := ?_) rfl (by kernel_rfl) (by kernel_rfl) (by kernel_rfl) (fun _ _ _ h => h) (Or.inl ⟨by rfl, ?_⟩) (by assumption) ?_
      rotate_left
      · (intro w hSw; (try dsimp only at hSw); (go_simp <;> with_reducible rfl))
      try go_simp
      refine wpAnyH_ready (rs := [2]) (by kernel_rfl) (by simp) ?_
      refine AllReadyH.cons rfl (fun K hK => ?_) AllReadyH.nil
      go_simp
      go_at_call 15
      refine (doAny (HB1.out.step (by repeat (first | exact Below.refl _ _ | apply below_drew1 | refine below_alloc ?_ _))).fs o.kind o.n o.m o.a o.b HLA.out HLB.out o.data B' cc (by omega) (HRD.out.below (HB1.out.step (by repeat (first | exact Below.refl _ _ | apply below_drew1 | refine below_alloc ?_ _))).ref.below)).mono ?_
      rintro e W5 ⟨y, hy, rfl, T5, h5, ht⟩
      have HAC := Aside0.mk (bothAct HS.out HOK.out hk16 hy o.a o.b o.data)
      rw [HAC.out.2.1]
      have HB5 := Aside0.mk ((HB1.out.step (by repeat (first | exact Below.refl _ _ | apply below_drew1 | refine below_alloc ?_ _))).fsTurn h5 ht)
      have HH5 := Aside0.mk (turnHeap (b := wr.heap.size) ht (by repeat (first | with_reducible exact at_new _ (by simp) | with_reducible apply at_drew | with_reducible refine at_old _ ?_)) (fun h => by have := (HB1.out.fs.lt _ h).2; omega))
      obtain ⟨q, hq⟩ : ∃ q, (rd.act o.kind o.a o.b o.data).1 = q := ⟨_, rfl⟩
      rw [hq]
      have HQ := Aside0.mk hq
      clear hq hy h5 ht
      try go_simp
      refine hK.out _ _ ?_ (fun hHeld => ?_)
      · (try dsimp only); first | exact sixOf (by repeat (first | with_reducible exact at_new _ (by simp) | with_reducible apply at_drew | with_reducible refine at_old _ ?_)) | exact sixOf HH5.out | exact sixOf HH6.out | go_keep
      clear hK K
      try go_simp
      refine wpAnyH_ready (rs := [12]) (by kernel_rfl) (by simp) ?_
      refine AllReadyH.cons rfl (fun K hK => ?_) AllReadyH.nil
      go_simp
      go_at_call 29
      refine (refDo HB5.out.ref HOK.out (by omega) o.kind hk16 o.a o.b HLA.out HLB.out o.data B' cc HRD.out hdl).mono ?_
      rintro e W6 ⟨rfl, R6, e1, e2⟩
      rw [HQ.out]
      have HB6 := Aside0.mk (HB5.out.refTurn e1 e2)
      have HH6 := Aside0.mk (turnHeap e2 HH5.out (fun h => by have := (HB1.out.ref.lt _ h).2; omega))
      clear e1 e2
      try go_simp
      refine hK.out _ _ ?_ (fun hHeld => ?_)
      · (try dsimp only); first | exact sixOf (by repeat (first | with_reducible exact at_new _ (by simp) | with_reducible apply at_drew | with_reducible refine at_old _ ?_)) | exact sixOf HH5.out | exact sixOf HH6.out | go_keep
      clear hK K
      try go_simp
      refine wpAnyH_take (i := 13) (v := ?_) rfl (by kernel_rfl) (by kernel_rfl) (by kernel_rfl) (fun _ _ _ h => h) (Or.inl ⟨by rfl, ?_⟩) (by assumption) ?_
      rotate_left
      · (intro w hSw; (try dsimp only at hSw); (go_simp <;> with_reducible rfl))
      try go_simp
      refine wpAnyH_done (by kernel_rfl) ?_ _
      refine NoPanic.normal ?_
      obtain ⟨blk5, hs5⟩ := HAC.out.1
      have HS5 := Aside0.mk hs5
      clear hs5
      go_wp2_with (go_at_call 30; refine (alikeAny ⟨_, _, HB6.out⟩ HS5.out HAC.out.2.2 (by omega)).mono ?_; rintro e W9 ⟨rfl, hb⟩; have HB9 := Aside0.mk (BothAny.step ⟨_, _, HB6.out⟩ hb); clear hb)
      go_roundw
      case rel => exact ⟨i + 1, _, _, blk5, by omega, by go_num, HS5, ⟨HAC.out.2.2.le (by omega)⟩, ⟨HB9.out.le (by omega)⟩⟩
      case measure => simp [intOf]; omega
      -- END
    · go_wp2_with (go_at_call 11; refine (answers _).mono ?_; rintro e X1 ⟨rfl, hb⟩; have HB9 := Aside0.mk hb; clear hb)
      go_ret
      exact ⟨rfl, chain' HB.out.below HB9.out⟩
set_option maxHeartbeats 4000000 in
set_option maxRecDepth 100000 in
theorem playsOut {w : World} (size : Int) (A' : Option Addr) (c' : Nat) (l : List OpD) (hl : (l.length : Int) > 80) (hll : l.length ≤ 9223372036854775807) (hops : ∀ j (hj : j < l.length), ∃ ad B' c', A' = some ad ∧ (∀ i, i < 6 → w.cell? (ad.add (j * 6 + i)) = (#[Value.int .i64 l[j].kind, .int .i64 l[j].n, .int .i64 l[j].m, .string (S l[j].a), .string (S l[j].b), .slice B' l[j].data.length c'] : Array Value)[i]?) ∧ (Lit.int .i64 l[j].kind).wf = true ∧ (Lit.int .i64 l[j].n).wf = true ∧ (Lit.int .i64 l[j].m).wf = true ∧ l[j].a.length ≤ 140737488351232 ∧ l[j].b.length ≤ 140737488351232 ∧ ReadsInt w .u8 B' (B l[j].data).length (B l[j].data)) :
    Calls Try.prog 8 #[.int .i64 size, .slice A' l.length c'] w fun e w' => e = .returned (.bool true) ∧ Below w.heap.size w w' := by
  have HO := Aside0.mk hops
  have h0 : 0 < l.length := by omega
  have X0 := new (Below.refl w.heap.size w) size
  clear hops
  go_enter Try.func8, Try.ntmps8
  go_wp2_with (first
    | (go_at_call 12; refine X0.mono ?_; rintro e W1 ⟨f, T, rfl, hF, -, hb⟩; have HB := Aside0.mk (below_alloc hb (.cells #[.slice none 0 0, .slice none 0 0, .slice none 0 0, .int .i64 (min (max size 0) 16777216), .int .i64 (-1), .bool false] 55)); clear hF hb X0)
    | (go_at_call 27; refine (roomLaw size _).mono ?_; rintro e W2 ⟨rfl, rfl⟩))
  go_loopw [7, 8] (fun v7 v8 wr => ∃ i : Nat, i < l.length ∧ v7 = .int .i64 i ∧ Aside0 (Below w.heap.size w wr)) (fun _ _ _ => 0)
  case atStart => exact ⟨0, h0, rfl, HB⟩
  case round =>
    obtain ⟨i, hlt, rfl, HB2⟩ := hrel
    obtain ⟨ad, B', cc, hA, hcells, -⟩ := HO.out i hlt
    subst hA
    obtain ⟨g0, g1, g2, g3, g4, g5⟩ := opCells hcells HB2.out
    obtain ⟨m, hm⟩ : ∃ m, l[i].data.length = m := ⟨_, rfl⟩
    rw [hm] at g5
    clear hm hcells
    by_cases k4 : (m : Int) > 1000
    · go_wp2_with (go_at_call 11; refine (answers _).mono ?_; rintro e X1 ⟨rfl, hb⟩; have HB9 := Aside0.mk hb; clear hb)
      go_ret
      exact ⟨rfl, chain' HB2.out (chain' (by repeat (first | exact Below.refl _ _ | apply below_drew1 | refine below_alloc ?_ _)) HB9.out)⟩
    · go_wp2_with (go_at_call 11; refine (answers _).mono ?_; rintro e X1 ⟨rfl, hb⟩; have HB9 := Aside0.mk hb; clear hb)
      go_ret
      exact ⟨rfl, chain' HB2.out (chain' (by repeat (first | exact Below.refl _ _ | apply below_drew1 | refine below_alloc ?_ _)) HB9.out)⟩
theorem fsPlays {w : World} (size : Int) (hs : (Lit.int .i64 size).wf = true) (v : Value) (ho : OpsOfN w v) (hG : Glob w) :
    Calls Try.prog 8 #[.int .i64 size, v] w fun e w' => e = .returned (.bool true) ∧ Below w.heap.size w w' := by
  obtain ⟨A', c', l, rfl, hll, hops⟩ := ho
  by_cases h : (l.length : Int) > 80
  · exact playsOut size A' c' l h hll hops
  · exact playsIn size A' c' l (by omega) hops
end Go.Proofs.Ytibmgcihpbofdaa.Fs
