/- law04: FsApart. -/
import Derived.Test.YtibmgcihpbofdaaFsApartPure
import Derived.Test.YtibmgcihpbofdaaFsOps
namespace Go.Proofs.Ytibmgcihpbofdaa.Fs
open Go.RowKit Go.Proofs.Ytibmgcihpbofdaa Go.Proofs.Ytibmgcihpbofdaa.Plain Go.Proofs.YtibmgcihpbofdaaW.PrintWords Go.Maps
set_option linter.unusedVariables false
set_option linter.unusedSimpArgs false
theorem opCells {W X : World} {ad : Addr} {i : Nat} {c0 c1 c2 c3 c4 c5 : Value} (h : ∀ k, k < 6 → W.cell? (ad.add (i * 6 + k)) = (#[c0, c1, c2, c3, c4, c5] : Array Value)[k]?) (hb : Below W.heap.size W X) :
    X.cell? (ad.add (i * 6)) = some c0 ∧ X.cell? ⟨(ad.add (i * 6)).block, (ad.add (i * 6)).off + 1, none⟩ = some c1 ∧ X.cell? ⟨(ad.add (i * 6)).block, (ad.add (i * 6)).off + 2, none⟩ = some c2 ∧ X.cell? ⟨(ad.add (i * 6)).block, (ad.add (i * 6)).off + 3, none⟩ = some c3 ∧ X.cell? ⟨(ad.add (i * 6)).block, (ad.add (i * 6)).off + 4, none⟩ = some c4 ∧ X.cell? ⟨(ad.add (i * 6)).block, (ad.add (i * 6)).off + 5, none⟩ = some c5 := by
  have key : ∀ k v, k < 6 → (#[c0, c1, c2, c3, c4, c5] : Array Value)[k]? = some v → X.cell? ((ad.add (i * 6)).add k) = some v := fun k v hk hv => by
    have h1 := (h k hk).trans hv
    rw [← Addr.add_add] at h1
    exact (World.cell?_of_block (hb.block _ (World.block_lt_of_cell? _ _ h1))).trans h1
  refine ⟨?_, key 1 c1 (by omega) rfl, key 2 c2 (by omega) rfl, key 3 c3 (by omega) rfl, key 4 c4 (by omega) rfl, key 5 c5 (by omega) rfl⟩
  have := key 0 c0 (by omega) rfl
  simpa [Addr.add] using this
set_option maxHeartbeats 1000000 in
set_option maxRecDepth 100000 in
theorem apartIn {w : World} (u : List UInt8) (hz : u.length ≤ 140737488351232) (A : Option Addr) (c : Nat) (data : List UInt8) (A' : Option Addr) (c' : Nat) (l : List OpD) (hu : rightB u = true) (hd : data.length ≤ 500) (hl : l.length ≤ 60) (hr : ReadsInt w .u8 A (B data).length (B data))
    (hops : ∀ j (hj : j < l.length), ∃ ad B' c', A' = some ad ∧ (∀ i, i < 6 → w.cell? (ad.add (j * 6 + i)) = (#[Value.int .i64 l[j].kind, .int .i64 l[j].n, .int .i64 l[j].m, .string (S l[j].a), .string (S l[j].b), .slice B' l[j].data.length c'] : Array Value)[i]?) ∧ (Lit.int .i64 l[j].kind).wf = true ∧ l[j].a.length ≤ 140737488351232 ∧ l[j].b.length ≤ 140737488351232 ∧ ReadsInt w .u8 B' (B l[j].data).length (B l[j].data)) :
    Calls Try.prog 3 #[.string (S u), .slice A data.length c, .slice A' l.length c'] w fun e w' => e = .returned (.bool true) ∧ Below w.heap.size w w' := by
  have HB := Aside0.mk (Below.refl w.heap.size w)
  have RU := Aside0.mk (refName u hz)
  rw [hu] at RU
  have HU := Aside0.mk hu
  have HR := Aside0.mk hr
  have HO := Aside0.mk hops
  have hgt : ¬ (data.length : Int) > 500 := by omega
  have hgt2 : ¬ (l.length : Int) > 60 := by omega
  clear hu hr hops
  go_enter Try.func3, Try.ntmps3
  go_wp2_with (first
    | (go_at_call 10; refine (RU.out _).mono ?_; rintro e X1 ⟨rfl, hb⟩; have HB := Aside0.mk (chain' HB.out hb.below); clear hb RU)
    | (go_at_call 12; refine (new HB.out 1048576).mono ?_; rintro e W0 ⟨f, T0, rfl, h0, -, -⟩; have H0 := Aside0.mk h0; clear h0)
    | (go_at_call 13; refine (create H0.out (by omega) u hz).mono ?_; rintro e W1 ⟨x, -, rfl, T1, h1, -⟩; have H1 := Aside0.mk h1; clear h1 H0)
    | (go_at_call 14; refine (append H1.out u hz data (by omega) A data.length c rfl (HR.out.below H1.out.below')).mono ?_; rintro e W2 ⟨rfl, T2, h2, -⟩; have H2 := Aside0.mk (show FsAny w f _ _ _ from ⟨_, h2⟩); clear h2 H1))
  have HS := Aside0.mk (stands_start HU.out x hd)
  obtain ⟨d0, e0⟩ : ∃ d0, (((Disk.fresh 1048576).create x u).2.append u data).2 = d0 := ⟨_, rfl⟩
  rw [e0] at HS H2
  clear e0
  go_loopw [8, 9, 10, 11] (fun v8 v9 v10 v11 wr => ∃ (i : Nat) (d : Disk), i ≤ l.length ∧ v8 = .int .i64 i ∧ Aside0 (Stands u x data d) ∧ Aside0 (FsAny w f d (502 + 501 * i) wr)) (fun v8 _ _ _ _ => l.length - (intOf v8).toNat)
  case atStart => exact ⟨0, d0, by omega, rfl, HS, ⟨fsAny_le H2.out (by omega)⟩⟩
  case round =>
    obtain ⟨i, d, hi, rfl, HST, HF⟩ := hrel
    clear HS H2
    by_cases hlt : i < l.length
    · obtain ⟨ad, B', cc, hA, hcells, hkw, hla, hlb, hrd⟩ := HO.out i hlt
      subst hA
      obtain ⟨T, hf⟩ := HF.out
      obtain ⟨g0, g1, g2, g3, g4, g5⟩ := opCells hcells hf.below'
      obtain ⟨o, ho⟩ : ∃ o, l[i] = o := ⟨_, rfl⟩
      rw [ho] at g0 g1 g2 g3 g4 g5 hla hlb hrd
      clear hkw hcells ho
      have HF1 := Aside0.mk hf
      have HLA := Aside0.mk hla
      have HLB := Aside0.mk hlb
      have HRD := Aside0.mk hrd
      clear hf hla hlb hrd
      have HNX := Aside0.mk (HF1.out.step (below_alloc (Below.refl _ _) (Obj.cells #[.int .i64 o.kind, .int .i64 o.n, .int .i64 o.m, .string (S o.a), .string (S o.b), .slice B' o.data.length cc] 32)))
      by_cases k1 : o.a = u
      · have b1 : (o.a == u) = true := by simpa using k1
        clear k1
        go_wp2
        go_roundw
        case rel => exact ⟨i + 1, d, by omega, by go_num, HST, ⟨fsAny_le ⟨_, HNX.out⟩ (by omega)⟩⟩
        case measure => simp [intOf]; omega
      have b1 : (o.a == u) = false := by simpa using k1
      by_cases k2 : o.b = u
      · have b2 : (o.b == u) = true := by simpa using k2
        clear k1 k2
        go_wp2
        go_roundw
        case rel => exact ⟨i + 1, d, by omega, by go_num, HST, ⟨fsAny_le ⟨_, HNX.out⟩ (by omega)⟩⟩
        case measure => simp [intOf]; omega
      have b2 : (o.b == u) = false := by simpa using k2
      by_cases k3 : o.kind > 6
      · skip
        clear k1 k2
        go_wp2
        go_roundw
        case rel => exact ⟨i + 1, d, by omega, by go_num, HST, ⟨fsAny_le ⟨_, HNX.out⟩ (by omega)⟩⟩
        case measure => simp [intOf]; omega
      by_cases k4 : (o.data.length : Int) > 500
      · skip
        clear k1 k2
        go_wp2
        go_roundw
        case rel => exact ⟨i + 1, d, by omega, by go_num, HST, ⟨fsAny_le ⟨_, HNX.out⟩ (by omega)⟩⟩
        case measure => simp [intOf]; omega
      have k5 : o.data.length ≤ 500 := by omega
      have HK1 := Aside0.mk k1
      have HK2 := Aside0.mk k2
      have XD := doAny HNX.out o.kind o.n o.m o.a o.b HLA.out HLB.out o.data B' cc (by omega) (HRD.out.below HNX.out.below')
      clear k1 k2
      go_wp2_with (first
        | (go_at_call 15; refine XD.mono ?_; rintro e W5 ⟨y, hy, rfl, T5, h5, -⟩; have hst := stands_act HST.out HK1.out HK2.out hy (v := o.data); obtain ⟨d5, e5⟩ : ∃ d5, (d.act y o.kind o.a o.b o.data).2 = d5 := ⟨_, rfl⟩; rw [e5] at h5 hst; have H5 := Aside0.mk h5; have HST5 := Aside0.mk hst; clear h5 hst e5 hy XD)
        | (go_at_call 16; refine (read H5.out (by omega) u hz).mono ?_; rintro e W6 ⟨v6, rfl, hown, hB⟩; rw [stands_read HST5.out HU.out] at hown ⊢; obtain ⟨A6, c6, rfl⟩ := own_slice hown; have hcv1 := convAny (c := c6) (own_reads' hown) (B_length data); have hcv2 := convAny (c := c) (HR.out.below (chain' H5.out.below' hB)) rfl; have H6 := Aside0.mk (H5.out.step hB); have hb6 : (B data).length = data.length := B_length data; rw [hb6] at hcv1 ⊢; clear hown hB hb6))
      go_roundw
      case rel => exact ⟨i + 1, d5, by omega, by go_num, HST5, ⟨fsAny_le ⟨_, H6.out⟩ (by omega)⟩⟩
      case measure => simp [intOf]; omega
    · go_wp2_with (go_at_call 11; refine (answers _).mono ?_; rintro e X1 ⟨rfl, hb⟩; have HB9 := Aside0.mk hb; clear hb)
      go_ret
      obtain ⟨T, hf⟩ := HF.out
      exact ⟨rfl, chain' hf.below' HB9.out⟩
set_option maxHeartbeats 1000000 in
set_option maxRecDepth 100000 in
theorem apartOut {w : World} (u : List UInt8) (hz : u.length ≤ 140737488351232) (A : Option Addr) (n c : Nat) (A' : Option Addr) (n' c' : Nat) (h : rightB u = false ∨ 500 < n ∨ 60 < n') :
    Calls Try.prog 3 #[.string (S u), .slice A n c, .slice A' n' c'] w fun e w' => e = .returned (.bool true) ∧ Below w.heap.size w w' := by
  have HB := Aside0.mk (Below.refl w.heap.size w)
  have RU := Aside0.mk (refName u hz)
  cases hu : rightB u with
  | false =>
    rw [hu] at RU
    clear hu h
    go_enter Try.func3, Try.ntmps3
    go_wp2_with (first
      | (go_at_call 10; refine (RU.out _).mono ?_; rintro e X1 ⟨rfl, hb⟩; have HB := Aside0.mk (chain' HB.out hb.below); clear hb RU)
      | (go_at_call 11; refine (answers _).mono ?_; rintro e X1 ⟨rfl, hb⟩; have HB := Aside0.mk (chain' HB.out hb); clear hb))
    go_ret
    exact ⟨rfl, HB.out⟩
  | true =>
    rw [hu] at RU
    by_cases h1 : (n : Int) > 500
    · clear hu h
      go_enter Try.func3, Try.ntmps3
      go_wp2_with (first
          | (go_at_call 10; refine (RU.out _).mono ?_; rintro e X1 ⟨rfl, hb⟩; have HB := Aside0.mk (chain' HB.out hb.below); clear hb RU)
          | (go_at_call 11; refine (answers _).mono ?_; rintro e X1 ⟨rfl, hb⟩; have HB := Aside0.mk (chain' HB.out hb); clear hb))
      go_ret
      exact ⟨rfl, HB.out⟩
    · have h2 : (n' : Int) > 60 := by
        rcases h with h | h | h
        · rw [hu] at h; cases h
        · omega
        · omega
      clear hu h
      go_enter Try.func3, Try.ntmps3
      go_wp2_with (first
          | (go_at_call 10; refine (RU.out _).mono ?_; rintro e X1 ⟨rfl, hb⟩; have HB := Aside0.mk (chain' HB.out hb.below); clear hb RU)
          | (go_at_call 11; refine (answers _).mono ?_; rintro e X1 ⟨rfl, hb⟩; have HB := Aside0.mk (chain' HB.out hb); clear hb))
      go_ret
      exact ⟨rfl, HB.out⟩
theorem fsApart {w : World} (u : List UInt8) (hz : u.length ≤ 140737488351232) (A : Option Addr) (n c : Nat) (data : List UInt8) (hr : ReadsInt w .u8 A n (B data)) (hc : n ≤ c) (hy : n ≤ 140737488351232) (v : Value) (ho : OpsOf w v) (hG : Glob w) :
    Calls Try.prog 3 #[.string (S u), .slice A n c, v] w fun e w' => e = .returned (.bool true) ∧ Below w.heap.size w w' := by
  obtain ⟨A', c', l, rfl, _, hops⟩ := ho
  by_cases h : rightB u = false ∨ 500 < n ∨ 60 < l.length
  · exact apartOut u hz A n c A' _ c' h
  · simp only [not_or, Bool.not_eq_false] at h
    have e1 : n = data.length := by rw [← hr.1, B_length]
    subst e1
    exact apartIn u hz A c data A' c' l h.1 (by omega) (by omega) (by rw [B_length]; exact hr) hops
end Go.Proofs.Ytibmgcihpbofdaa.Fs
