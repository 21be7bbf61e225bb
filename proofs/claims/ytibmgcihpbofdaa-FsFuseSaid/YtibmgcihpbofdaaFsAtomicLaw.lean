/- law04: FsAtomic. -/
import Derived.Test.YtibmgcihpbofdaaFsCrash
import Derived.Test.YtibmgcihpbofdaaFsAtomicPure
namespace Go.Proofs.Ytibmgcihpbofdaa.Fs
open Go.RowKit Go.Proofs.Ytibmgcihpbofdaa Go.Proofs.Ytibmgcihpbofdaa.Plain Go.Proofs.YtibmgcihpbofdaaW.PrintWords Go.Maps
set_option linter.unusedVariables false
set_option linter.unusedSimpArgs false
theorem chain' {W W1 W2 : World} (h : Below W.heap.size W W1) (h' : Below W1.heap.size W1 W2) : Below W.heap.size W W2 := h.trans (h'.mono h.size)
theorem convAny {w : World} {AA : Option Addr} {a : List UInt8} {n c : Nat} (h : ReadsInt w .u8 AA (B a).length (B a)) (hn : n = a.length) : (convert 22 9 (.slice AA n c)).run Try.prog w = .ok (.string (S a)) w := by
  subst hn
  have hC : Kd.C (Kd.int .u8) w AA (B a).length (B a) := Kd.C_of_reads (d := (0 : Int)) (h1 := fun _ => rfl) h
  have := Kd.C_string (P := Try.prog) (c := c) Try.underlying22 Try.underlying5 Try.underlying9 hC
  rw [B_length, strOfNums_B] at this
  exact this
theorem wfSmall {k : Int} (h : 0 ≤ k) (h' : k ≤ 255) : (Lit.int .i64 k).wf = true := by
  have e1 : IntKind.i64.min = -9223372036854775808 := rfl
  have e2 : IntKind.i64.max = 9223372036854775807 := rfl
  simp only [Lit.wf, e1, e2, Bool.and_eq_true, decide_eq_true_eq]
  omega
section
variable {w : World} (u v : List UInt8) (hz : u.length ≤ 140737488351232) (hz' : v.length ≤ 140737488351232) (A : Option Addr) (c : Nat) (old : List UInt8) (A' : Option Addr) (c' : Nat) (young : List UInt8) (n m k : Int)
include hz hz'
set_option maxHeartbeats 1000000 in
set_option maxRecDepth 100000 in
theorem atomicOut (hy : old.length ≤ 140737488351232) (hy' : young.length ≤ 140737488351232) (hout : rightB u = false ∨ rightB v = false ∨ u = v ∨ 1000 < old.length + young.length) :
    Calls Try.prog 5 #[.string (S u), .string (S v), .slice A old.length c, .slice A' young.length c', .int .i64 n, .int .i64 m, .int .u8 k] w fun e w' => e = .returned (.bool true) ∧ Below w.heap.size w w' := by
  have hb0 := Below.refl w.heap.size w
  have HB := Aside0.mk hb0
  have RU := Aside0.mk (refName u hz)
  have RV := Aside0.mk (refName v hz')
  clear hb0
  have hsum : IntKind.i64.wrap ((old.length : Int) + (young.length : Int)) = (old.length : Int) + young.length := IntWalk.i64_in _ (by omega)
  cases hu : rightB u with
  | false =>
    rw [hu] at RU
    clear hout hu
    go_enter Try.func5, Try.ntmps5
    go_wp2_with (first
      | (go_at_call 10; refine (RU.out _).mono ?_; rintro e X1 ⟨rfl, hb⟩; have HB := Aside0.mk (chain' HB.out hb.below); clear hb)
      | (go_at_call 11; refine (answers _).mono ?_; rintro e X1 ⟨rfl, hb⟩; have HB := Aside0.mk (chain' HB.out hb); clear hb))
    go_ret
    exact ⟨rfl, HB.out⟩
  | true =>
    rw [hu] at RU
    cases hv : rightB v with
    | false =>
      rw [hv] at RV
      clear hout hu hv
      go_enter Try.func5, Try.ntmps5
      go_wp2_with (first
        | (go_at_call 10; refine (RU.out _).mono ?_; rintro e X1 ⟨rfl, hb⟩; have HB := Aside0.mk (chain' HB.out hb.below); clear hb RU)
        | (go_at_call 10; refine (RV.out _).mono ?_; rintro e X1 ⟨rfl, hb⟩; have HB := Aside0.mk (chain' HB.out hb.below); clear hb)
        | (go_at_call 11; refine (answers _).mono ?_; rintro e X1 ⟨rfl, hb⟩; have HB := Aside0.mk (chain' HB.out hb); clear hb))
      go_ret
      exact ⟨rfl, HB.out⟩
    | true =>
      rw [hv] at RV
      by_cases huv : u = v
      · subst huv
        have hself : (u == u) = true := by simp
        clear hout hu hv
        go_enter Try.func5, Try.ntmps5
        go_wp2_with (first
          | (go_at_call 10; refine (RU.out _).mono ?_; rintro e X1 ⟨rfl, hb⟩; have HB := Aside0.mk (chain' HB.out hb.below); clear hb)
          | (go_at_call 11; refine (answers _).mono ?_; rintro e X1 ⟨rfl, hb⟩; have HB := Aside0.mk (chain' HB.out hb); clear hb))
        go_ret
        exact ⟨rfl, HB.out⟩
      · have hne : (u == v) = false := by simpa using huv
        have hlen : 1000 < old.length + young.length := by
          rcases hout with h | h | h | h
          · rw [hu] at h; cases h
          · rw [hv] at h; cases h
          · exact absurd h huv
          · exact h
        have hgt : (old.length : Int) + young.length > 1000 := by omega
        clear hout hu hv huv hlen
        go_enter Try.func5, Try.ntmps5
        go_wp2_with (first
          | (go_at_call 10; refine (RU.out _).mono ?_; rintro e X1 ⟨rfl, hb⟩; have HB := Aside0.mk (chain' HB.out hb.below); clear hb RU)
          | (go_at_call 10; refine (RV.out _).mono ?_; rintro e X1 ⟨rfl, hb⟩; have HB := Aside0.mk (chain' HB.out hb.below); clear hb)
          | (go_at_call 11; refine (answers _).mono ?_; rintro e X1 ⟨rfl, hb⟩; have HB := Aside0.mk (chain' HB.out hb); clear hb))
        go_ret
        exact ⟨rfl, HB.out⟩
set_option maxHeartbeats 2000000 in
set_option maxRecDepth 100000 in
theorem atomicIn (hu : rightB u = true) (hv : rightB v = true) (huv : u ≠ v) (hlen : old.length + young.length ≤ 1000) (hr : ReadsInt w .u8 A (B old).length (B old)) (hr' : ReadsInt w .u8 A' (B young).length (B young)) (hk : 0 ≤ k ∧ k ≤ 255) :
    Calls Try.prog 5 #[.string (S u), .string (S v), .slice A old.length c, .slice A' young.length c', .int .i64 n, .int .i64 m, .int .u8 k] w fun e w' => e = .returned (.bool true) ∧ Below w.heap.size w w' := by
  have HB := Aside0.mk (Below.refl w.heap.size w)
  have RU := Aside0.mk (refName u hz)
  have RV := Aside0.mk (refName v hz')
  have hne : (u == v) = false := by simpa using huv
  rw [hu] at RU
  rw [hv] at RV
  have HU := Aside0.mk hu
  have HV := Aside0.mk hv
  have HUV := Aside0.mk huv
  have HR := Aside0.mk hr
  have HR' := Aside0.mk hr'
  have hsum : IntKind.i64.wrap ((old.length : Int) + (young.length : Int)) = (old.length : Int) + young.length := IntWalk.i64_in _ (by omega)
  have hgt : ¬ (old.length : Int) + young.length > 1000 := by omega
  have HKW := Aside0.mk (show (Lit.int .i64 (k % 8)).wf = true from wfSmall (by omega) (by omega))
  clear hu hv huv hr hr'
  go_enter Try.func5, Try.ntmps5
  go_wp2_with (first
    | (go_at_call 10; refine (RU.out _).mono ?_; rintro e X1 ⟨rfl, hb⟩; have HB := Aside0.mk (chain' HB.out hb.below); clear hb RU)
    | (go_at_call 10; refine (RV.out _).mono ?_; rintro e X1 ⟨rfl, hb⟩; have HB := Aside0.mk (chain' HB.out hb.below); clear hb)
    | (go_at_call 12; refine (new HB.out 5000).mono ?_; rintro e W0 ⟨f, T0, rfl, h0, -, -⟩; have H0 := Aside0.mk h0; clear h0)
    | (go_at_call 13; refine (create H0.out (by omega) v hz').mono ?_; rintro e W1 ⟨x, -, rfl, T1, h1, -⟩; obtain ⟨d1, e1⟩ : ∃ d1, ((Disk.fresh 5000).create x v).2 = d1 := ⟨_, rfl⟩; rw [e1] at h1; have H1 := Aside0.mk h1; have E1 := Aside0.mk e1; clear h1 e1 H0)
    | (go_at_call 14; refine (append H1.out v hz' old (by omega) A old.length c rfl (HR.out.below H1.out.below')).mono ?_; rintro e W2 ⟨rfl, T2, h2, -⟩; obtain ⟨d2, e2⟩ : ∃ d2, (d1.append v old).2 = d2 := ⟨_, rfl⟩; rw [e2] at h2; have H2 := Aside0.mk h2; have E2 := Aside0.mk e2; clear h2 e2 H1)
    | (go_at_call 17; refine (sync H2.out (by omega) v hz').mono ?_; rintro e W3 ⟨rfl, T3, h3, -⟩; obtain ⟨d3, e3⟩ : ∃ d3, (d2.sync v).2 = d3 := ⟨_, rfl⟩; rw [e3] at h3; have H3 := Aside0.mk h3; have E3 := Aside0.mk e3; clear h3 e3 H2)
    | (go_at_call 18; refine (dirSync H3.out).mono ?_; rintro e W4 ⟨rfl, T4, h4, -⟩; obtain ⟨d4, e4⟩ : ∃ d4, d3.dirSync.2 = d4 := ⟨_, rfl⟩; rw [e4] at h4; have H4 := Aside0.mk h4; have E4 := Aside0.mk e4; clear h4 e4 H3)
    | (go_at_call 21; refine (fuse H4.out (k % 8) HKW.out).mono ?_; rintro e W5 ⟨rfl, h5, -⟩; obtain ⟨d5, e5⟩ : ∃ d5, d4.setFuse (k % 8) = d5 := ⟨_, rfl⟩; rw [e5] at h5; have H5 := Aside0.mk h5; have E5 := Aside0.mk e5; clear h5 e5 H4)
    | (go_at_call 13; refine (create H5.out (by omega) u hz).mono ?_; rintro e W6 ⟨y, hy, rfl, T6, h6, -⟩; obtain ⟨d6, e6⟩ : ∃ d6, (d5.create y u).2 = d6 := ⟨_, rfl⟩; rw [e6] at h6; have H6 := Aside0.mk h6; have E6 := Aside0.mk e6; have HY := Aside0.mk hy; clear h6 e6 hy H5)
    | (go_at_call 14; refine (append H6.out u hz young (by omega) A' young.length c' rfl (HR'.out.below H6.out.below')).mono ?_; rintro e W7 ⟨rfl, T7, h7, -⟩; obtain ⟨d7, e7⟩ : ∃ d7, (d6.append u young).2 = d7 := ⟨_, rfl⟩; rw [e7] at h7; have H7 := Aside0.mk h7; have E7 := Aside0.mk e7; clear h7 e7 H6)
    | (go_at_call 17; refine (sync H7.out (by omega) u hz).mono ?_; rintro e W8 ⟨rfl, T8, h8, -⟩; obtain ⟨d8, e8⟩ : ∃ d8, (d7.sync u).2 = d8 := ⟨_, rfl⟩; rw [e8] at h8; have H8 := Aside0.mk h8; have E8 := Aside0.mk e8; clear h8 e8 H7)
    | (go_at_call 22; refine (rename H8.out (by omega) u v hz hz').mono ?_; rintro e W9 ⟨rfl, T9, h9, -⟩; obtain ⟨d9, e9⟩ : ∃ d9, (d8.rename u v).2 = d9 := ⟨_, rfl⟩; rw [e9] at h9; have H9 := Aside0.mk h9; have E9 := Aside0.mk e9; clear h9 e9 H8)
    | (go_at_call 18; refine (dirSync H9.out).mono ?_; rintro e W10 ⟨rfl, T10, h10, -⟩; obtain ⟨d10, e10⟩ : ∃ d10, d9.dirSync.2 = d10 := ⟨_, rfl⟩; rw [e10] at h10; have H10 := Aside0.mk h10; have E10 := Aside0.mk e10; clear h10 e10 H9)
    | (go_at_call 20; refine (crash H10.out (by omega) n m).mono ?_; rintro e W11 ⟨rfl, T11, h11, -⟩; have H11 := Aside0.mk h11; clear h11 H10))
  have hst := st_start (b := v) (a := u) (x := x) (y := y) (old := old) (young := young) HV.out (by omega) (k % 8)
  rw [E1.out, E2.out, E3.out, E4.out, E5.out] at hst
  have hsure : d5.sure = [(v, x)] := by rw [← E5.out]; exact hst.2
  have hyx : y ≠ x := fun e => HY.out (.inl ⟨v, by rw [hsure, e]; simp⟩)
  have s1 := st_create hst.1 HU.out HUV.out hyx
  rw [E6.out] at s1
  have s2 := st_append s1 HU.out HUV.out hyx hlen
  rw [E7.out] at s2
  have s3 := st_sync s2 HU.out HUV.out hyx
  rw [E8.out] at s3
  have s4 := st_rename s3 HU.out HV.out HUV.out
  rw [E9.out] at s4
  have s5 := st_dirSync s4 HUV.out
  rw [E10.out] at s5
  have hrd := ok_read (st_ok s5) HV.out HUV.out n m
  clear hst hsure hyx s1 s2 s3 s4 s5 E1 E2 E3 E4 E5 E6 E7 E8 E9 E10 HY
  have X := read H11.out (by omega) v hz'
  obtain ⟨r, hrr, hro⟩ : ∃ r, (d10.crash n m).read v = (r, 0) ∧ (r = old ∨ r = young) := by
    rcases hrd with h | h
    · exact ⟨_, h, .inl rfl⟩
    · exact ⟨_, h, .inr rfl⟩
  rw [hrr] at X
  clear hrd hrr
  have HB11 := Aside0.mk H11.out.below'
  clear H11
  refine X.mono ?_
  rintro e W12 ⟨vv, rfl, hown, hB12⟩
  clear X
  obtain ⟨A2, c2, rfl⟩ := own_slice hown
  have hrl : (B r).length = r.length := B_length r
  have HRR := Aside0.mk (own_reads' hown)
  have HB12 := Aside0.mk (chain' HB11.out hB12)
  rw [hrl]
  clear hown hB12 hrl HB11
  by_cases h1 : r = old
  · have hb1 : (r == old) = true := by simpa using h1
    clear h1 hro
    go_wp2_with (go_at_call 11; refine (answers _).mono ?_; rintro e X1 ⟨rfl, hb⟩; have hcv1 := convAny (c := c2) (HRR.out.below hb) rfl; have hcv2 := convAny (c := c) (HR.out.below (chain' HB12.out hb)) rfl; have hcv3 := convAny (c := c') (HR'.out.below (chain' HB12.out hb)) rfl; have HB := Aside0.mk (chain' HB12.out hb); clear hb)
    go_ret
    exact ⟨rfl, HB.out⟩
  · have hb1 : (r == old) = false := by simpa using h1
    have hb2 : (r == young) = true := by simpa using hro.resolve_left h1
    clear h1 hro
    go_wp2_with (go_at_call 11; refine (answers _).mono ?_; rintro e X1 ⟨rfl, hb⟩; have hcv1 := convAny (c := c2) (HRR.out.below hb) rfl; have hcv2 := convAny (c := c) (HR.out.below (chain' HB12.out hb)) rfl; have hcv3 := convAny (c := c') (HR'.out.below (chain' HB12.out hb)) rfl; have HB := Aside0.mk (chain' HB12.out hb); clear hb)
    go_ret
    exact ⟨rfl, HB.out⟩
end
theorem fsAtomic {w : World} (u : List UInt8) (hz : u.length ≤ 140737488351232) (v : List UInt8) (hz' : v.length ≤ 140737488351232) (A : Option Addr) (l c : Nat) (old : List UInt8) (hr : ReadsInt w .u8 A l (B old)) (hc : l ≤ c) (hy : l ≤ 140737488351232) (A' : Option Addr) (l' c' : Nat) (young : List UInt8) (hr' : ReadsInt w .u8 A' l' (B young)) (hc' : l' ≤ c') (hy' : l' ≤ 140737488351232) (n : Int) (hn : (Lit.int .i64 n).wf = true) (m : Int) (hm : (Lit.int .i64 m).wf = true) (k : Int) (hk : (Lit.int .u8 k).wf = true) (hG : Glob w) :
    Calls Try.prog 5 #[.string (S u), .string (S v), .slice A l c, .slice A' l' c', .int .i64 n, .int .i64 m, .int .u8 k] w fun e w' => e = .returned (.bool true) ∧ Below w.heap.size w w' := by
  have e1 : l = old.length := by rw [← hr.1, B_length]
  have e2 : l' = young.length := by rw [← hr'.1, B_length]
  subst e1 e2
  have hk' : 0 ≤ k ∧ k ≤ 255 := by
    have e1 : IntKind.u8.min = 0 := rfl
    have e2 : IntKind.u8.max = 255 := rfl
    simp only [Lit.wf, e1, e2, Bool.and_eq_true, decide_eq_true_eq] at hk
    omega
  by_cases h : rightB u = false ∨ rightB v = false ∨ u = v ∨ 1000 < old.length + young.length
  · exact atomicOut u v hz hz' A c old A' c' young n m k hy hy' h
  · simp only [not_or, Bool.not_eq_false] at h
    exact atomicIn u v hz hz' A c old A' c' young n m k h.1 h.2.1 h.2.2.1 (by omega) (by rw [B_length]; exact hr) (by rw [B_length]; exact hr') hk'
end Go.Proofs.Ytibmgcihpbofdaa.Fs
