/- law04: FsNone. -/
import Derived.Test.YtibmgcihpbofdaaFsBad
namespace Go.Proofs.Ytibmgcihpbofdaa.Fs
open Go.RowKit Go.Proofs.Ytibmgcihpbofdaa Go.Proofs.Ytibmgcihpbofdaa.Plain Go.Proofs.YtibmgcihpbofdaaW.PrintWords Go.Maps
set_option linter.unusedVariables false
set_option linter.unusedSimpArgs false
theorem chain {W W1 W2 : World} (h : Below W.heap.size W W1) (h' : Below W1.heap.size W1 W2) : Below W.heap.size W W2 := h.trans (h'.mono h.size)
set_option maxHeartbeats 4000000 in
set_option maxRecDepth 100000 in
theorem fsNoneBad {w : World} (u : List UInt8) (hz : u.length ≤ 140737488351232) (A : Option Addr) (m c : Nat) (n : Int) (hb : rightB u = false) :
    Calls Try.prog 9 #[.string (S u), .slice A m c, .int .i64 n] w fun e w' => e = .returned (.bool true) ∧ Below w.heap.size w w' := by
  have hb0 := Below.refl w.heap.size w
  have HB := Aside0.mk hb0
  have HBAD := Aside0.mk hb
  have RN := Aside0.mk (refName u hz)
  rw [hb] at RN
  clear hb0 hb
  go_enter Try.func9, Try.ntmps9
  go_wp2_with (first
    | (go_at_call 31; refine (roomNil _ _).mono ?_; rintro e W1 ⟨rfl, rfl⟩)
    | (go_at_call 21; refine (fuseNil _ _).mono ?_; rintro e W1 ⟨rfl, rfl⟩)
    | (go_at_call 20; refine (crashNil _ _ _).mono ?_; rintro e W1 ⟨rfl, rfl⟩)
    | (go_at_call 16; refine (read HD.out (by omega) u hz).mono ?_; rintro e W3 ⟨v, rfl, hown, hB3⟩; rw [badRead HBAD.out] at hown ⊢; have HE := Aside0.mk (HD.out.step hB3); clear HD hB3 hown)
    | (go_at_call 16; refine (readNil u _).mono ?_; rintro e W1 ⟨rfl, hB1⟩; have HB1 := Aside0.mk (chain HB.out hB1); clear HB hB1)
    | (go_at_call 12; refine (new HB1.out 100).mono ?_; rintro e W2 ⟨f, T, rfl, h2, -, -⟩; have HD := Aside0.mk h2; clear h2 HB1)
    | (go_at_call 13; refine (create HE.out (by omega) u hz).mono ?_; rintro e W4 ⟨x, -, rfl, T4, h4, -⟩; rw [badCreate HBAD.out] at h4 ⊢; have HF := Aside0.mk h4; clear h4 HE)
    | (go_at_call 14; refine (appendBad HF.out u hz HBAD.out A m c).mono ?_; rintro e W5 ⟨rfl, h5, -⟩; have HG := Aside0.mk h5; clear h5 HF)
    | (go_at_call 17; refine (sync HG.out (by omega) u hz).mono ?_; rintro e W6 ⟨rfl, T6, h6, -⟩; rw [badSync HBAD.out] at h6 ⊢; have HH := Aside0.mk h6; clear h6 HG)
    | (go_at_call 22; refine (rename HI.out (by omega) [97] u (by simp) hz).mono ?_; rintro e W8 ⟨rfl, T8, h8, -⟩; rw [badRename (.inr rfl) HBAD.out] at h8 ⊢; have HJ := Aside0.mk h8; clear h8 HI)
    | (go_at_call 22; refine (rename HH.out (by omega) u [97] hz (by simp)).mono ?_; rintro e W7 ⟨rfl, T7, h7, -⟩; rw [badRename (.inl rfl) HBAD.out] at h7 ⊢; have HI := Aside0.mk h7; clear h7 HH)
    | (go_at_call 19; refine (unlink HJ.out (by omega) u hz).mono ?_; rintro e W9 ⟨rfl, T9, h9, -⟩; rw [badUnlink HBAD.out] at h9 ⊢; have HB := Aside0.mk h9.below'; clear h9 HJ))
  go_wp2_with (first
    | (go_at_call 11; refine (answers _).mono ?_; rintro e X1 ⟨rfl, hb⟩; have HB := Aside0.mk (chain HB.out hb); clear hb)
    | (go_at_call 13; refine (createNil u _).mono ?_; rintro e X1 ⟨rfl, hb⟩; have HB := Aside0.mk (chain HB.out hb); clear hb)
    | (go_at_call 14; refine (appendNil u _ _ _ _).mono ?_; rintro e X1 ⟨rfl, hb⟩; have HB := Aside0.mk (chain HB.out hb); clear hb)
    | (go_at_call 17; refine (syncNil u _).mono ?_; rintro e X1 ⟨rfl, hb⟩; have HB := Aside0.mk (chain HB.out hb); clear hb)
    | (go_at_call 22; refine (renameNil u u _).mono ?_; rintro e X1 ⟨rfl, hb⟩; have HB := Aside0.mk (chain HB.out hb); clear hb)
    | (go_at_call 19; refine (unlinkNil u _).mono ?_; rintro e X1 ⟨rfl, hb⟩; have HB := Aside0.mk (chain HB.out hb); clear hb)
    | (go_at_call 18; refine (dirSyncNil _).mono ?_; rintro e X1 ⟨rfl, rfl⟩)
    | (go_at_call 24; refine (listNil _).mono ?_; rintro e X1 ⟨rfl, rfl⟩)
    | (go_at_call 25; refine (usedNil _).mono ?_; rintro e X1 ⟨rfl, rfl⟩)
    | (go_at_call 32; refine (looseNil _).mono ?_; rintro e X1 ⟨rfl, rfl⟩)
    | (go_at_call 23; refine (downNil _).mono ?_; rintro e X1 ⟨rfl, rfl⟩)
    | (go_at_call 10; refine (RN.out _).mono ?_; rintro e X1 ⟨rfl, hb⟩; have HB := Aside0.mk (chain HB.out hb.below); clear hb))
  go_ret
  exact ⟨rfl, HB.out⟩
set_option maxHeartbeats 4000000 in
set_option maxRecDepth 100000 in
theorem fsNoneGood {w : World} (u : List UInt8) (hz : u.length ≤ 140737488351232) (A : Option Addr) (m c : Nat) (n : Int) (hb : rightB u = true) :
    Calls Try.prog 9 #[.string (S u), .slice A m c, .int .i64 n] w fun e w' => e = .returned (.bool true) ∧ Below w.heap.size w w' := by
  have hb0 := Below.refl w.heap.size w
  have HB := Aside0.mk hb0
  have HBAD := Aside0.mk hb
  have RN := Aside0.mk (refName u hz)
  rw [hb] at RN
  clear hb0 hb
  go_enter Try.func9, Try.ntmps9
  go_wp2_with (first
    | (go_at_call 31; refine (roomNil _ _).mono ?_; rintro e W1 ⟨rfl, rfl⟩)
    | (go_at_call 21; refine (fuseNil _ _).mono ?_; rintro e W1 ⟨rfl, rfl⟩)
    | (go_at_call 20; refine (crashNil _ _ _).mono ?_; rintro e W1 ⟨rfl, rfl⟩)
    | (go_at_call 16; refine (read HD.out (by omega) u hz).mono ?_; rintro e W3 ⟨v, rfl, hown, hB3⟩; rw [freshRead HBAD.out] at hown ⊢; have HE := Aside0.mk (HD.out.step hB3); clear HD hB3 hown)
    | (go_at_call 16; refine (readNil u _).mono ?_; rintro e W1 ⟨rfl, hB1⟩; have HB1 := Aside0.mk (chain HB.out hB1); clear HB hB1)
    | (go_at_call 12; refine (new HB1.out 100).mono ?_; rintro e W2 ⟨f, T, rfl, h2, -, -⟩; have HD := Aside0.mk h2; clear h2 HB1)
    | (go_at_call 13; refine (create HE.out (by omega) u hz).mono ?_; rintro e W4 ⟨x, -, rfl, T4, h4, -⟩; rw [freshCreate HBAD.out]; have HB := Aside0.mk h4.below'; clear h4 HE))
  go_wp2_with (first
    | (go_at_call 11; refine (answers _).mono ?_; rintro e X1 ⟨rfl, hb⟩; have HB := Aside0.mk (chain HB.out hb); clear hb)
    | (go_at_call 13; refine (createNil u _).mono ?_; rintro e X1 ⟨rfl, hb⟩; have HB := Aside0.mk (chain HB.out hb); clear hb)
    | (go_at_call 14; refine (appendNil u _ _ _ _).mono ?_; rintro e X1 ⟨rfl, hb⟩; have HB := Aside0.mk (chain HB.out hb); clear hb)
    | (go_at_call 17; refine (syncNil u _).mono ?_; rintro e X1 ⟨rfl, hb⟩; have HB := Aside0.mk (chain HB.out hb); clear hb)
    | (go_at_call 22; refine (renameNil u u _).mono ?_; rintro e X1 ⟨rfl, hb⟩; have HB := Aside0.mk (chain HB.out hb); clear hb)
    | (go_at_call 19; refine (unlinkNil u _).mono ?_; rintro e X1 ⟨rfl, hb⟩; have HB := Aside0.mk (chain HB.out hb); clear hb)
    | (go_at_call 18; refine (dirSyncNil _).mono ?_; rintro e X1 ⟨rfl, rfl⟩)
    | (go_at_call 24; refine (listNil _).mono ?_; rintro e X1 ⟨rfl, rfl⟩)
    | (go_at_call 25; refine (usedNil _).mono ?_; rintro e X1 ⟨rfl, rfl⟩)
    | (go_at_call 32; refine (looseNil _).mono ?_; rintro e X1 ⟨rfl, rfl⟩)
    | (go_at_call 23; refine (downNil _).mono ?_; rintro e X1 ⟨rfl, rfl⟩)
    | (go_at_call 10; refine (RN.out _).mono ?_; rintro e X1 ⟨rfl, hb⟩; have HB := Aside0.mk (chain HB.out hb.below); clear hb))
  go_ret
  exact ⟨rfl, HB.out⟩
theorem fsNone {w : World} (u : List UInt8) (hz : u.length ≤ 140737488351232) (A : Option Addr) (m c : Nat) (x : List UInt8) (hr : ReadsInt w .u8 A m (B x)) (hc : m ≤ c) (hy : m ≤ 140737488351232) (n : Int) (hw : (Lit.int .i64 n).wf = true) (hG : Glob w) :
    Calls Try.prog 9 #[.string (S u), .slice A m c, .int .i64 n] w fun e w' => e = .returned (.bool true) ∧ Below w.heap.size w w' := by
  cases hb : rightB u with
  | false => exact fsNoneBad u hz A m c n hb
  | true => exact fsNoneGood u hz A m c n hb
end Go.Proofs.Ytibmgcihpbofdaa.Fs
