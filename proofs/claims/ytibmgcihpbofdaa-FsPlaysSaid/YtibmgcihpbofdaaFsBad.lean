/- fs: names that are none. -/
import Derived.Test.YtibmgcihpbofdaaFsAnswers
namespace Go.Proofs.Ytibmgcihpbofdaa.Fs
open Go.RowKit Go.Proofs.Ytibmgcihpbofdaa Go.Proofs.Ytibmgcihpbofdaa.Plain Go.Proofs.YtibmgcihpbofdaaW.PrintWords Go.Maps
set_option linter.unusedVariables false
set_option linter.unusedSimpArgs false
set_option maxHeartbeats 1000000 in
set_option maxRecDepth 100000 in
theorem createNil (u : Nm) (W : World) : Calls Try.prog 13 #[.pointer none, .string (S u)] W fun e W' => e = .returned (.int .i64 1) ∧ Below W.heap.size W W' := by
  have X := readyNil (some ⟨W.heap.size + 1, 0, none⟩) 1 1 ((W.alloc (.cells #[.string (S u)] 9)).alloc (.cells #[.string (S u)] 9))
  go_enter Try.func13, Try.ntmps13
  go_wp2_with (go_at_call 33; refine X.mono ?_; rintro e W1 ⟨rfl, rfl⟩)
  go_ret
  exact ⟨rfl, below_alloc (below_alloc (Below.refl _ _) _) _⟩
set_option maxHeartbeats 1000000 in
set_option maxRecDepth 100000 in
theorem appendNil (u : Nm) (A : Option Addr) (n c : Nat) (W : World) : Calls Try.prog 14 #[.pointer none, .string (S u), .slice A n c] W fun e W' => e = .returned (.int .i64 1) ∧ Below W.heap.size W W' := by
  have X := foundNil (some ⟨W.heap.size, 0, none⟩) 1 1 (W.alloc (.cells #[.string (S u)] 9))
  go_enter Try.func14, Try.ntmps14
  go_wp2_with (go_at_call 36; refine X.mono ?_; rintro e W1 ⟨rfl, rfl⟩)
  go_ret
  exact ⟨rfl, below_alloc (Below.refl _ _) _⟩
set_option maxHeartbeats 1000000 in
set_option maxRecDepth 100000 in
theorem syncNil (u : Nm) (W : World) : Calls Try.prog 17 #[.pointer none, .string (S u)] W fun e W' => e = .returned (.int .i64 1) ∧ Below W.heap.size W W' := by
  have X := foundNil (some ⟨W.heap.size, 0, none⟩) 1 1 (W.alloc (.cells #[.string (S u)] 9))
  go_enter Try.func17, Try.ntmps17
  go_wp2_with (go_at_call 36; refine X.mono ?_; rintro e W1 ⟨rfl, rfl⟩)
  go_ret
  exact ⟨rfl, below_alloc (Below.refl _ _) _⟩
set_option maxHeartbeats 1000000 in
set_option maxRecDepth 100000 in
theorem unlinkNil (u : Nm) (W : World) : Calls Try.prog 19 #[.pointer none, .string (S u)] W fun e W' => e = .returned (.int .i64 1) ∧ Below W.heap.size W W' := by
  have X := foundNil (some ⟨W.heap.size + 1, 0, none⟩) 1 1 ((W.alloc (.cells #[.string (S u)] 9)).alloc (.cells #[.string (S u)] 9))
  go_enter Try.func19, Try.ntmps19
  go_wp2_with (go_at_call 36; refine X.mono ?_; rintro e W1 ⟨rfl, rfl⟩)
  go_ret
  exact ⟨rfl, below_alloc (below_alloc (Below.refl _ _) _) _⟩
set_option maxHeartbeats 1000000 in
set_option maxRecDepth 100000 in
theorem renameNil (u v : Nm) (W : World) : Calls Try.prog 22 #[.pointer none, .string (S u), .string (S v)] W fun e W' => e = .returned (.int .i64 1) ∧ Below W.heap.size W W' := by
  have X := foundNil (some ⟨W.heap.size + 1 + 1, 0, none⟩) 2 2 (((W.alloc (.cells #[.string (S u)] 9)).alloc (.cells #[.string (S v)] 9)).alloc (.cells #[.string (S u), .string (S v)] 9))
  go_enter Try.func22, Try.ntmps22
  go_wp2_with (go_at_call 36; refine X.mono ?_; rintro e W1 ⟨rfl, rfl⟩)
  go_ret
  exact ⟨rfl, below_alloc (below_alloc (below_alloc (Below.refl _ _) _) _) _⟩
set_option maxHeartbeats 1000000 in
set_option maxRecDepth 100000 in
theorem dirSyncNil (W : World) : Calls Try.prog 18 #[.pointer none] W fun e W' => e = .returned (.int .i64 1) ∧ W' = W := by
  have X := readyNil none 0 0 W
  go_enter Try.func18, Try.ntmps18
  go_wp2_with (go_at_call 33; refine X.mono ?_; rintro e W1 ⟨rfl, rfl⟩)
  go_ret
  exact ⟨rfl, rfl⟩
set_option maxHeartbeats 1000000 in
set_option maxRecDepth 100000 in
theorem listNil (W : World) : Calls Try.prog 24 #[.pointer none] W fun e W' => e = .returned (.slice none 0 0) ∧ W' = W := by
  go_enter Try.func24, Try.ntmps24
  go_wp2
  go_ret
  exact ⟨rfl, rfl⟩
set_option maxHeartbeats 1000000 in
set_option maxRecDepth 100000 in
theorem crashNil (n m : Int) (W : World) : Calls Try.prog 20 #[.pointer none, .int .i64 n, .int .i64 m] W fun e W' => e = .returned (.tuple #[]) ∧ W' = W := by
  go_enter Try.func20, Try.ntmps20
  go_wp2
  refine bodyPost_ret (results_none rfl _ _ _) rfl ?_
  exact ⟨rfl, rfl⟩
theorem badReady {d : Disk} {ns : List Nm} {n : Nm} (h : n ∈ ns) (hb : rightB n = false) : d.ready ns = 1 := by
  unfold Disk.ready
  rw [if_pos]
  exact List.any_eq_true.2 ⟨n, h, by rw [hb]; rfl⟩
theorem badCreate {d : Disk} {n : Nm} (hb : rightB n = false) (x : Nat) : d.create x n = (1, d) := by
  have e : d.ready [n] = 1 := badReady (by simp) hb
  rw [Disk.create, e]; rfl
theorem badAppend {d : Disk} {n : Nm} (hb : rightB n = false) (b : List UInt8) : d.append n b = (1, d) := by
  have e : d.ready [n] = 1 := badReady (by simp) hb
  rw [Disk.append, e]; rfl
theorem badSync {d : Disk} {n : Nm} (hb : rightB n = false) : d.sync n = (1, d) := by
  have e : d.ready [n] = 1 := badReady (by simp) hb
  rw [Disk.sync, e]; rfl
theorem badUnlink {d : Disk} {n : Nm} (hb : rightB n = false) : d.unlink n = (1, d) := by
  have e : d.ready [n] = 1 := badReady (by simp) hb
  rw [Disk.unlink, e]; rfl
theorem badRename {d : Disk} {n m k : Nm} (hk : k = n ∨ k = m) (hb : rightB k = false) : d.rename n m = (1, d) := by
  have e : d.ready [n, m] = 1 := badReady (n := k) (by simp [hk]) hb
  rw [Disk.rename, e]; rfl
theorem badRead {d : Disk} {n : Nm} (hb : rightB n = false) : d.read n = ([], 1) := by
  have e : d.ready [n] = 1 := badReady (by simp) hb
  rw [Disk.read, e]; rfl
theorem freshReady {n : Nm} (hb : rightB n = true) (k : Int) : (Disk.fresh k).ready [n] = 0 := by
  unfold Disk.ready
  simp [hb, Disk.fresh]
theorem freshRead {n : Nm} (hb : rightB n = true) (k : Int) : (Disk.fresh k).read n = ([], 4) := by
  rw [Disk.read, freshReady hb]; rfl
theorem freshCreate {n : Nm} (hb : rightB n = true) (k : Int) (x : Nat) : ((Disk.fresh k).create x n).1 = 0 := by
  rw [Disk.create, freshReady hb]; rfl
set_option maxHeartbeats 1000000 in
set_option maxRecDepth 100000 in
theorem appendBad {w0 W : World} {f : Nat} {d : Disk} {N : Nat} {T : Nat → Prop} (h : FsAt w0 f d N T W) (n : Nm) (hn : n.length ≤ 140737488351232) (hbad : rightB n = false) (A : Option Addr) (m c : Nat) :
    Calls Try.prog 14 #[.pointer (some ⟨f, 0, none⟩), .string (S n), .slice A m c] W fun e W' => e = .returned (.int .i64 1) ∧ FsAt w0 f d N T W' ∧ Below W.heap.size W W' := by
  have hW2 : Below W.heap.size W (W.alloc (.cells #[.string (S n)] 9)) := below_alloc (Below.refl _ _) _
  have X := found (h.step hW2) (some ⟨W.heap.size, 0, none⟩) 1 n [] (names1 (W := W) n hn #[.string (S n)] 9 (0, 0) rfl) (by simp) (m := 1) rfl
  have e : d.found [n] n = (.pointer none, 1) := by
    have e : d.ready [n] = 1 := badReady (by simp) hbad
    rw [Disk.found, e]; rfl
  rw [e] at X
  have HH := Aside0.mk h
  have HW2 := Aside0.mk hW2
  clear h hW2 e
  go_enter Try.func14, Try.ntmps14
  go_wp2_with (go_at_call 36; refine X.mono ?_; rintro e W1 ⟨rfl, hB⟩; clear X)
  go_ret
  have hB' := HW2.out.trans (hB.mono HW2.out.size)
  exact ⟨rfl, HH.out.step hB', hB'⟩
end Go.Proofs.Ytibmgcihpbofdaa.Fs
