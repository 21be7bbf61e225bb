/- fs: a disk that is none. -/
import Derived.Test.YtibmgcihpbofdaaFsAnswers
namespace Go.Proofs.Ytibmgcihpbofdaa.Fs
open Go.RowKit Go.Proofs.Ytibmgcihpbofdaa Go.Proofs.Ytibmgcihpbofdaa.Plain Go.Proofs.YtibmgcihpbofdaaW.PrintWords Go.Maps
set_option linter.unusedVariables false
set_option linter.unusedSimpArgs false
set_option maxHeartbeats 1000000 in
set_option maxRecDepth 100000 in
theorem createNil (u : Nm) (W : World) : Calls Try.prog 13 #[.pointer none, .string (S u)] W fun e W' => e = .returned (.int .i64 1) ∧ Below W.heap.size W W' := by
  have X := readyNil (some ⟨W.heap.size + 1, 0, none⟩) 1 1 ((W.alloc (.cells #[.string (S u)] 9)).alloc (.cells #[.string (S u)] 9))
  go_enter Try.func13, Try.ntmps13
  go_wp2_with (go_at_call 33; refine X.mono ?_; rintro e W1 ⟨rfl, rfl⟩)
  go_ret
  exact ⟨rfl, below_alloc (below_alloc (Below.refl _ _) _) _⟩
set_option maxHeartbeats 1000000 in
set_option maxRecDepth 100000 in
theorem appendNil (u : Nm) (A : Option Addr) (n c : Nat) (W : World) : Calls Try.prog 14 #[.pointer none, .string (S u), .slice A n c] W fun e W' => e = .returned (.int .i64 1) ∧ Below W.heap.size W W' := by
  have X := foundNil (some ⟨W.heap.size, 0, none⟩) 1 1 (W.alloc (.cells #[.string (S u)] 9))
  go_enter Try.func14, Try.ntmps14
  go_wp2_with (go_at_call 36; refine X.mono ?_; rintro e W1 ⟨rfl, rfl⟩)
  go_ret
  exact ⟨rfl, below_alloc (Below.refl _ _) _⟩
set_option maxHeartbeats 1000000 in
set_option maxRecDepth 100000 in
theorem syncNil (u : Nm) (W : World) : Calls Try.prog 17 #[.pointer none, .string (S u)] W fun e W' => e = .returned (.int .i64 1) ∧ Below W.heap.size W W' := by
  have X := foundNil (some ⟨W.heap.size, 0, none⟩) 1 1 (W.alloc (.cells #[.string (S u)] 9))
  go_enter Try.func17, Try.ntmps17
  go_wp2_with (go_at_call 36; refine X.mono ?_; rintro e W1 ⟨rfl, rfl⟩)
  go_ret
  exact ⟨rfl, below_alloc (Below.refl _ _) _⟩
set_option maxHeartbeats 1000000 in
set_option maxRecDepth 100000 in
theorem unlinkNil (u : Nm) (W : World) : Calls Try.prog 19 #[.pointer none, .string (S u)] W fun e W' => e = .returned (.int .i64 1) ∧ Below W.heap.size W W' := by
  have X := foundNil (some ⟨W.heap.size + 1, 0, none⟩) 1 1 ((W.alloc (.cells #[.string (S u)] 9)).alloc (.cells #[.string (S u)] 9))
  go_enter Try.func19, Try.ntmps19
  go_wp2_with (go_at_call 36; refine X.mono ?_; rintro e W1 ⟨rfl, rfl⟩)
  go_ret
  exact ⟨rfl, below_alloc (below_alloc (Below.refl _ _) _) _⟩
set_option maxHeartbeats 1000000 in
set_option maxRecDepth 100000 in
theorem renameNil (u v : Nm) (W : World) : Calls Try.prog 22 #[.pointer none, .string (S u), .string (S v)] W fun e W' => e = .returned (.int .i64 1) ∧ Below W.heap.size W W' := by
  have X := foundNil (some ⟨W.heap.size + 1 + 1, 0, none⟩) 2 2 (((W.alloc (.cells #[.string (S u)] 9)).alloc (.cells #[.string (S v)] 9)).alloc (.cells #[.string (S u), .string (S v)] 9))
  go_enter Try.func22, Try.ntmps22
  go_wp2_with (go_at_call 36; refine X.mono ?_; rintro e W1 ⟨rfl, rfl⟩)
  go_ret
  exact ⟨rfl, below_alloc (below_alloc (below_alloc (Below.refl _ _) _) _) _⟩
set_option maxHeartbeats 1000000 in
set_option maxRecDepth 100000 in
theorem dirSyncNil (W : World) : Calls Try.prog 18 #[.pointer none] W fun e W' => e = .returned (.int .i64 1) ∧ W' = W := by
  have X := readyNil none 0 0 W
  go_enter Try.func18, Try.ntmps18
  go_wp2_with (go_at_call 33; refine X.mono ?_; rintro e W1 ⟨rfl, rfl⟩)
  go_ret
  exact ⟨rfl, rfl⟩
set_option maxHeartbeats 1000000 in
set_option maxRecDepth 100000 in
theorem listNil (W : World) : Calls Try.prog 24 #[.pointer none] W fun e W' => e = .returned (.slice none 0 0) ∧ W' = W := by
  go_enter Try.func24, Try.ntmps24
  go_wp2
  go_ret
  exact ⟨rfl, rfl⟩
set_option maxHeartbeats 1000000 in
set_option maxRecDepth 100000 in
theorem crashNil (n m : Int) (W : World) : Calls Try.prog 20 #[.pointer none, .int .i64 n, .int .i64 m] W fun e W' => e = .returned (.tuple #[]) ∧ W' = W := by
  go_enter Try.func20, Try.ntmps20
  go_wp2
  refine bodyPost_ret (results_none rfl _ _ _) rfl ?_
  exact ⟨rfl, rfl⟩
end Go.Proofs.Ytibmgcihpbofdaa.Fs
