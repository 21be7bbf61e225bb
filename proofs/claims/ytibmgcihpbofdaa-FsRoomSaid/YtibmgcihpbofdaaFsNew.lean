/- fs: New. -/
import Derived.Test.YtibmgcihpbofdaaFsDirs
namespace Go.Proofs.Ytibmgcihpbofdaa.Fs
open Go.RowKit Go.Proofs.Ytibmgcihpbofdaa Go.Proofs.Ytibmgcihpbofdaa.Plain Go.Proofs.YtibmgcihpbofdaaW.PrintWords Go.Maps
set_option linter.unusedVariables false
set_option linter.unusedSimpArgs false
def Disk.fresh (n : Int) : Disk := { sure := [], loose := [], bytes := fun _ => [], firm := fun _ => 0, room := min (max n 0) 16777216, fuse := -1, down := false }
theorem Disk.has_none {d : Disk} (h1 : d.sure = []) (h2 : d.loose = []) (x : Nat) : ¬ d.has x := by
  rintro (⟨n, h⟩ | ⟨n, h⟩)
  · rw [h1] at h; cases h
  · rw [h2] at h; cases h
theorem newCore {w0 W : World} (hb : Below w0.heap.size w0 W) : Core w0 (((W.alloc (.map #[] 0)).alloc (.map #[] 0)).alloc (.cells #[.map (some W.heap.size), .map (some (W.heap.size + 1)), .slice none 0 0, .int .i64 0, .int .i64 (-1), .bool false] 64)) (W.heap.size + 1 + 1) { Disk.fresh 0 with room := 0 } 0 (fun k => W.heap.size ≤ k ∧ k < W.heap.size + 3) W.heap.size (W.heap.size + 1) (.slice none 0 0) [] (fun _ => .slice none 0 0) := by
  have e1 : (((W.alloc (.map #[] 0)).alloc (.map #[] 0)).alloc (.cells #[.map (some W.heap.size), .map (some (W.heap.size + 1)), .slice none 0 0, .int .i64 0, .int .i64 (-1), .bool false] 64)).heap[W.heap.size]? = (W.alloc (.map #[] 0)).heap[W.heap.size]? := by
    rw [Below.heap_alloc _ _ _ (by simp; omega), Below.heap_alloc _ _ _ (by simp)]
  have hs1 : (W.alloc (.map #[] 0)).heap.size = W.heap.size + 1 := by simp
  have e2 : (((W.alloc (.map #[] 0)).alloc (.map #[] 0)).alloc (.cells #[.map (some W.heap.size), .map (some (W.heap.size + 1)), .slice none 0 0, .int .i64 0, .int .i64 (-1), .bool false] 64)).heap[W.heap.size + 1]? = ((W.alloc (.map #[] 0)).alloc (.map #[] 0)).heap[W.heap.size + 1]? := by
    rw [Below.heap_alloc _ _ _ (by simp)]
  have e3 := heap_alloc_new ((W.alloc (.map #[] 0)).alloc (.map #[] 0)) (.cells #[.map (some W.heap.size), .map (some (W.heap.size + 1)), .slice none 0 0, .int .i64 0, .int .i64 (-1), .bool false] 64)
  have hs2 : ((W.alloc (.map #[] 0)).alloc (.map #[] 0)).heap.size = W.heap.size + 1 + 1 := by simp
  rw [hs2] at e3
  have hno : ∀ x, ¬ Disk.has { Disk.fresh 0 with room := 0 } x := Disk.has_none rfl rfl
  have m1 : OwnDir (W.alloc (.map #[] 0)) W.heap.size [] := World.ownsMap_made W Try.prog 9 ptrElem
  have m2 : OwnDir ((W.alloc (.map #[] 0)).alloc (.map #[] 0)) (W.heap.size + 1) [] := by
    have := World.ownsMap_made (W.alloc (.map #[] 0)) Try.prog 9 ptrElem
    rw [hs1] at this
    exact this
  exact {
    head := e3
    now := ownsMap_move m1 e1
    sure := ownsMap_move m2 e2
    ne := by omega
    row := own_nil _ _ _ _
    clo := .nil
    file := fun x hx => absurd hx (hno x)
    apart := fun x y hx => absurd hx (hno x)
    inF := by omega
    inN := by omega
    inS := by omega
    inL := fun g hg => by simp [Value.ownBlock] at hg
    inX := fun x hx => absurd hx (hno x)
    mine := fun k hk => ⟨Nat.le_trans hb.size hk.1, by simp; omega⟩
    ok := trivial
    room := by decide
    fuse := by decide
    small := ⟨by simp [Disk.fresh], fun x hx => absurd hx (hno x)⟩
    below := below_alloc (below_alloc (below_alloc hb _) _) _ }
set_option maxHeartbeats 1000000 in
set_option maxRecDepth 100000 in
theorem new {w0 W : World} (hb : Below w0.heap.size w0 W) (n : Int) :
    Calls Try.prog 12 #[.int .i64 n] W fun e W' => ∃ f T, e = .returned (.pointer (some ⟨f, 0, none⟩)) ∧ FsAt w0 f (Disk.fresh n) 0 T W' ∧ (∀ k, T k → W.heap.size ≤ k) ∧ Below W.heap.size W W' := by
  have hmm := @run_makeMap Try.prog
  have X := room ⟨_, _, _, _, _, newCore hb⟩ n
  have HB3 := Aside0.mk (show Below W.heap.size W (((W.alloc (.map #[] 0)).alloc (.map #[] 0)).alloc (.cells #[.map (some W.heap.size), .map (some (W.heap.size + 1)), .slice none 0 0, .int .i64 0, .int .i64 (-1), .bool false] 64)) from below_alloc (below_alloc (below_alloc (Below.refl _ _) _) _) _)
  go_enter Try.func12, Try.ntmps12
  go_wp2_with (go_at_call 31; refine X.mono ?_; rintro e W1 ⟨rfl, hF, hT⟩; have HF := Aside0.mk hF; have HT := Aside0.mk hT; clear hF hT X)
  go_ret
  refine ⟨_, _, rfl, HF.out, fun k hk => hk.1, ?_⟩
  have ht := HT.out
  have hb' := HF.out.below'
  refine ⟨hb'.os.trans hb.os.symm, hb'.tape.trans hb.tape.symm, hb'.output.trans hb.output.symm, Nat.le_trans HB3.out.size ht.2.2.2, fun k hk => ?_⟩
  · rw [ht.2.2.1 k (Nat.lt_of_lt_of_le hk HB3.out.size) (fun h => by omega)]
    exact HB3.out.block k hk
end Go.Proofs.Ytibmgcihpbofdaa.Fs
