/- What package-level variables hold: the library's bytealg.MaxLen holds some number. -/
import Derived.Test.YtilgfpljjjbgdaaGreatDoorProg
import Derived.Below
import Derived.Deep.Draws
import Derived.HandedShaped
import Derived.Shelf.Vars
namespace Go.Proofs.YtilgfpljjjbgdaaGreatDoor
open Go.RowKit
set_option linter.unusedVariables false
set_option linter.unusedSimpArgs false
def FactsM (w : World) : Prop := ∃ m, w.cell? ⟨3, 0, none⟩ = some (.int .i64 m)
structure GlobM (w : World) : Prop where
  mk :: (out : ∃ W0 : World, FactsM W0 ∧ W0.heap.size ≤ w.heap.size ∧ ∀ k, k < W0.heap.size → w.heap[k]? = W0.heap[k]?)
theorem GlobM.of {w : World} (h : FactsM w) : GlobM w := ⟨w, h, Nat.le_refl _, fun _ _ => rfl⟩
theorem GlobM.step {w w' : World} (h : GlobM w) (hs : w.heap.size ≤ w'.heap.size) (hk : ∀ k, k < w.heap.size → w'.heap[k]? = w.heap[k]?) : GlobM w' := by
  obtain ⟨W0, hf, h1, h2⟩ := h
  exact ⟨W0, hf, Nat.le_trans h1 hs, fun k hk' => (hk k (Nat.lt_of_lt_of_le hk' h1)).trans (h2 k hk')⟩
theorem GlobM.below {w w' : World} (h : GlobM w) (hb : Below w.heap.size w w') : GlobM w' := h.step hb.size hb.block
theorem GlobM.drewN {w : World} {n : Nat} (h : GlobM w) : GlobM (w.drewN n) := h.step (Nat.le_refl _) (fun _ _ => rfl)
theorem GlobM.drew {w : World} (h : GlobM w) : GlobM w.drew := h.step (Nat.le_refl _) (fun _ _ => rfl)
theorem GlobM.alloc {w : World} (h : GlobM w) (o : Obj) : GlobM (w.alloc o) := h.step (by simp) (fun k hk => Below.heap_alloc w o k hk)
theorem GlobM.cell {w : World} {a : Addr} {v : Value} (h : GlobM w) (hc : ∀ W0 : World, FactsM W0 → W0.cell? a = some v) : w.cell? a = some v := by
  obtain ⟨W0, hf, h1, h2⟩ := h
  have e := hc W0 hf
  exact (World.cell?_of_block (w := W0) (h2 a.block (World.block_lt_of_cell? W0 _ e))).trans e
theorem GlobM.maxLen {w : World} (h : GlobM w) : ∃ m, w.cell? ⟨3, 0, none⟩ = some (.int .i64 m) := by
  obtain ⟨W0, ⟨m, hm⟩, h1, h2⟩ := h
  exact ⟨m, (World.cell?_of_block (w := W0) (h2 _ (World.block_lt_of_cell? W0 _ hm))).trans hm⟩
theorem FactsM.of_shaped {W : World} (h : W.ShapedOpen Tryz.prog) : FactsM W :=
  cell_of_shapedOpen_int (t := 3) (zero := #[.int .i64 0]) h (of_decide_eq_true (by kernel_rfl)) (by kernel_rfl) rfl (by kernel_rfl) (by kernel_rfl) Tryz.underlying3
end Go.Proofs.YtilgfpljjjbgdaaGreatDoor
