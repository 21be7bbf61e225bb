/- What the library's package-level variables hold: the table of powers of ten. -/
import Derived.Test.YthdjeikfbbdehaaDoorShelf
import Derived.Test.YthdjeikfbbdehaaDoorRows
import Derived.Test.YthdjeikfbbdehaaDoorWWords
import Derived.Below
import Derived.Stop.LaidErr
import Derived.Lib.LaidTab
import Derived.MakeChecks
namespace Go.Proofs.YthdjeikfbbdehaaDoor.Fs
open Go.RowKit Go.Shelf Go.Proofs.YthdjeikfbbdehaaDoorW.PrintWords
set_option linter.unusedVariables false
set_option linter.unusedSimpArgs false
def LFacts (w : World) : Prop := Lib.TabIs Tryd.prog w "internal/strconv.uint64pow10" .u64 Lib.pow10Tab
structure GI (w : World) : Prop where
  mk :: (out : ∃ W0 : World, LFacts W0 ∧ W0.heap.size ≤ w.heap.size ∧ ∀ k, k < W0.heap.size → w.heap[k]? = W0.heap[k]?)
theorem GI.of {w : World} (h : LFacts w) : GI w := ⟨w, h, Nat.le_refl _, fun _ _ => rfl⟩
theorem GI.below {w w' : World} (h : GI w) (hb : Below w.heap.size w w') : GI w' := by
  obtain ⟨W0, hf, h1, h2⟩ := h
  exact ⟨W0, hf, Nat.le_trans h1 hb.size, fun k hk' => (hb.block k (Nat.lt_of_lt_of_le hk' h1)).trans (h2 k hk')⟩
theorem gPow : Tryd.prog.globalNamed "internal/strconv.uint64pow10" = some 2 := by kernel_rfl
theorem GI.tab {w : World} (h : GI w) : Lib.TabIs Tryd.prog w "internal/strconv.uint64pow10" .u64 Lib.pow10Tab := by
  obtain ⟨W0, hf, h1, h2⟩ := h
  have h0 : Lib.TabIs Tryd.prog W0 "internal/strconv.uint64pow10" .u64 Lib.pow10Tab := hf
  unfold Lib.TabIs World.var? at h0 ⊢
  rw [gPow] at h0 ⊢
  simp only [Option.bind_some] at h0 ⊢
  have hlt : 2 < W0.heap.size := by
    rcases Nat.lt_or_ge 2 W0.heap.size with h | h
    · exact h
    · rw [Array.getElem?_eq_none h] at h0; cases h0
  rw [h2 _ hlt]
  exact h0
theorem facts_of_laid {W : World} (h : laidMetH Tryd.prog Rows.dsnMakesRow.laid W) : LFacts W := by
  rw [MakeChecks.laidMetH_plain _ _ _ (by kernel_rfl)] at h
  have h3 := h.tail.tail
  exact Lib.tabIs_of_head (zs := Lib.pow10Tab) gPow (t := 95) (e := 85) (n := 20) (by kernel_rfl) Tryd.underlying95 Tryd.underlying85 (by kernel_rfl) (by kernel_rfl) h3
end Go.Proofs.YthdjeikfbbdehaaDoor.Fs
