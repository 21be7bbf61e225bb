/- What the library's package-level variables hold, for the laws of Box. -/
import Derived.Test.YtilgfpljjjbgdaaGreatDoorShelf
import Derived.Test.YtilgfpljjjbgdaaGreatDoorRows
import Derived.Test.YtilgfpljjjbgdaaGreatDoorWWords
import Derived.Below
import Derived.Stop.LaidErr
import Derived.Lib.LaidTab
import Derived.MakeChecks
import Derived.HandedShaped
import Derived.Shelf.Vars
namespace Go.Proofs.YtilgfpljjjbgdaaGreatDoor.Fs
open Go.RowKit Go.Shelf Go.ChangeShapes Go.WideShapes Go.Proofs.YtilgfpljjjbgdaaGreatDoorW.PrintWords
set_option linter.unusedVariables false
set_option linter.unusedSimpArgs false
def LFacts (w : World) : Prop := (∃ m, w.cell? ⟨3, 0, none⟩ = some (.int .i64 m)) ∧ Lib.TabIs Tryz.prog w "internal/strconv.uint64pow10" .u64 Lib.pow10Tab ∧ (∃ t p, w.cell? ⟨0, 0, none⟩ = some (.iface t p)) ∧ (∃ t p, w.cell? ⟨1, 0, none⟩ = some (.iface t p))
structure GI (w : World) : Prop where
  mk :: (out : ∃ W0 : World, LFacts W0 ∧ W0.heap.size ≤ w.heap.size ∧ ∀ k, k < W0.heap.size → w.heap[k]? = W0.heap[k]?)
theorem GI.of {w : World} (h : LFacts w) : GI w := ⟨w, h, Nat.le_refl _, fun _ _ => rfl⟩
theorem GI.below {w w' : World} (h : GI w) (hb : Below w.heap.size w w') : GI w' := by
  obtain ⟨W0, hf, h1, h2⟩ := h
  exact ⟨W0, hf, Nat.le_trans h1 hb.size, fun k hk' => (hb.block k (Nat.lt_of_lt_of_le hk' h1)).trans (h2 k hk')⟩
theorem gPow : Tryz.prog.globalNamed "internal/strconv.uint64pow10" = some 2 := by kernel_rfl
theorem GI.tab {w : World} (h : GI w) : Lib.TabIs Tryz.prog w "internal/strconv.uint64pow10" .u64 Lib.pow10Tab := by
  obtain ⟨W0, hf, h1, h2⟩ := h
  have h0 := hf.2.1
  unfold Lib.TabIs World.var? at h0 ⊢
  rw [gPow] at h0 ⊢
  simp only [Option.bind_some] at h0 ⊢
  have hlt : 2 < W0.heap.size := by
    rcases Nat.lt_or_ge 2 W0.heap.size with h | h
    · exact h
    · rw [Array.getElem?_eq_none h] at h0; cases h0
  rw [h2 _ hlt]
  exact h0
theorem GI.errs {w : World} (h : GI w) : (∃ t p, w.cell? ⟨0, 0, none⟩ = some (.iface t p)) ∧ (∃ t p, w.cell? ⟨1, 0, none⟩ = some (.iface t p)) := by
  obtain ⟨W0, ⟨_, _, ⟨t1, p1, c1⟩, t2, p2, c2⟩, h1, h2⟩ := h
  exact ⟨⟨t1, p1, (World.cell?_of_block (w := W0) (h2 _ (World.block_lt_of_cell? W0 _ c1))).trans c1⟩, t2, p2, (World.cell?_of_block (w := W0) (h2 _ (World.block_lt_of_cell? W0 _ c2))).trans c2⟩
theorem gES : Tryz.prog.globalNamed "strconv.ErrSyntax" = some 0 := by kernel_rfl
theorem gER : Tryz.prog.globalNamed "strconv.ErrRange" = some 1 := by kernel_rfl
theorem starErr : "*" ++ "errors.errorString" = "*errors.errorString" := by decide
theorem rowErr (u : TypeId) (h : Tryz.prog.typeName? 3 u = some "*errors.errorString") : u = 155 :=
  typeName_ptr_named (nm := "errors.errorString") (by rw [starErr]; kernel_rfl) (by kernel_rfl) (by decide) u (by rw [starErr]; exact h)
theorem GI.maxLen {w : World} (h : GI w) : ∃ m, w.cell? ⟨3, 0, none⟩ = some (.int .i64 m) := by
  obtain ⟨W0, ⟨⟨m, hm⟩, _⟩, h1, h2⟩ := h
  exact ⟨m, (World.cell?_of_block (w := W0) (h2 _ (World.block_lt_of_cell? W0 _ hm))).trans hm⟩
theorem facts_of_laid {W : World} (h : laidMetH Tryz.prog Rows.boxNoneRow.laid W) (hsh : W.ShapedOpen Tryz.prog) : LFacts W := by
  rw [MakeChecks.laidMetH_plain _ _ _ (by kernel_rfl)] at h
  have h3 := h.tail.tail
  have h4 := h3.tail.tail
  have h5 := h4.tail
  have ht := Lib.tabIs_of_head (zs := Lib.pow10Tab) gPow (t := 169) (e := 114) (n := 20) (by kernel_rfl) Tryz.underlying169 Tryz.underlying114 (by kernel_rfl) (by kernel_rfl) h3
  obtain ⟨a1, s1, hv1, -, -, -⟩ := laid_sentinel h4 gER (ti := 66) (by kernel_rfl) Tryz.underlying66 rowErr Tryz.underlying155 Tryz.underlying157 rfl rfl Tryz.underlying9 (by kernel_rfl) (by kernel_rfl)
  obtain ⟨a0, s0, hv0, -, -, -⟩ := laid_sentinel h5 gES (ti := 66) (by kernel_rfl) Tryz.underlying66 rowErr Tryz.underlying155 Tryz.underlying157 rfl rfl Tryz.underlying9 (by kernel_rfl) (by kernel_rfl)
  exact ⟨cell_of_shapedOpen_int (t := 3) (zero := #[.int .i64 0]) hsh (of_decide_eq_true (by kernel_rfl)) (by kernel_rfl) rfl (by kernel_rfl) (by kernel_rfl) Tryz.underlying3, ht, ⟨_, _, by have h0 := World.var?_cell gES hv0 0; simpa using h0⟩, ⟨_, _, by have h0 := World.var?_cell gER hv1 0; simpa using h0⟩⟩
end Go.Proofs.YtilgfpljjjbgdaaGreatDoor.Fs
