/- What the library's package-level variables hold: the table of powers of ten; ErrSyntax and ErrRange some errors; MaxLen some number. -/
import Derived.Test.YtkcdlfkicopmoaaDoorShelf
import Derived.Test.YtkcdlfkicopmoaaDoorRows
import Derived.Test.YtkcdlfkicopmoaaDoorWWords
import Derived.Below
import Derived.Stop.LaidErr
import Derived.Lib.LaidTab
import Derived.MakeChecks
import Derived.HandedShaped
import Derived.Shelf.Vars
namespace Go.Proofs.YtkcdlfkicopmoaaDoor.Fs
open Go.RowKit Go.Shelf Go.ChangeShapes Go.WideShapes Go.Proofs.YtkcdlfkicopmoaaDoorW.PrintWords
set_option linter.unusedVariables false
set_option linter.unusedSimpArgs false
def LFacts (w : World) : Prop := (∃ m, w.cell? ⟨0, 0, none⟩ = some (.int .i64 m)) ∧ Lib.TabIs Tryd.prog w "internal/strconv.uint64pow10" .u64 Lib.pow10Tab ∧ (∃ t p, w.cell? ⟨1, 0, none⟩ = some (.iface t p)) ∧ (∃ t p, w.cell? ⟨2, 0, none⟩ = some (.iface t p))
structure GI (w : World) : Prop where
  mk :: (out : ∃ W0 : World, LFacts W0 ∧ W0.heap.size ≤ w.heap.size ∧ ∀ k, k < W0.heap.size → w.heap[k]? = W0.heap[k]?)
theorem GI.of {w : World} (h : LFacts w) : GI w := ⟨w, h, Nat.le_refl _, fun _ _ => rfl⟩
theorem GI.below {w w' : World} (h : GI w) (hb : Below w.heap.size w w') : GI w' := by
  obtain ⟨W0, hf, h1, h2⟩ := h
  exact ⟨W0, hf, Nat.le_trans h1 hb.size, fun k hk' => (hb.block k (Nat.lt_of_lt_of_le hk' h1)).trans (h2 k hk')⟩
theorem gPow : Tryd.prog.globalNamed "internal/strconv.uint64pow10" = some 3 := by kernel_rfl
theorem GI.tab {w : World} (h : GI w) : Lib.TabIs Tryd.prog w "internal/strconv.uint64pow10" .u64 Lib.pow10Tab := by
  obtain ⟨W0, hf, h1, h2⟩ := h
  have h0 := hf.2.1
  unfold Lib.TabIs World.var? at h0 ⊢
  rw [gPow] at h0 ⊢
  simp only [Option.bind_some] at h0 ⊢
  have hlt : 3 < W0.heap.size := by
    rcases Nat.lt_or_ge 3 W0.heap.size with h | h
    · exact h
    · rw [Array.getElem?_eq_none h] at h0; cases h0
  rw [h2 _ hlt]
  exact h0
theorem GI.errs {w : World} (h : GI w) : (∃ t p, w.cell? ⟨1, 0, none⟩ = some (.iface t p)) ∧ (∃ t p, w.cell? ⟨2, 0, none⟩ = some (.iface t p)) := by
  obtain ⟨W0, ⟨_, _, ⟨t1, p1, c1⟩, t2, p2, c2⟩, h1, h2⟩ := h
  exact ⟨⟨t1, p1, (World.cell?_of_block (w := W0) (h2 _ (World.block_lt_of_cell? W0 _ c1))).trans c1⟩, t2, p2, (World.cell?_of_block (w := W0) (h2 _ (World.block_lt_of_cell? W0 _ c2))).trans c2⟩
theorem gES : Tryd.prog.globalNamed "strconv.ErrSyntax" = some 1 := by kernel_rfl
theorem gER : Tryd.prog.globalNamed "strconv.ErrRange" = some 2 := by kernel_rfl
theorem starErr : "*" ++ "errors.errorString" = "*errors.errorString" := by decide
theorem rowErr (u : TypeId) (h : Tryd.prog.typeName? 3 u = some "*errors.errorString") : u = 123 :=
  typeName_ptr_named (nm := "errors.errorString") (by rw [starErr]; kernel_rfl) (by kernel_rfl) (by decide) u (by rw [starErr]; exact h)
theorem GI.maxLen {w : World} (h : GI w) : ∃ m, w.cell? ⟨0, 0, none⟩ = some (.int .i64 m) := by
  obtain ⟨W0, ⟨⟨m, hm⟩, _⟩, h1, h2⟩ := h
  exact ⟨m, (World.cell?_of_block (w := W0) (h2 _ (World.block_lt_of_cell? W0 _ hm))).trans hm⟩
theorem facts_of_laid {W : World} (h : laidMetH Tryd.prog Rows.scriptHexUptoRow.laid W) (hsh : W.ShapedOpen Tryd.prog) : LFacts W := by
  rw [MakeChecks.laidMetH_plain _ _ _ (by kernel_rfl)] at h
  have h3 := h.tail.tail
  have h4 := h3.tail.tail
  have h5 := h4.tail
  have ht := Lib.tabIs_of_head (zs := Lib.pow10Tab) gPow (t := 114) (e := 79) (n := 20) (by kernel_rfl) Tryd.underlying114 Tryd.underlying79 (by kernel_rfl) (by kernel_rfl) h3
  obtain ⟨a1, s1, hv1, -, -, -⟩ := laid_sentinel h4 gER (ti := 49) (by kernel_rfl) Tryd.underlying49 rowErr Tryd.underlying123 Tryd.underlying125 rfl rfl Tryd.underlying9 (by kernel_rfl) (by kernel_rfl)
  obtain ⟨a0, s0, hv0, -, -, -⟩ := laid_sentinel h5 gES (ti := 49) (by kernel_rfl) Tryd.underlying49 rowErr Tryd.underlying123 Tryd.underlying125 rfl rfl Tryd.underlying9 (by kernel_rfl) (by kernel_rfl)
  exact ⟨cell_of_shapedOpen_int (t := 3) (zero := #[.int .i64 0]) hsh (of_decide_eq_true (by kernel_rfl)) (by kernel_rfl) rfl (by kernel_rfl) (by kernel_rfl) Tryd.underlying3, ht, ⟨_, _, by have h0 := World.var?_cell gES hv0 0; simpa using h0⟩, ⟨_, _, by have h0 := World.var?_cell gER hv1 0; simpa using h0⟩⟩
end Go.Proofs.YtkcdlfkicopmoaaDoor.Fs
