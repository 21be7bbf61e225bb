/- What package-level variables hold: the library's bytealg.MaxLen some number; line.end 13 and 10. -/
import Derived.Test.YthdjeikfbbdehaaDoorRows
import Derived.Test.YthdjeikfbbdehaaDoorWWords
import Derived.Below
import Derived.Deep.Draws
import Derived.HandedShaped
import Derived.Shelf.Vars
import Derived.ChangeSlices
import Derived.FnData
import Derived.MakeChecks
namespace Go.Proofs.YthdjeikfbbdehaaDoor
open Go.RowKit Go.ChangeShapes Go.WideShapes Go.Proofs.YthdjeikfbbdehaaDoorW.PrintWords
set_option linter.unusedVariables false
set_option linter.unusedSimpArgs false
/-- what line.end holds -/
def EndIs (w : World) : Prop := ∃ a c, w.cell? ⟨0, 0, none⟩ = some (.slice (some a) 2 c) ∧ 2 ≤ c ∧ a.block < w.heap.size ∧ w.cell? (a.add 0) = some (.int .u8 13) ∧ w.cell? (a.add 1) = some (.int .u8 10)
def Facts (w : World) : Prop := (∃ m, w.cell? ⟨1, 0, none⟩ = some (.int .i64 m)) ∧ EndIs w
structure Glob (w : World) : Prop where
  mk :: (out : ∃ W0 : World, Facts W0 ∧ W0.heap.size ≤ w.heap.size ∧ ∀ k, k < W0.heap.size → w.heap[k]? = W0.heap[k]?)
theorem Glob.of {w : World} (h : Facts w) : Glob w := ⟨w, h, Nat.le_refl _, fun _ _ => rfl⟩
theorem Glob.step {w w' : World} (h : Glob w) (hs : w.heap.size ≤ w'.heap.size) (hk : ∀ k, k < w.heap.size → w'.heap[k]? = w.heap[k]?) : Glob w' := by
  obtain ⟨W0, hf, h1, h2⟩ := h
  exact ⟨W0, hf, Nat.le_trans h1 hs, fun k hk' => (hk k (Nat.lt_of_lt_of_le hk' h1)).trans (h2 k hk')⟩
theorem Glob.below {w w' : World} (h : Glob w) (hb : Below w.heap.size w w') : Glob w' := h.step hb.size hb.block
theorem Glob.drewN {w : World} {n : Nat} (h : Glob w) : Glob (w.drewN n) := h.step (Nat.le_refl _) (fun _ _ => rfl)
theorem Glob.drew {w : World} (h : Glob w) : Glob w.drew := h.step (Nat.le_refl _) (fun _ _ => rfl)
theorem Glob.alloc {w : World} (h : Glob w) (o : Obj) : Glob (w.alloc o) := h.step (by simp) (fun k hk => Below.heap_alloc w o k hk)
theorem Glob.cell {w : World} {a : Addr} {v : Value} (h : Glob w) (hc : ∀ W0 : World, Facts W0 → W0.cell? a = some v) : w.cell? a = some v := by
  obtain ⟨W0, hf, h1, h2⟩ := h
  have e := hc W0 hf
  exact (World.cell?_of_block (w := W0) (h2 a.block (World.block_lt_of_cell? W0 _ e))).trans e
theorem Glob.maxLen {w : World} (h : Glob w) : ∃ m, w.cell? ⟨1, 0, none⟩ = some (.int .i64 m) := by
  obtain ⟨W0, ⟨⟨m, hm⟩, _⟩, h1, h2⟩ := h
  exact ⟨m, (World.cell?_of_block (w := W0) (h2 _ (World.block_lt_of_cell? W0 _ hm))).trans hm⟩
theorem Glob.endIs {w : World} (h : Glob w) : EndIs w := by
  obtain ⟨W0, ⟨_, a, c, e1, e2, e3, e4, e5⟩, h1, h2⟩ := h
  refine ⟨a, c, (World.cell?_of_block (w := W0) (h2 _ (World.block_lt_of_cell? W0 _ e1))).trans e1, e2, by omega, ?_, ?_⟩
  · exact (World.cell?_of_block (w := W0) (h2 _ (World.block_lt_of_cell? W0 _ e4))).trans e4
  · exact (World.cell?_of_block (w := W0) (h2 _ (World.block_lt_of_cell? W0 _ e5))).trans e5
theorem max_of_shaped {W : World} (h : W.ShapedOpen Tryd.prog) : ∃ m, W.cell? ⟨1, 0, none⟩ = some (.int .i64 m) :=
  cell_of_shapedOpen_int (t := 3) (zero := #[.int .i64 0]) h (of_decide_eq_true (by kernel_rfl)) (by kernel_rfl) rfl (by kernel_rfl) (by kernel_rfl) Tryd.underlying3
theorem end_of_laid {W : World} (h : laidMetH Tryd.prog [("pillarbox/line.end", Rows.laid_pillarbox_line_end)] W) : EndIs W := by
  rw [MakeChecks.laidMetH_plain _ _ _ (by kernel_rfl)] at h
  obtain ⟨ps, ⟨g, t, cs, fuel, p, q, hg, ht, hv, hd, _, _⟩, _, _⟩ := h
  obtain rfl := Option.some.inj ((show Tryd.prog.globalNamed "pillarbox/line.end" = some 0 by kernel_rfl).symm.trans hg)
  obtain rfl := Option.some.inj ((show (Tryd.prog.globals[0]?).map (·.type) = some 24 by kernel_rfl).symm.trans ht)
  rcases open_ints Tryd.underlying24 Tryd.underlying5 (by kernel_rfl) hd with ⟨_, e⟩ | ⟨a, len, cap, zs, hcs, _, hl, _, hz, hx, hc, _⟩
  · cases (Prod.mk.inj e).1
  · have hx1 := (Prod.mk.inj hx).1
    simp only [Rows.laid_pillarbox_line_end, DataW.slice.injEq, lits] at hx1
    obtain ⟨hx1, hx2⟩ := hx1
    have hlen := congrArg List.length hx1
    have hlen2 := congrArg List.length hx2
    simp at hlen hlen2
    have hz2 : zs.length = 2 := by omega
    have hl2 : len = 2 := by split at hz <;> omega
    subst hl2
    match zs, hz2 with
    | [x, y], _ =>
      simp at hx1
      obtain ⟨rfl, rfl⟩ := hx1
      have c0 := hc 0 (by decide)
      have c1 := hc 1 (by decide)
      have hblk : (a.add 0).block < W.heap.size := World.block_lt_of_cell? W _ c0
      have hab : (a.add 0).block = a.block := by unfold Addr.add; split <;> rfl
      rw [hab] at hblk
      refine ⟨a, cap, ?_, hl, hblk, c0, c1⟩
      rw [World.var?_cell hg hv 0]
      have : cs.toList[0]? = some (.slice (some a) 2 cap) := by rw [hcs]; rfl
      simpa using this
end Go.Proofs.YthdjeikfbbdehaaDoor
