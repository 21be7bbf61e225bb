/- fs: Room, Fuse, Down, Loose, a file's bytes cloned, Read. -/
import Derived.Test.YtibmgcihpbofdaaFsAppend
import Derived.Lib.SliceRun
namespace Go.Proofs.Ytibmgcihpbofdaa.Fs
open Go.RowKit Go.Proofs.Ytibmgcihpbofdaa Go.Proofs.Ytibmgcihpbofdaa.Plain Go.Proofs.YtibmgcihpbofdaaW.PrintWords Go.Maps
set_option linter.unusedVariables false
set_option linter.unusedSimpArgs false
def Disk.setRoom (d : Disk) (n : Int) : Disk := { d with room := min (max n 0) 16777216 }
def Disk.setFuse (d : Disk) (n : Int) : Disk := { d with fuse := max n 0 }
theorem roomNil (n : Int) (W : World) : Calls Try.prog 31 #[.pointer none, .int .i64 n] W fun e W' => e = .returned (.tuple #[]) ∧ W' = W := by
  go_enter Try.func31, Try.ntmps31
  go_wp2
  go_end0
  exact ⟨rfl, rfl⟩
theorem fuseNil (n : Int) (W : World) : Calls Try.prog 21 #[.pointer none, .int .i64 n] W fun e W' => e = .returned (.tuple #[]) ∧ W' = W := by
  go_enter Try.func21, Try.ntmps21
  go_wp2
  go_end0
  exact ⟨rfl, rfl⟩
theorem downNil (W : World) : Calls Try.prog 23 #[.pointer none] W fun e W' => e = .returned (.bool false) ∧ W' = W := by
  go_enter Try.func23, Try.ntmps23
  go_wp2
  go_ret
  exact ⟨rfl, rfl⟩
theorem looseNil (W : World) : Calls Try.prog 32 #[.pointer none] W fun e W' => e = .returned (.int .i64 0) ∧ W' = W := by
  go_enter Try.func32, Try.ntmps32
  go_wp2
  go_ret
  exact ⟨rfl, rfl⟩
theorem room {w0 W : World} {f : Nat} {d : Disk} {N : Nat} {T : Nat → Prop} (h : FsAt w0 f d N T W) (n : Int) :
    Calls Try.prog 31 #[.pointer (some ⟨f, 0, none⟩), .int .i64 n] W fun e W' => e = .returned (.tuple #[]) ∧ FsAt w0 f (d.setRoom n) N T W' ∧ Turn T W T W' := by
  obtain ⟨bn, bs, vl, fs, vb, c0⟩ := h
  obtain ⟨_, _, _, hc, _, _⟩ := c0.cells
  have hf := c0.frozen 3
  have HC := Aside0.mk c0
  clear c0
  go_enter Try.func31, Try.ntmps31
  have HK := Aside0.mk (show ∀ r, r = min (max n 0) 16777216 → Core w0 (W.setCell ⟨f, 3, none⟩ (.int .i64 r)) f (d.setRoom n) N T bn bs vl fs vb by rintro r rfl; exact HC.out.setScalar.1 (min (max n 0) 16777216) (by omega))
  go_wp2
  all_goals
    go_end0
    exact ⟨rfl, ⟨_, _, _, _, _, HK.out _ (by omega)⟩, (But.set _ _ _).turn HC.out.inF⟩
theorem fuse {w0 W : World} {f : Nat} {d : Disk} {N : Nat} {T : Nat → Prop} (h : FsAt w0 f d N T W) (n : Int) (hn : (Lit.int .i64 n).wf = true) :
    Calls Try.prog 21 #[.pointer (some ⟨f, 0, none⟩), .int .i64 n] W fun e W' => e = .returned (.tuple #[]) ∧ FsAt w0 f (d.setFuse n) N T W' ∧ Turn T W T W' := by
  obtain ⟨bn, bs, vl, fs, vb, c0⟩ := h
  obtain ⟨_, _, _, _, hc, _⟩ := c0.cells
  have hf := c0.frozen 4
  have HC := Aside0.mk c0
  have hb : n ≤ 9223372036854775807 := by
    simp only [Lit.wf, Bool.and_eq_true, decide_eq_true_eq] at hn
    exact hn.2
  have HB := Aside0.mk hb
  clear c0 hn hb
  go_enter Try.func21, Try.ntmps21
  have HK := Aside0.mk (show ∀ r, r = max n 0 → Core w0 (W.setCell ⟨f, 4, none⟩ (.int .i64 r)) f (d.setFuse n) N T bn bs vl fs vb by rintro r rfl; exact HC.out.setScalar.2.1 (max n 0) (by have := HB.out; omega))
  go_wp2
  all_goals
    go_end0
    exact ⟨rfl, ⟨_, _, _, _, _, HK.out _ (by omega)⟩, (But.set _ _ _).turn HC.out.inF⟩
theorem down {w0 W : World} {f : Nat} {d : Disk} {N : Nat} {T : Nat → Prop} (h : FsAt w0 f d N T W) :
    Calls Try.prog 23 #[.pointer (some ⟨f, 0, none⟩)] W fun e W' => e = .returned (.bool d.down) ∧ W' = W := by
  obtain ⟨bn, bs, vl, fs, vb, c0⟩ := h
  obtain ⟨_, _, _, _, _, hc⟩ := c0.cells
  clear c0
  go_enter Try.func23, Try.ntmps23
  go_wp2
  go_ret
  exact ⟨rfl, rfl⟩
theorem loose {w0 W : World} {f : Nat} {d : Disk} {N : Nat} {T : Nat → Prop} (h : FsAt w0 f d N T W) :
    Calls Try.prog 32 #[.pointer (some ⟨f, 0, none⟩)] W fun e W' => e = .returned (.int .i64 (d.loose.length : Int)) ∧ W' = W := by
  obtain ⟨bn, bs, vl, fs, vb, c0⟩ := h
  obtain ⟨_, _, hc, _, _, _⟩ := c0.cells
  obtain ⟨A, c, hv⟩ := own_slice c0.row
  subst hv
  clear c0
  go_enter Try.func32, Try.ntmps32
  go_wp2
  go_ret
  exact ⟨rfl, rfl⟩
/-- 'slices.Clone' of bytes that can be read -/
theorem cloneNil (n c : Nat) (w : World) : Calls Try.prog 38 #[.slice none n c] w fun e w' => e = .returned (.slice none 0 0) ∧ w' = w := by
  have hnil : ∀ W, (binOp .eql 22 (.slice none n c) (.slice none 0 0)).run Try.prog W = .ok (.bool true) W := fun W => Lib.run_eql_slice_nil W _ _ none _ _ _ _ Try.underlying22
  go_enter Try.func38, Try.ntmps38
  go_wp2
  go_ret
  exact ⟨rfl, rfl⟩
set_option maxHeartbeats 1000000 in
set_option maxRecDepth 100000 in
theorem clone (a : Addr) (c : Nat) (x : List UInt8) (w : World) (hx : ReadsInt w .u8 (some a) (B x).length (B x)) (hz : x.length ≤ 10000000) :
    Calls Try.prog 38 #[.slice (some a) (B x).length c] w fun e w' => ∃ v', e = .returned v' ∧ w'.ownsRow w.heap.size 5 1 v' (B x).length (nums .u8 (B x)) ∧ Below w.heap.size w w' := by
  have HX := Aside0.mk hx
  clear hx
  have hroom : (([] : List Int).length + (B x).length) * 1 ≤ 140737488355328 := by rw [B_length]; simp; omega
  have HR := Aside0.mk hroom
  clear hroom
  have HE := Aside0.mk (show (w.alloc (.cells #[] 5)).ownsRow w.heap.size 5 1 (.slice (some ⟨w.heap.size, 0, none⟩) 0 0) ([] : List Int).length (nums .u8 []) from World.ownsRow_lit (e := 5) w #[] 0 (Nat.le_refl _) (Nat.zero_le _) rfl)
  have HX2 := Aside0.mk (HX.out.below (below_alloc (Below.refl _ _) (.cells #[] 5)))
  have HB := Aside0.mk (below_alloc (Below.refl w.heap.size w) (.cells #[] 5))
  have HSz := Aside0.mk (show w.heap.size ≤ (w.alloc (.cells #[] 5)).heap.size by simp)
  have hnil : ∀ W, (binOp .eql 22 (.slice (some a) x.length c) (.slice none 0 0)).run Try.prog W = .ok (.bool false) W := fun W => Lib.run_eql_slice_nil W _ _ (some a) _ _ _ _ Try.underlying22
  go_enter Try.func38, Try.ntmps38
  go_wp2_with (at_builtin; refine print_append_row (w0 := w) w.heap.size rfl (.tmp 5) (.tmp 6) 22 5 .u8 1 rfl Try.underlying22 infoU8 (by decide) (.slice (some ⟨w.heap.size, 0, none⟩) 0 0) [] (B x) (some a) (B x).length c rfl (by rw [B_length]; rfl) HE.out HX2.out HB.out HSz.out HR.out ?_; intro v1 w1 hown hb1 hg1 hat1)
  go_ret
  exact ⟨_, rfl, hown, hb1⟩
/-- either way: what is handed back is of the call's own -/
theorem cloneAny (A : Option Addr) (n c : Nat) (x : List UInt8) (w : World) (hx : ReadsInt w .u8 A (B x).length (B x)) (hz : x.length ≤ 10000000) (hn : n = x.length) :
    Calls Try.prog 38 #[.slice A n c] w fun e w' => ∃ v', e = .returned v' ∧ w'.ownsRow w.heap.size 5 1 v' (B x).length (nums .u8 (B x)) ∧ Below w.heap.size w w' := by
  subst hn
  cases A with
  | none =>
    have h0 : x = [] := by
      by_cases h : 0 < (B x).length
      · obtain ⟨ad, e, _⟩ := hx.2.2 h
        cases e
      · rw [B_length] at h
        exact List.eq_nil_of_length_eq_zero (by omega)
    subst h0
    refine (cloneNil 0 c w).mono ?_
    rintro e w' ⟨rfl, rfl⟩
    exact ⟨_, rfl, own_nil _ _ _ _, Below.refl _ _⟩
  | some a =>
    have := clone a c x w hx hz
    rw [B_length] at this ⊢
    exact this
end Go.Proofs.Ytibmgcihpbofdaa.Fs
