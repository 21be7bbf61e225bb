/- fs: Create, Rename, Unlink: what they do. -/
import Derived.Test.YtibmgcihpbofdaaFsChange
namespace Go.Proofs.Ytibmgcihpbofdaa.Fs
open Go.RowKit Go.Proofs.Ytibmgcihpbofdaa Go.Proofs.Ytibmgcihpbofdaa.Plain Go.Proofs.YtibmgcihpbofdaaW.PrintWords Go.Maps
set_option linter.unusedVariables false
set_option linter.unusedSimpArgs false
theorem Core.fresh {w0 W : World} {f : Nat} {d : Disk} {N : Nat} {T : Nat → Prop} {bn bs : Nat} {vl : Value} {fs : List Value} {vb : Nat → Value} (h : Core w0 W f d N T bn bs vl fs vb) {x : Nat} (hx : W.heap.size ≤ x) : ¬ d.has x := fun hh => by
  have := (h.mine x (h.inX x hh).1).2
  omega
def Wide (T : Nat → Prop) (W X : World) : Nat → Prop := fun k => T k ∨ (W.heap.size ≤ k ∧ k < X.heap.size)
theorem Core.wide {w0 W X : World} {f : Nat} {d : Disk} {N : Nat} {T : Nat → Prop} {bn bs : Nat} {vl : Value} {fs : List Value} {vb : Nat → Value} (h : Core w0 W f d N T bn bs vl fs vb) (hb : Below W.heap.size W X) : Core w0 X f d N (Wide T W X) bn bs vl fs vb := by
  have c := h.step' hb
  exact { c with
    clo := c.clo.move (fun _ _ _ => rfl) (fun k hk => .inl hk)
    inF := .inl c.inF
    inN := .inl c.inN
    inS := .inl c.inS
    inL := fun g hg => .inl (c.inL g hg)
    inX := fun x hx => ⟨.inl (c.inX x hx).1, fun g hg => .inl ((c.inX x hx).2 g hg)⟩
    mine := fun k hk => hk.elim (fun hT => c.mine k hT) (fun hk => ⟨Nat.le_trans h.below.size hk.1, hk.2⟩) }
theorem Turn.wide {T : Nat → Prop} {W X : World} (hb : Below W.heap.size W X) : Turn T W (Wide T W X) X := ⟨fun k hk => hk.elim .inl (fun h => .inr h.1), fun k hk => .inl hk, fun k hk _ => hb.block k hk, hb.size⟩
/-- a file's bytes that is none of the disk's say nothing -/
theorem Core.other {w0 W : World} {f : Nat} {d : Disk} {N : Nat} {T : Nat → Prop} {bn bs : Nat} {vl : Value} {fs : List Value} {vb : Nat → Value} (h : Core w0 W f d N T bn bs vl fs vb) {x : Nat} (hx : ¬ d.has x) (b : List UInt8) (m : Nat) : Core w0 W f { d with bytes := setAt d.bytes x b, firm := setAt d.firm x m } N T bn bs vl fs vb := by
  have e : ∀ y, d.has y → setAt d.bytes x b y = d.bytes y ∧ setAt d.firm x m y = d.firm y := fun y hy => by
    have : y ≠ x := fun e => hx (e ▸ hy)
    exact ⟨setAt_other _ _ this, setAt_other _ _ this⟩
  exact { head := h.head, now := h.now, sure := h.sure, ne := h.ne, row := h.row, clo := h.clo, apart := h.apart, inF := h.inF, inN := h.inN, inS := h.inS, inL := h.inL, inX := h.inX, mine := h.mine, ok := h.ok, room := h.room, fuse := h.fuse, below := h.below
          file := fun y hy => by have hy' : d.has y := hy; have := h.file y hy'; simp only [(e y hy').1, (e y hy').2]; exact this
          small := ⟨h.small.1, fun y hy => by have hy' : d.has y := hy; have := h.small.2 y hy'; simp only [(e y hy').1]; exact this⟩ }
theorem names1 {W : World} (n : Nm) (hn : n.length ≤ 140737488351232) (c : Array Value) (t : Nat) (fr : Nat × Nat) (hc : c = #[.string (S n)]) : NamesAt (W.alloc (.cells c t fr)) (some ⟨W.heap.size, 0, none⟩) [n] := by
  subst hc
  intro j hj
  obtain rfl : j = 0 := by simpa using hj
  refine ⟨_, rfl, ?_, hn⟩
  have e : (W.alloc (.cells #[.string (S n)] t fr)).heap[W.heap.size]? = some (.cells #[.string (S n)] t fr) := heap_alloc_new W _
  show World.cell? _ (Addr.add ⟨W.heap.size, 0, none⟩ 0) = _
  rw [show Addr.add ⟨W.heap.size, 0, none⟩ 0 = ⟨W.heap.size, 0, none⟩ from rfl]
  simp only [World.cell?, e]
  rfl
theorem ready_right {d : Disk} {ns : List Nm} (h : d.ready ns = 0) {n : Nm} (hn : n ∈ ns) : rightB n = true := by
  unfold Disk.ready at h
  split at h
  · omega
  · rename_i h1
    cases hr : rightB n
    · exact absurd (List.any_eq_true.2 ⟨n, hn, by rw [hr]; rfl⟩) h1
    · rfl
theorem ready_len {d : Disk} {ns : List Nm} (h : d.ready ns = 0) {n : Nm} (hn : n ∈ ns) : n.length ≤ 80 := by
  have := ready_right h hn
  rw [rightB_eq, Bool.and_eq_true] at this
  have := of_decide_eq_true this.2
  exact this.2
set_option maxHeartbeats 1000000 in
set_option maxRecDepth 100000 in
theorem create {w0 W : World} {f : Nat} {d : Disk} {N : Nat} {T : Nat → Prop} (h : FsAt w0 f d N T W) (hN : N ≤ 1000000) (n : Nm) (hn : n.length ≤ 140737488351232) :
    Calls Try.prog 13 #[.pointer (some ⟨f, 0, none⟩), .string (S n)] W fun e W' => ∃ x, ¬ d.has x ∧ e = .returned (.int .i64 (d.create x n).1) ∧ ∃ T', FsAt w0 f (d.create x n).2 (N + 1) T' W' ∧ Turn T W T' W' := by
  have hW1 : Below W.heap.size W (W.alloc (.cells #[.string (S n)] 9)) := below_alloc (Below.refl _ _) _
  have hW2 := below_alloc hW1 (.cells #[.string (S n)] 9)
  have X := ready (h.step hW2) (some ⟨W.heap.size + 1, 0, none⟩) 1 [n] (by have := names1 (W := W.alloc (.cells #[.string (S n)] 9)) n hn #[.string (S n)] 9 (0, 0) rfl; simpa using this) (by simp) (n := 1) rfl
  obtain ⟨bn, bs, vl, fs, vb, c0⟩ := h
  obtain ⟨r, hr⟩ : ∃ r, d.ready [n] = r := ⟨_, rfl⟩
  rw [hr] at X
  have HR := Aside0.mk hr
  have HC0 := Aside0.mk c0
  have HW2 := Aside0.mk hW2
  have HL := Aside0.mk (lookOk c0.now n hn)
  clear hr hW1 hW2 c0
  by_cases h0 : r = 0
  · subst h0
    obtain ⟨g, hg⟩ : ∃ g, get d.now n = g := ⟨_, rfl⟩
    have HG := Aside0.mk hg
    rw [hg] at HL
    clear hg
    have HLEN := Aside0.mk (fun (X : World) (hX : X.heap[bn]? = W.heap[bn]?) => ownsMap_move HC0.out.now hX)
    cases g with
    | some y =>
      go_enter Try.func13, Try.ntmps13
      go_wp2_with (go_at_call 33; refine X.mono ?_; rintro e W1 ⟨rfl, hB⟩; clear X; have HB := Aside0.mk (HW2.out.trans (hB.mono HW2.out.size)); have hc1 := (HC0.out.step' HB.out).cells.1; have hlk := fun q => HL.out (W1.drewN q) (HB.out.block bn (HC0.out.mine bn HC0.out.inN).2); have hbx : W1.cell? ⟨W.heap.size, 0, none⟩ = some (.string (S n)) := (hB.cell (p := ⟨W.heap.size, 0, none⟩) (by simp; omega)).trans (by simp); clear hB)
      go_quiet (fail)
      go_wp2
      go_ret
      have e : d.create W.heap.size n = (5, d) := by rw [Disk.create, HR.out, if_neg (by omega), HG.out, if_pos (by simp)]
      have hB' := pw_below_drewN HB.out nq
      refine ⟨W.heap.size, HC0.out.fresh (Nat.le_refl _), by rw [e]; rfl, T, ?_, Turn.of_below hB'⟩
      rw [e]
      exact ⟨_, _, _, _, _, (HC0.out.step' hB').le (Nat.le_succ N)⟩
    | none =>
      obtain ⟨m, hm⟩ : ∃ m, d.now.length = m := ⟨_, rfl⟩
      have HM := Aside0.mk hm
      by_cases h256 : m ≥ 256
      · go_enter Try.func13, Try.ntmps13
        clear hm
        go_wp2_with (go_at_call 33; refine X.mono ?_; rintro e W1 ⟨rfl, hB⟩; clear X; have HB := Aside0.mk (HW2.out.trans (hB.mono HW2.out.size)); have hc1 := (HC0.out.step' HB.out).cells.1; have hlk := fun q => HL.out (W1.drewN q) (HB.out.block bn (HC0.out.mine bn HC0.out.inN).2); have hbx : W1.cell? ⟨W.heap.size, 0, none⟩ = some (.string (S n)) := (hB.cell (p := ⟨W.heap.size, 0, none⟩) (by simp; omega)).trans (by simp); have hbb : W1.heap[W.heap.size]? = some (.cells #[.string (S n)] 9 (0, 0)) := (hB.block W.heap.size (by simp; omega)).trans ((Below.heap_alloc _ _ _ (by simp)).trans (heap_alloc_new W _)); have HBB := Aside0.mk hbb; clear hB hbb)
        go_quiet (fail)
        go_wp2_with (at_len; refine wpList_len_own _ rfl _ 61 rfl 9 66 Try.underlying61 ptrElem bn d.now.length (D d.now) rfl (HLEN.out _ (HB.out.block bn (HC0.out.mine bn HC0.out.inN).2)) ?_; rw [D_size, HM.out])
        go_ret
        have e : d.create W.heap.size n = (3, d) := by rw [Disk.create, HR.out, if_neg (by omega), HG.out, if_neg (by simp), HM.out, if_pos h256]
        have hB' := pw_below_drewN HB.out nq
        refine ⟨W.heap.size, HC0.out.fresh (Nat.le_refl _), by rw [e]; rfl, T, ?_, Turn.of_below hB'⟩
        rw [e]
        exact ⟨_, _, _, _, _, (HC0.out.step' hB').le (Nat.le_succ N)⟩
      · go_enter Try.func13, Try.ntmps13
        clear hm
        go_wp2_with (go_at_call 33; refine X.mono ?_; rintro e W1 ⟨rfl, hB⟩; clear X; have HB := Aside0.mk (HW2.out.trans (hB.mono HW2.out.size)); have hc1 := (HC0.out.step' HB.out).cells.1; have hlk := fun q => HL.out (W1.drewN q) (HB.out.block bn (HC0.out.mine bn HC0.out.inN).2); have hbx : W1.cell? ⟨W.heap.size, 0, none⟩ = some (.string (S n)) := (hB.cell (p := ⟨W.heap.size, 0, none⟩) (by simp; omega)).trans (by simp); have hbb : W1.heap[W.heap.size]? = some (.cells #[.string (S n)] 9 (0, 0)) := (hB.block W.heap.size (by simp; omega)).trans ((Below.heap_alloc _ _ _ (by simp)).trans (heap_alloc_new W _)); have HBB := Aside0.mk hbb; clear hB hbb)
        go_quiet (fail)
        go_wp2_with (at_len; refine wpList_len_own _ rfl _ 61 rfl 9 66 Try.underlying61 ptrElem bn d.now.length (D d.now) rfl (HLEN.out _ (HB.out.block bn (HC0.out.mine bn HC0.out.inN).2)) ?_; rw [D_size, HM.out])
        have hB5 : Below W.heap.size W (((W1.drewN nq).alloc (.cells #[.slice none 0 0, .int .i64 0] 69)).alloc (.cells #[.pointer (some ⟨W1.heap.size, 0, none⟩)] 66)) := below_alloc (below_alloc (pw_below_drewN HB.out nq) _) _
        have hx5 : (((W1.drewN nq).alloc (.cells #[.slice none 0 0, .int .i64 0] 69)).alloc (.cells #[.pointer (some ⟨W1.heap.size, 0, none⟩)] 66)).heap[W1.heap.size]? = some (.cells #[.slice none 0 0, .int .i64 0] 69 (0, 0)) := (Below.heap_alloc _ _ _ (by simp [World.drewN])).trans (heap_alloc_new (W1.drewN nq) _)
        have hp5 : (((W1.drewN nq).alloc (.cells #[.slice none 0 0, .int .i64 0] 69)).alloc (.cells #[.pointer (some ⟨W1.heap.size, 0, none⟩)] 66)).heap[W1.heap.size + 1]? = some (.cells #[.pointer (some ⟨W1.heap.size, 0, none⟩)] 66 (0, 0)) := by
          have := heap_alloc_new ((W1.drewN nq).alloc (.cells #[.slice none 0 0, .int .i64 0] 69)) (.cells #[.pointer (some ⟨W1.heap.size, 0, none⟩)] 66)
          simpa [World.drewN] using this
        have hs1 : W.heap.size < W1.heap.size := Nat.lt_of_lt_of_le (by simp) (show (W.heap.size + 1) ≤ W1.heap.size by have := (Array.getElem?_eq_some_iff.1 HBB.out).1; omega)
        have hn5 : (((W1.drewN nq).alloc (.cells #[.slice none 0 0, .int .i64 0] 69)).alloc (.cells #[.pointer (some ⟨W1.heap.size, 0, none⟩)] 66)).heap[W.heap.size]? = some (.cells #[.string (S n)] 9 (0, 0)) := (Below.heap_alloc _ _ _ (by simp [World.drewN]; omega)).trans ((Below.heap_alloc _ _ _ (by simp [World.drewN]; omega)).trans HBB.out)
        have hs5 : (((W1.drewN nq).alloc (.cells #[.slice none 0 0, .int .i64 0] 69)).alloc (.cells #[.pointer (some ⟨W1.heap.size, 0, none⟩)] 66)).heap.size = W1.heap.size + 2 := by simp [World.drewN]
        obtain ⟨W5, hW5⟩ : ∃ W5, (((W1.drewN nq).alloc (.cells #[.slice none 0 0, .int .i64 0] 69)).alloc (.cells #[.pointer (some ⟨W1.heap.size, 0, none⟩)] 66)) = W5 := ⟨_, rfl⟩
        rw [hW5] at hB5 hx5 hp5 hn5 hs5
        rw [hW5]
        clear hW5
        have hnx := HC0.out.fresh (x := W1.heap.size) HB.out.size
        have hlen : n.length ≤ 80 := ready_len HR.out (by simp)
        have hW : ∀ k, W.heap.size ≤ k → k < W1.heap.size + 2 → Wide T W W5 k := fun k h1 h2 => .inr ⟨h1, by omega⟩
        have X3 := change ((HC0.out.wide hB5).other hnx [] 0) hN (c := .create n W1.heap.size) (v := .func (.func 35) #[] #[.pointer (some ⟨W1.heap.size + 1, 0, none⟩), .pointer (some ⟨W.heap.size, 0, none⟩)]) ⟨_, _, rfl, hp5, hn5, hW _ (by omega) (by omega), hW _ (by omega) (by omega), hlen⟩ trivial (by
          intro n' x' e
          cases e
          exact ⟨hx5, hW _ (by omega) (by omega), hnx, setAt_same _ _ _, setAt_same _ _ _⟩)
        have HX3 := Aside0.mk X3
        have HB5 := Aside0.mk hB5
        have HNX := Aside0.mk hnx
        clear X3 hB5 hx5 hp5 hn5 hs5 hs1 hnx hlen hW hlk hbx hc1
        go_wp2_with (go_at_call 34; refine HX3.out.mono ?_; rintro e W6 ⟨rfl, hP⟩; have HP := Aside0.mk hP; clear hP)
        go_ret
        have e : d.create W1.heap.size n = Disk.change { d with bytes := setAt d.bytes W1.heap.size [], firm := setAt d.firm W1.heap.size 0 } (.create n W1.heap.size) := by rw [Disk.create, HR.out, if_neg (by omega), HG.out, if_neg (by simp), HM.out, if_neg h256]
        refine ⟨W1.heap.size, HNX.out, by rw [e]; rfl, ?_⟩
        rw [e]
        obtain ⟨T', h1, h2⟩ := HP.out
        exact ⟨T', h1, (Turn.wide HB5.out).trans h2⟩
  · have h0' : (r == 0) = false := by simpa using h0
    have h0'' : (r != 0) = true := by simpa using h0
    go_enter Try.func13, Try.ntmps13
    go_wp2_with (go_at_call 33; refine X.mono ?_; rintro e W1 ⟨rfl, hB⟩; clear X)
    go_ret
    have e : d.create W.heap.size n = (r, d) := by rw [Disk.create, HR.out, if_pos h0]
    have hB' := HW2.out.trans (hB.mono HW2.out.size)
    refine ⟨W.heap.size, HC0.out.fresh (Nat.le_refl _), by rw [e]; rfl, T, ?_, Turn.of_below hB'⟩
    rw [e]
    exact ⟨_, _, _, _, _, (HC0.out.step' hB').le (Nat.le_succ N)⟩
end Go.Proofs.Ytibmgcihpbofdaa.Fs
