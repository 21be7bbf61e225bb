/- fs: ready, power, found: what they do. -/
import Derived.Test.YtibmgcihpbofdaaFsHeap
import Derived.ChangeAlike
namespace Go.Proofs.Ytibmgcihpbofdaa.Fs
open Go.RowKit Go.Proofs.Ytibmgcihpbofdaa Go.Proofs.Ytibmgcihpbofdaa.Plain Go.Proofs.YtibmgcihpbofdaaW.PrintWords Go.Maps
set_option linter.unusedVariables false
set_option linter.unusedSimpArgs false
theorem readyNil (A : Option Addr) (n c : Nat) (W : World) : Calls Try.prog 33 #[.pointer none, .slice A n c] W fun e W' => e = .returned (.int .i64 1) ∧ W' = W := by
  go_enter Try.func33, Try.ntmps33
  go_wp2
  go_ret
  exact ⟨rfl, rfl⟩
set_option maxHeartbeats 1000000 in
theorem ready {w0 W : World} {f : Nat} {d : Disk} {N : Nat} {T : Nat → Prop} (h : FsAt w0 f d N T W) (A : Option Addr) (c : Nat) (ns : List Nm) (hns : NamesAt W A ns) (hn : ns.length ≤ 100) {n : Nat} (en : n = ns.length) :
    Calls Try.prog 33 #[.pointer (some ⟨f, 0, none⟩), .slice A n c] W fun e W' => e = .returned (.int .i64 (d.ready ns)) ∧ Below W.heap.size W W' := by
  subst en
  obtain ⟨bn, bs, vl, fs, vb, c0⟩ := h
  have X := containsFunc A c ns W hns hn
  obtain ⟨_, _, _, _, _, c5⟩ := c0.cells
  have hc5 : ∀ Y : World, Below W.heap.size W Y → Y.cell? ⟨f, 5, none⟩ = some (.bool d.down) := fun Y hY => (hY.cell (p := ⟨f, 5, none⟩) (c0.mine f c0.inF).2).trans c5
  have HC := Aside0.mk hc5
  obtain ⟨b, hb⟩ : ∃ b, (ns.any fun n => !rightB n) = b := ⟨_, rfl⟩
  have HB := Aside0.mk hb
  rw [hb] at X
  clear c0 hns c5 hc5 hb
  cases b with
  | true =>
    go_enter Try.func33, Try.ntmps33
    go_wp2_with (go_at_call 49; refine X.mono ?_; rintro e W1 ⟨rfl, hB⟩)
    go_ret
    refine ⟨?_, hB⟩
    rw [Disk.ready, HB.out]
    rfl
  | false =>
    go_enter Try.func33, Try.ntmps33
    go_wp2_with (go_at_call 49; refine X.mono ?_; rintro e W1 ⟨rfl, hB⟩; have h5 := HC.out W1 hB)
    all_goals
      go_ret
      refine ⟨?_, hB⟩
      rw [Disk.ready, HB.out]
      simp [*]
/-- what a store into one of the disk's number fields leaves -/
theorem Core.setScalar {w0 W : World} {f : Nat} {d : Disk} {N : Nat} {T : Nat → Prop} {bn bs : Nat} {vl : Value} {fs : List Value} {vb : Nat → Value} (h : Core w0 W f d N T bn bs vl fs vb) :
    (∀ r : Int, 0 ≤ r ∧ r ≤ 16777216 → Core w0 (W.setCell ⟨f, 3, none⟩ (.int .i64 r)) f { d with room := r } N T bn bs vl fs vb) ∧
    (∀ r : Int, -1 ≤ r ∧ r ≤ 9223372036854775807 → Core w0 (W.setCell ⟨f, 4, none⟩ (.int .i64 r)) f { d with fuse := r } N T bn bs vl fs vb) ∧
    (∀ b : Bool, Core w0 (W.setCell ⟨f, 5, none⟩ (.bool b)) f { d with down := b } N T bn bs vl fs vb) := by
  have hb : ∀ (o : Nat) (v : Value), Below w0.heap.size w0 (W.setCell ⟨f, o, none⟩ v) := fun o v => h.below.setCell (h.mine f h.inF).1 v
  have hk := fun (o : Nat) (v : Value) (k : Nat) (hk : k ≠ f) => Below.heap_setCell W ⟨f, o, none⟩ v k hk
  refine ⟨fun r hr => ?_, fun r hr => ?_, fun b => ?_⟩
  · exact h.scalar r d.fuse d.down (by simp [World.setCell, Array.getElem?_modify, h.head]) (hk _ _) (by simp [World.setCell]) (hb _ _) hr h.fuse
  · exact h.scalar d.room r d.down (by simp [World.setCell, Array.getElem?_modify, h.head]) (hk _ _) (by simp [World.setCell]) (hb _ _) h.room hr
  · exact h.scalar d.room d.fuse b (by simp [World.setCell, Array.getElem?_modify, h.head]) (hk _ _) (by simp [World.setCell]) (hb _ _) h.room h.fuse
theorem Turn.set {T : Nat → Prop} {W : World} {p : Addr} (hT : T p.block) (v : Value) : Turn T W T (W.setCell p v) :=
  ⟨fun _ h => .inl h, fun _ h => h, fun k _ hk => Below.heap_setCell W p v k (fun e => hk (e ▸ hT)), by simp [World.setCell]⟩
/-- nothing has turned but block f -/
def But (f : Nat) (W W' : World) : Prop := (∀ k, k ≠ f → W'.heap[k]? = W.heap[k]?) ∧ W'.heap.size = W.heap.size
theorem But.set (f o : Nat) (v : Value) {W : World} : But f W (W.setCell ⟨f, o, none⟩ v) := ⟨fun k hk => Below.heap_setCell W ⟨f, o, none⟩ v k hk, by simp [World.setCell]⟩
theorem But.turn {f : Nat} {W W' : World} {T : Nat → Prop} (h : But f W W') (hT : T f) : Turn T W T W' := ⟨fun _ h => .inl h, fun _ h => h, fun k _ hk => h.1 k (fun e => hk (e ▸ hT)), Nat.le_of_eq h.2.symm⟩
set_option maxHeartbeats 1000000 in
theorem power {w0 W : World} {f : Nat} {d : Disk} {N : Nat} {T : Nat → Prop} {bn bs : Nat} {vl : Value} {fs : List Value} {vb : Nat → Value} (h : Core w0 W f d N T bn bs vl fs vb) :
    Calls Try.prog 37 #[.pointer (some ⟨f, 0, none⟩)] W fun e W' => e = .returned (.int .i64 d.power.1) ∧ Core w0 W' f d.power.2 N T bn bs vl fs vb ∧ But f W W' := by
  obtain ⟨_, _, _, _, c4, _⟩ := h.cells
  have f4 := h.frozen 4
  have f5 := h.frozen 5
  have hf := h.fuse
  obtain ⟨fu, hfu⟩ : ∃ fu, d.fuse = fu := ⟨_, rfl⟩
  rw [hfu] at c4 hf
  have HF := Aside0.mk hfu
  have HC := Aside0.mk h
  clear h hfu
  obtain ⟨hf1, hf2⟩ := hf
  by_cases h0 : fu = 0
  · subst h0
    go_enter Try.func37, Try.ntmps37
    go_wp2
    go_ret
    have e : d.power = (2, { d with down := true }) := by simp [Disk.power, HF.out]
    rw [e]
    exact ⟨rfl, HC.out.setScalar.2.2 true, But.set _ _ _⟩
  · by_cases h1 : 0 < fu
    · have h0' : (fu == 0) = false := by simpa using h0
      go_enter Try.func37, Try.ntmps37
      go_wp2
      go_ret
      have e : d.power = (0, { d with fuse := fu - 1 }) := by simp [Disk.power, HF.out, h0, h1]
      rw [e]
      exact ⟨rfl, HC.out.setScalar.2.1 (fu - 1) ⟨by omega, by omega⟩, But.set _ _ _⟩
    · have h0' : (fu == 0) = false := by simpa using h0
      go_enter Try.func37, Try.ntmps37
      go_wp2
      go_ret
      have e : d.power = (0, d) := by rw [Disk.power, HF.out, if_neg h0, if_neg (by omega)]
      rw [e]
      exact ⟨rfl, HC.out, fun _ _ => rfl, rfl⟩
/-- what 'found' answers -/
def Disk.found (d : Disk) (ns : List Nm) (n : Nm) : Value × Int := if d.ready ns ≠ 0 then (.pointer none, d.ready ns) else match get d.now n with | none => (.pointer none, 4) | some x => (.pointer (some ⟨x, 0, none⟩), 0)
theorem foundNil (A : Option Addr) (n c : Nat) (W : World) : Calls Try.prog 36 #[.pointer none, .slice A n c] W fun e W' => e = .returned (.tuple #[.pointer none, .int .i64 1]) ∧ W' = W := by
  have X := readyNil A n c W
  go_enter Try.func36, Try.ntmps36
  go_wp2_with (go_at_call 33; refine X.mono ?_; rintro e W1 ⟨rfl, rfl⟩)
  go_ret2
  exact ⟨rfl, rfl⟩
set_option maxHeartbeats 1000000 in
theorem found {w0 W : World} {f : Nat} {d : Disk} {N : Nat} {T : Nat → Prop} (h : FsAt w0 f d N T W) (A : Option Addr) (c : Nat) (n : Nm) (ns : List Nm) (hns : NamesAt W A (n :: ns)) (hn : (n :: ns).length ≤ 100) {m : Nat} (em : m = (n :: ns).length) :
    Calls Try.prog 36 #[.pointer (some ⟨f, 0, none⟩), .slice A m c] W fun e W' => e = .returned (.tuple #[(d.found (n :: ns) n).1, .int .i64 (d.found (n :: ns) n).2]) ∧ Below W.heap.size W W' := by
  subst em
  have X := ready h A c (n :: ns) hns hn rfl
  obtain ⟨bn, bs, vl, fs, vb, c0⟩ := h
  obtain ⟨c1, _⟩ := c0.cells
  obtain ⟨ad, rfl, hcell, hlen⟩ := hns 0 (by simp)
  rw [show ad.add 0 = ad by simp [Addr.add]] at hcell
  have hcell : W.cell? ad = some (.string (S n)) := hcell
  have hlen : n.length ≤ 140737488351232 := hlen
  obtain ⟨r, hr⟩ : ∃ r, d.ready (n :: ns) = r := ⟨_, rfl⟩
  rw [hr] at X
  have HR := Aside0.mk hr
  have HL := Aside0.mk (lookOk c0.now n hlen)
  have HC1 := Aside0.mk (fun (Y : World) (hY : Below W.heap.size W Y) => (hY.cell (p := ⟨f, 0, none⟩) (c0.mine f c0.inF).2).trans c1)
  have HC2 := Aside0.mk (fun (Y : World) (hY : Below W.heap.size W Y) => (World.cell?_of_block (hY.block _ (World.block_lt_of_cell? _ _ hcell))).trans hcell)
  have HBN := Aside0.mk (fun (Y : World) (hY : Below W.heap.size W Y) => hY.block bn (c0.mine bn c0.inN).2)
  have hm : (n :: ns).length = ns.length + 1 := rfl
  rw [hm] at X
  simp only [hm]
  clear hr c1 c0 hcell hns hm
  by_cases h0 : r = 0
  · subst h0
    obtain ⟨g, hg⟩ : ∃ g, get d.now n = g := ⟨_, rfl⟩
    have HG := Aside0.mk hg
    rw [hg] at HL
    clear hg
    cases g with
    | none =>
      go_enter Try.func36, Try.ntmps36
      go_wp2_with (go_at_call 33; refine X.mono ?_; rintro e W1 ⟨rfl, hB⟩; have hc1 := HC1.out W1 hB; have hc2 := HC2.out W1 hB; have hlk := fun q => HL.out (W1.drewN q) (HBN.out W1 hB); have HB := Aside0.mk hB; clear hB X)
      go_quiet (fail)
      go_wp2
      go_ret2
      refine ⟨?_, pw_below_drewN HB.out _⟩
      simp [Disk.found, HR.out, HG.out]
    | some x =>
      go_enter Try.func36, Try.ntmps36
      go_wp2_with (go_at_call 33; refine X.mono ?_; rintro e W1 ⟨rfl, hB⟩; have hc1 := HC1.out W1 hB; have hc2 := HC2.out W1 hB; have hlk := fun q => HL.out (W1.drewN q) (HBN.out W1 hB); have HB := Aside0.mk hB; clear hB X)
      go_quiet (fail)
      go_wp2
      go_ret2
      refine ⟨?_, pw_below_drewN HB.out _⟩
      simp [Disk.found, HR.out, HG.out]
  · have h0' : (r == 0) = false := by simpa using h0
    have h0'' : (r != 0) = true := by simpa using h0
    go_enter Try.func36, Try.ntmps36
    go_wp2_with (go_at_call 33; refine X.mono ?_; rintro e W1 ⟨rfl, hB⟩)
    go_ret2
    refine ⟨?_, hB⟩
    simp [Disk.found, HR.out, h0]
end Go.Proofs.Ytibmgcihpbofdaa.Fs
