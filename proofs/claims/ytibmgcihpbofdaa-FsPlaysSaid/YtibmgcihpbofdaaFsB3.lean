/- fs: Used: the bytes of all files. fs: a file's bytes written: what it leaves; Sync, Append. fs: Append. fs: Room, Fuse, Down, Loose, a file's bytes cloned, Read. fs: Read, DirSync, New. fs: DirSync, New. fs: New. fs: the files of a directory in memory, one of them changed (for Crash). fs: Crash: what its walk leans on. -/
import Derived.Test.YtibmgcihpbofdaaFsB2
import Derived.Sort.KeysCollected
import Derived.Deep.RegionWith
import Derived.IntWalk
import Derived.Lib.SliceRun
import Derived.Shelf.SlMaps.Clone
import Derived.Test.YtibmgcihpbofdaaFsShelf
namespace Go.Proofs.Ytibmgcihpbofdaa.Fs
open Go.RowKit Go.Proofs.Ytibmgcihpbofdaa Go.Proofs.Ytibmgcihpbofdaa.Plain Go.Proofs.YtibmgcihpbofdaaW.PrintWords Go.Maps
set_option linter.unusedVariables false
set_option linter.unusedSimpArgs false
abbrev mkK (x : Nm) : Value := .string (S x)
abbrev mkV (o : Option Nat) : Value := .pointer (o.map fun b => ⟨b, 0, none⟩)
theorem invK (key : Value) (kl : Lit) (h : keyOf Try.prog 9 key = some kl) : ∃ x, key = mkK x := by
  obtain ⟨x, hx, _⟩ := Maps.keyOf_str Try.underlying9 h
  exact ⟨x, hx⟩
theorem invV (v : Value) (y : DataW Unit × List MemPlace) (h : ptrElem v = some y) : ∃ c, v = mkV c := by
  rcases ptrElem_inv h with ⟨b, rfl, _⟩ | ⟨rfl, _⟩
  · exact ⟨some b, rfl⟩
  · exact ⟨none, rfl⟩
theorem keyIs {x : Nm} {kl : Lit} (h : keyOf Try.prog 9 (mkK x) = some kl) : kl = .string x := by
  obtain ⟨x', hx, rfl, _⟩ := Maps.keyOf_str Try.underlying9 h
  have : S x = S x' := by simpa [Go.Proofs.encStr, S] using hx
  rw [S_inj this]
/-- the bytes of the entries that are still to come -/
def rest (by_ : Nat → List UInt8) (left : Lit → Bool) (d : Dir) : Nat := used by_ (d.filter fun p => left (.string p.1))
theorem used_nil (b : Nat → List UInt8) : used b [] = 0 := rfl
theorem used_cons (b : Nat → List UInt8) (p : Nm × Nat) (d : Dir) : used b (p :: d) = (b p.2).length + used b d := rfl
theorem at_get {d : Dir} {x : Nm} {c : Option Nat} {y : DataW Unit × List MemPlace} (h : ∀ zd, (D d).atKey (.string x) zd = y.1) (hv : ptrElem (mkV c) = some y) : ∃ b, c = some b ∧ get d x = some b := by
  have h1 := h .nil
  have h2 := h (.lit (.bool true))
  rw [D_at] at h1 h2
  cases hg : get d x with
  | none =>
    rw [hg] at h1 h2
    simp only at h1 h2
    rw [← h1] at h2
    cases h2
  | some b =>
    rw [hg] at h1
    cases c with
    | none =>
      have : y = (.nil, []) := by simpa [mkV, ptrElem] using hv.symm
      rw [this] at h1
      simp at h1
    | some b' =>
      have : y = (.lit (.int .i64 (b' : Int)), []) := by simpa [mkV, ptrElem] using hv.symm
      rw [this] at h1
      have : b = b' := by simp at h1; omega
      exact ⟨b, by rw [this], rfl⟩
def Keys (d : Dir) : Prop := d.Pairwise (fun p q => p.1 ≠ q.1)
theorem keys_of {W : World} {b n : Nat} {d : Dir} (h : W.ownsMap Try.prog 9 ptrElem b n (D d)) : Keys d := by
  obtain ⟨es, e, hp⟩ := h.tidy keyed
  have : es = d.map ent := by simpa [D] using e.symm
  subst this
  exact (List.pairwise_map.1 hp).imp (fun h e => h (by simp [ent, e]))
theorem keys_nodup {d : Dir} (h : Keys d) {p q : Nm × Nat} (hp : p ∈ d) (hq : q ∈ d) (e : p.1 = q.1) : p = q := by
  induction d with
  | nil => cases hp
  | cons a d ih =>
    obtain ⟨h1, h2⟩ := List.pairwise_cons.1 h
    rcases List.mem_cons.1 hp with e1 | hp'
    · rcases List.mem_cons.1 hq with e2 | hq'
      · rw [e1, e2]
      · exact absurd (e1 ▸ e) (h1 q hq')
    · rcases List.mem_cons.1 hq with e2 | hq'
      · exact absurd (e2 ▸ e.symm) (h1 p hp')
      · exact ih h2 hp' hq'
theorem mem_get {d : Dir} (h : Keys d) {n : Nm} {x : Nat} (hm : (n, x) ∈ d) : get d n = some x := by
  induction d with
  | nil => cases hm
  | cons a d ih =>
    obtain ⟨h1, h2⟩ := List.pairwise_cons.1 h
    rw [get_cons]
    rcases List.mem_cons.1 hm with rfl | hm
    · simp
    · rw [if_neg (fun e => h1 _ hm e)]
      exact ih h2 hm
theorem rest_cons (by_ : Nat → List UInt8) (left : Lit → Bool) (a : Nm × Nat) (d : Dir) : rest by_ left (a :: d) = if left (.string a.1) = true then (by_ a.2).length + rest by_ left d else rest by_ left d := by
  unfold rest
  rw [List.filter_cons]
  split <;> rfl
theorem rest_congr {by_ : Nat → List UInt8} {left left' : Lit → Bool} {d : Dir} (h : ∀ p ∈ d, left (.string p.1) = left' (.string p.1)) : rest by_ left d = rest by_ left' d := by
  unfold rest
  congr 1
  exact List.filter_congr h
theorem rest_step {by_ : Nat → List UInt8} {left : Lit → Bool} {d : Dir} (h : Keys d) {n : Nm} {x : Nat} (hg : get d n = some x) (hl : left (.string n) = true) : rest by_ left d = (by_ x).length + rest by_ (fun z => left z && !z.sameKey (.string n)) d := by
  induction d with
  | nil => cases hg
  | cons a d ih =>
    obtain ⟨h1, h2⟩ := List.pairwise_cons.1 h
    rw [get_cons] at hg
    rw [rest_cons, rest_cons]
    by_cases e : a.1 = n
    · rw [if_pos e] at hg
      cases hg
      rw [e, if_pos hl, if_neg (by simp [Lit.sameKey])]
      congr 1
      refine rest_congr (fun p hp => ?_)
      have : p.1 ≠ n := fun e' => h1 p hp (e.trans e'.symm)
      simp [Lit.sameKey, this]
    · rw [if_neg e] at hg
      have := ih h2 hg
      have e3 : (left (.string a.1) && !(Lit.string a.1).sameKey (.string n)) = left (.string a.1) := by simp [Lit.sameKey, e]
      simp only [e3]
      split
      · omega
      · exact this
theorem rest_none {by_ : Nat → List UInt8} {left : Lit → Bool} (h : ∀ kl, left kl = false) (d : Dir) : rest by_ left d = 0 := by
  unfold rest
  have : (d.filter fun p => left (.string p.1)) = [] := by simp [h]
  rw [this]
  rfl
theorem rest_all (by_ : Nat → List UInt8) (d : Dir) : rest by_ (Maps.has (D d)) d = used by_ d := by
  unfold rest
  congr 1
  rw [List.filter_eq_self]
  intro p hp
  simp only [D, Maps.has, List.any_map, List.any_eq_true]
  exact ⟨p, hp, by simp [ent, Lit.sameKey]⟩
theorem used_le {by_ : Nat → List UInt8} {d : Dir} {N : Nat} (h : ∀ p ∈ d, (by_ p.2).length ≤ N) : used by_ d ≤ d.length * N := by
  induction d with
  | nil => simp [used]
  | cons a d ih =>
    have h1 := ih (fun p hp => h p (List.mem_cons_of_mem _ hp))
    have h2 := h a List.mem_cons_self
    rw [used_cons, List.length_cons, Nat.add_mul]
    omega
theorem has_of_apps (l : List Chg) : ∀ (s : Dir) (p : Nm × Nat), p ∈ apps s l → (∃ n, (n, p.2) ∈ s) ∨ ∃ n, Chg.create n p.2 ∈ l := by
  induction l with
  | nil => intro s p hp; exact .inl ⟨p.1, hp⟩
  | cons c l ih =>
    intro s p hp
    rcases ih (c.app s) p hp with ⟨n, h⟩ | ⟨n, h⟩
    · cases c with
      | create m x =>
        rcases mem_put.1 h with e | ⟨h, _⟩
        · cases e
          exact .inr ⟨_, List.mem_cons_self⟩
        · exact .inl ⟨n, h⟩
      | rename a b =>
        simp only [Chg.app] at h
        cases hg : get s a with
        | none => rw [hg] at h; exact .inl ⟨n, h⟩
        | some x =>
          rw [hg] at h
          rcases mem_put.1 (mem_del.1 h).1 with e | ⟨h, _⟩
          · cases e
            exact .inl ⟨_, get_mem hg⟩
          · exact .inl ⟨n, h⟩
      | unlink m => exact .inl ⟨n, (mem_del.1 h).1⟩
    · exact .inr ⟨n, List.mem_cons_of_mem _ h⟩
theorem has_now {d : Disk} {p : Nm × Nat} (h : p ∈ d.now) : d.has p.2 := has_of_apps d.loose d.sure p h
theorem has_get {d : Disk} {n : Nm} {x : Nat} (h : get d.now n = some x) : d.has x := has_now (get_mem h)
set_option maxHeartbeats 1000000 in
set_option maxRecDepth 100000 in
theorem usedNil (W : World) : Calls Try.prog 25 #[.pointer none] W fun e W' => e = .returned (.int .i64 0) ∧ W' = W := by
  go_enter Try.func25, Try.ntmps25
  go_wp2
  go_ret
  exact ⟨rfl, rfl⟩
set_option maxHeartbeats 1000000 in
set_option maxRecDepth 100000 in
theorem usedIs {w0 W : World} {f : Nat} {d : Disk} {N : Nat} {T : Nat → Prop} (h : FsAt w0 f d N T W) (hN : N ≤ 1000000) :
    Calls Try.prog 25 #[.pointer (some ⟨f, 0, none⟩)] W fun e W' => e = .returned (.int .i64 (used d.bytes d.now : Int)) ∧ Below W.heap.size W W' := by
  obtain ⟨bn, bs, vl, fs, vb, c0⟩ := h
  have hc1 := c0.cells.1
  have HC := Aside0.mk c0
  have HK := Aside0.mk (keys_of c0.now)
  have hbd : used d.bytes d.now ≤ 2000000000000 := by
    have h1 := used_le (by_ := d.bytes) (d := d.now) (N := N) (fun p hp => c0.small.2 _ (has_now hp))
    have h2 := length_apps_le d.loose d.sure
    have h3 := c0.small.1
    have h4 : d.now.length ≤ 1000000 := by unfold Disk.now; omega
    have h5 : d.now.length * N ≤ 1000000 * 1000000 := Nat.mul_le_mul h4 hN
    omega
  obtain ⟨U, hU⟩ : ∃ U, used d.bytes d.now = U := ⟨_, rfl⟩
  have HU := Aside0.mk hU
  rw [hU] at hbd ⊢
  clear c0 hU
  go_enter Try.func25, Try.ntmps25
  go_wp2_with (at_range; refine wpList_range_own _ rfl _ 61 rfl 9 66 keyed Try.underlying61 ptrElem bn d.now.length (D d.now) rfl HC.out.now ?_; intro W1 hr1 hg1 hs1; have HR := Aside0.mk hr1; have HG := Aside0.mk hg1; clear hr1 hg1 hs1)
  go_frame
  have hbelow : Below W.heap.size W W1 := ⟨HG.out.os, HG.out.tape, HG.out.output, HG.out.size, fun k hk => HG.out.block k hk (by simp)⟩
  have HB := Aside0.mk hbelow
  clear hbelow
  go_loopw [3, 5] (fun v3 v5 wr => ∃ (left : Lit → Bool) (cnt s : Nat), v3 = .int .i64 s ∧ s ≤ U ∧ Aside0 (wr.ranges Try.prog 9 ptrElem bn W.heap.size d.now.length (D d.now) left cnt) ∧ Aside0 (s + rest d.bytes left d.now = U) ∧ Aside0 (Below W.heap.size W wr)) (fun _ _ wr => wr.rangeLeft bn W.heap.size)
  case atStart => exact ⟨_, _, 0, rfl, by omega, HR, ⟨by rw [rest_all]; have := HU.out; omega⟩, HB⟩
  case round =>
    obtain ⟨left, cnt, s, rfl, hs, HRg, HS, HBr⟩ := hrel
    clear HR HB HG
    go_wp2_with (at_next; refine wpList_next_ranges _ rfl _ rfl 9 keyed ptrElem mkK mkV invK invV bn W.heap.size d.now.length _ _ _ rfl HRg.out ?_ ?_)
    · intro _ hl0
      have HL0 := Aside0.mk hl0
      clear hl0
      go_wp2
      go_ret
      have e := HS.out
      rw [rest_none HL0.out] at e
      exact ⟨by rw [← e]; simp, HBr.out⟩
    · intro x c kl yd yp w1 cnt1 hkey hlx hv hat hrg1 hlt hg1 hs1 hen
      obtain rfl := keyIs hkey
      obtain ⟨b, rfl, hgb⟩ := at_get (y := (yd, yp)) hat hv
      have hB1 : Below W.heap.size W w1 := HBr.out.grown hg1 HBr.out.size (fun j hj => by cases hj; exact Nat.le_refl _)
      have hfile := HC.out.file b (has_get hgb)
      have hT := (HC.out.mine b (HC.out.inX b (has_get hgb)).1).2
      obtain ⟨A1, k1, hv1⟩ := own_slice hfile.2.1
      have hc1 : w1.cell? ⟨b, 0, none⟩ = some (vb b) := by
        have : W.cell? ⟨b, 0, none⟩ = some (vb b) := by simp [World.cell?, hfile.1]
        exact (hB1.cell (p := ⟨b, 0, none⟩) hT).trans this
      rw [hv1, B_length] at hc1
      have hst := rest_step (by_ := d.bytes) HK.out hgb hlx
      have hS2 := HS.out
      have hle : s + (d.bytes b).length ≤ U := by omega
      have HS2 := Aside0.mk (show s + (d.bytes b).length + rest d.bytes (fun z => left z && !z.sameKey (.string x)) d.now = U by omega)
      have HR1 := Aside0.mk hrg1
      have HLT := Aside0.mk hlt
      have HB1 := Aside0.mk hB1
      obtain ⟨l1, hl1⟩ : ∃ l1, (d.bytes b).length = l1 := ⟨_, rfl⟩
      rw [hl1] at hc1 hle HS2
      clear hS2 hst hv1 hfile hT hB1 hlt hrg1 hg1 hs1 hat hv hl1
      simp only [mkK, mkV, Option.map_some] at hen ⊢
      go_wp2
      go_roundw
      case rel => exact ⟨_, cnt1, s + l1, by go_num, hle, HR1, HS2, HB1⟩
      case measure => rw [HR1.out.left_eq, HRg.out.left_eq]; exact HLT.out
end Go.Proofs.Ytibmgcihpbofdaa.Fs
namespace Go.Proofs.Ytibmgcihpbofdaa.Fs
open Go.RowKit Go.Proofs.Ytibmgcihpbofdaa Go.Proofs.Ytibmgcihpbofdaa.Plain Go.Proofs.YtibmgcihpbofdaaW.PrintWords Go.Maps
set_option linter.unusedVariables false
set_option linter.unusedSimpArgs false
theorem Core.keepX {w0 W : World} {f : Nat} {d : Disk} {N : Nat} {T : Nat → Prop} {bn bs : Nat} {vl : Value} {fs : List Value} {vb : Nat → Value} (h : Core w0 W f d N T bn bs vl fs vb) {x : Nat} (hx : d.has x) :
    (f ≠ x ∧ some f ≠ (vb x).ownBlock) ∧ (bn ≠ x ∧ some bn ≠ (vb x).ownBlock) ∧ (bs ≠ x ∧ some bs ≠ (vb x).ownBlock) ∧ (∀ g, vl.ownBlock = some g → g ≠ x ∧ some g ≠ (vb x).ownBlock) ∧ (∀ k, IsBox W k → k ≠ x ∧ some k ≠ (vb x).ownBlock) ∧
    some x ≠ (vb x).ownBlock ∧ (∀ y, d.has y → y ≠ x → some y ≠ (vb x).ownBlock ∧ ∀ g, (vb y).ownBlock = some g → g ≠ x ∧ some g ≠ (vb x).ownBlock) := by
  obtain ⟨es, c, h1⟩ := map_obj h.now
  obtain ⟨es', c', h2⟩ := map_obj h.sure
  have ex := (h.file x hx).1
  have hrow : ∀ k o, W.heap[k]? = some o → (∀ cur, o ≠ .cells cur 5 (0, 0)) → some k ≠ (vb x).ownBlock := by
    intro k o hk ho e
    obtain ⟨cur, h3⟩ := own_cells (h.file x hx).2.1 e.symm
    rw [hk] at h3
    exact ho cur (Option.some.inj h3)
  refine ⟨⟨ne_of_obj h.head ex (by simp), hrow f _ h.head (by simp)⟩, ⟨ne_of_obj h1 ex (by simp), hrow bn _ h1 (by simp)⟩, ⟨ne_of_obj h2 ex (by simp), hrow bs _ h2 (by simp)⟩, fun g hg => ?_, fun k hB => ⟨?_, ?_⟩, hrow x _ ex (by simp), fun y hy hyx => ⟨hrow y _ (h.file y hy).1 (by simp), fun g hg => ⟨?_, fun e => ?_⟩⟩⟩
  · obtain ⟨cur, h3⟩ := own_cells h.row hg
    exact ⟨ne_of_obj h3 ex (by simp), hrow g _ h3 (by simp)⟩
  · obtain ⟨c, hk | hk⟩ := hB <;> exact ne_of_obj hk ex (by simp)
  · obtain ⟨c, hk | hk⟩ := hB <;> exact hrow k _ hk (by simp)
  · obtain ⟨cur, h3⟩ := own_cells (h.file y hy).2.1 hg
    exact ne_of_obj h3 ex (by simp)
  · exact hyx (h.apart y x hy hx g hg e.symm)
theorem Core.setFile {w0 W W4 : World} {f : Nat} {d : Disk} {N N' : Nat} {T : Nat → Prop} {bn bs : Nat} {vl : Value} {fs : List Value} {vb : Nat → Value} (h : Core w0 W f d N T bn bs vl fs vb) {x : Nat} (hx : d.has x) {v1 : Value} {b' : List UInt8} {m' : Nat}
    (hk : ∀ k, k < W.heap.size → k ≠ x → some k ≠ (vb x).ownBlock → W4.heap[k]? = W.heap[k]?) (hs : W.heap.size ≤ W4.heap.size) (hb : Below w0.heap.size w0 W4)
    (h4 : W4.heap[x]? = some (.cells #[v1, .int .i64 (m' : Int)] 69 (0, 0))) (hrow : W4.ownsRow w0.heap.size 5 1 v1 (B b').length (nums .u8 (B b'))) (hm : m' ≤ b'.length)
    (hat : v1.ownBlock = (vb x).ownBlock ∨ ∀ g, v1.ownBlock = some g → W.heap.size ≤ g) (hN : N ≤ N') (hl : b'.length ≤ N') :
    Core w0 W4 f { d with bytes := setAt d.bytes x b', firm := setAt d.firm x m' } N' (Wide T W W4) bn bs vl fs (setAt vb x v1) ∧ Turn T W (Wide T W W4) W4 := by
  obtain ⟨⟨f1, f2⟩, ⟨n1, n2⟩, ⟨s1, s2⟩, hvl, hbox, x2, hy⟩ := h.keepX hx
  have hkT : ∀ k, T k → k ≠ x → some k ≠ (vb x).ownBlock → W4.heap[k]? = W.heap[k]? := fun k hT => hk k (h.mine k hT).2
  have hvs : ∀ y, y ≠ x → setAt vb x v1 y = vb y := fun y hyx => setAt_other _ _ hyx
  have hown : ∀ g, v1.ownBlock = some g → Wide T W W4 g := by
    intro g hg
    rcases hat with e | e
    · exact .inl ((h.inX x hx).2 g (e ▸ hg))
    · exact .inr ⟨e g hg, own_lt hrow g hg⟩
  refine ⟨{ head := (hkT f h.inF f1 f2).trans h.head, now := ownsMap_move h.now (hkT bn h.inN n1 n2), sure := ownsMap_move h.sure (hkT bs h.inS s1 s2), ne := h.ne, row := own_move h.row (fun k hk' => hkT k (h.inL k hk') (hvl k hk').1 (hvl k hk').2), clo := h.clo.move (fun k hT hB => hkT k hT (hbox k hB).1 (hbox k hB).2) (fun k hT => .inl hT), file := ?_, apart := ?_, inF := .inl h.inF, inN := .inl h.inN, inS := .inl h.inS, inL := fun g hg => .inl (h.inL g hg), inX := ?_, mine := ?_, ok := h.ok, room := h.room, fuse := h.fuse, small := ⟨Nat.le_trans h.small.1 hN, ?_⟩, below := hb }, ?_⟩
  · intro y hy'
    have hyd : d.has y := hy'
    by_cases e : y = x
    · subst e
      simp only [setAt_same]
      exact ⟨h4, hrow, hm⟩
    · simp only [setAt_other _ _ e]
      obtain ⟨q1, q2, q3⟩ := h.file y hyd
      obtain ⟨r1, r2⟩ := hy y hyd e
      exact ⟨(hkT y (h.inX y hyd).1 e r1).trans q1, own_move q2 (fun k hk' => hkT k ((h.inX y hyd).2 k hk') (r2 k hk').1 (r2 k hk').2), q3⟩
  · intro y z hy' hz' g hgy hgz
    have hyd : d.has y := hy'
    have hzd : d.has z := hz'
    by_cases ey : y = x
    · by_cases ez : z = x
      · rw [ey, ez]
      · subst ey
        rw [setAt_same] at hgy
        rw [hvs z ez] at hgz
        exfalso
        rcases hat with e | e
        · exact ((hy z hzd ez).2 g hgz).2 (e ▸ hgy).symm
        · have := e g hgy
          have := (h.mine g ((h.inX z hzd).2 g hgz)).2
          omega
    · by_cases ez : z = x
      · subst ez
        rw [setAt_same] at hgz
        rw [hvs y ey] at hgy
        exfalso
        rcases hat with e | e
        · exact ((hy y hyd ey).2 g hgy).2 (e ▸ hgz).symm
        · have := e g hgz
          have := (h.mine g ((h.inX y hyd).2 g hgy)).2
          omega
      · rw [hvs y ey] at hgy
        rw [hvs z ez] at hgz
        exact h.apart y z hyd hzd g hgy hgz
  · intro y hy'
    have hyd : d.has y := hy'
    by_cases e : y = x
    · subst e
      rw [setAt_same]
      exact ⟨.inl (h.inX y hyd).1, hown⟩
    · rw [hvs y e]
      exact ⟨.inl (h.inX y hyd).1, fun g hg => .inl ((h.inX y hyd).2 g hg)⟩
  · rintro k (hT | ⟨q1, q2⟩)
    · exact ⟨(h.mine k hT).1, Nat.lt_of_lt_of_le (h.mine k hT).2 hs⟩
    · exact ⟨Nat.le_trans h.below.size q1, q2⟩
  · intro y hy'
    have hyd : d.has y := hy'
    by_cases e : y = x
    · subst e
      simp only [setAt_same]
      exact hl
    · simp only [setAt_other _ _ e]
      exact Nat.le_trans (h.small.2 y hyd) hN
  · exact ⟨fun k hk' => hk'.elim .inl (fun h => .inr h.1), fun k hT => .inl hT, fun k hk' hT => hk k hk' (fun e => hT (e ▸ (h.inX x hx).1)) (fun e => hT ((h.inX x hx).2 k e.symm)), hs⟩
/-- a file's two cells -/
theorem Core.fileCells {w0 W : World} {f : Nat} {d : Disk} {N : Nat} {T : Nat → Prop} {bn bs : Nat} {vl : Value} {fs : List Value} {vb : Nat → Value} (h : Core w0 W f d N T bn bs vl fs vb) {x : Nat} (hx : d.has x) :
    W.cell? ⟨x, 0, none⟩ = some (vb x) ∧ W.cell? ⟨x, 1, none⟩ = some (.int .i64 (d.firm x : Int)) ∧ (∀ o, W.frozen? ⟨x, o, none⟩ = false) ∧ ∃ A c, vb x = .slice A (d.bytes x).length c := by
  have e := (h.file x hx).1
  obtain ⟨A, c, hv⟩ := own_slice (h.file x hx).2.1
  rw [B_length] at hv
  exact ⟨by simp [World.cell?, e], by simp [World.cell?, e], fun o => by simp [World.frozen?, e], A, c, hv⟩
theorem setFirm_eq {W : World} {x : Nat} {v : Value} {m m' : Int} (h : W.heap[x]? = some (.cells #[v, .int .i64 m] 69 (0, 0))) : (W.setCell ⟨x, 1, none⟩ (.int .i64 m')).heap[x]? = some (.cells #[v, .int .i64 m'] 69 (0, 0)) := by
  simp [World.setCell, Array.getElem?_modify, h]
theorem setBytes_eq {W : World} {x : Nat} {v v' : Value} {m : Int} (h : W.heap[x]? = some (.cells #[v, .int .i64 m] 69 (0, 0))) : (W.setCell ⟨x, 0, none⟩ v').heap[x]? = some (.cells #[v', .int .i64 m] 69 (0, 0)) := by
  simp [World.setCell, Array.getElem?_modify, h]
theorem power_has {d : Disk} {x : Nat} : d.power.2.has x ↔ d.has x := by unfold Disk.power; split; exact Iff.rfl; split <;> exact Iff.rfl
theorem power_eq (d : Disk) : d.power.2.bytes = d.bytes ∧ d.power.2.firm = d.firm ∧ d.power.2.loose = d.loose ∧ d.power.2.sure = d.sure ∧ d.power.2.now = d.now := by unfold Disk.power; split; exact ⟨rfl, rfl, rfl, rfl, rfl⟩; split <;> exact ⟨rfl, rfl, rfl, rfl, rfl⟩
theorem setAt_id {α : Type} (g : Nat → α) (x : Nat) : setAt g x (g x) = g := by funext y; unfold setAt; split; rename_i e; rw [e]; rfl
set_option maxHeartbeats 1000000 in
set_option maxRecDepth 100000 in
theorem sync {w0 W : World} {f : Nat} {d : Disk} {N : Nat} {T : Nat → Prop} (h : FsAt w0 f d N T W) (hN : N ≤ 1000000) (n : Nm) (hn : n.length ≤ 140737488351232) :
    Calls Try.prog 17 #[.pointer (some ⟨f, 0, none⟩), .string (S n)] W fun e W' => e = .returned (.int .i64 (d.sync n).1) ∧ ∃ T', FsAt w0 f (d.sync n).2 (N + 1) T' W' ∧ Turn T W T' W' := by
  have hW2 : Below W.heap.size W (W.alloc (.cells #[.string (S n)] 9)) := below_alloc (Below.refl _ _) _
  have X := found (h.step hW2) (some ⟨W.heap.size, 0, none⟩) 1 n [] (names1 (W := W) n hn #[.string (S n)] 9 (0, 0) rfl) (by simp) (m := 1) rfl
  obtain ⟨bn, bs, vl, fs, vb, c0⟩ := h
  obtain ⟨p, hp⟩ : ∃ p, d.found [n] n = p := ⟨_, rfl⟩
  rw [hp] at X
  obtain ⟨v, r⟩ := p
  have HF := Aside0.mk hp
  have HC0 := Aside0.mk c0
  have HW2 := Aside0.mk hW2
  clear hp hW2 c0
  by_cases h0 : r = 0
  · subst h0
    obtain ⟨hr, x, hx, hv⟩ := found_ready (d := d) (ns := [n]) (n := n) (by rw [HF.out])
    rw [HF.out] at hv
    obtain rfl : v = .pointer (some ⟨x, 0, none⟩) := (Prod.mk.inj hv).1
    have HX := Aside0.mk hx
    have HR := Aside0.mk hr
    have e0 : d.sync n = if d.power.1 = 0 then (0, { d.power.2 with firm := setAt d.firm x (d.bytes x).length }) else d.power := by rw [Disk.sync, hr, if_neg (by omega), hx]
    have hPE := power_eq d
    have hPH := power_has (d := d) (x := x)
    have X4 := fun X (hX : Below W.heap.size W X) => power (HC0.out.step' hX)
    obtain ⟨pr, hpr⟩ : ∃ pr, d.power.1 = pr := ⟨_, rfl⟩
    obtain ⟨p2, hp2⟩ : ∃ p2, d.power.2 = p2 := ⟨_, rfl⟩
    have epw : d.power = (pr, p2) := by rw [← hpr, ← hp2]
    rw [hpr, hp2] at X4 e0
    rw [hp2] at hPE hPH
    have HPE := Aside0.mk hPE
    have HPH := Aside0.mk hPH
    have HX4 := Aside0.mk X4
    have HE0 := Aside0.mk e0
    have HEP := Aside0.mk epw
    clear hr hx hv e0 hPE hPH X4 hpr hp2 epw
    by_cases hp0 : pr = 0
    · subst hp0
      go_enter Try.func17, Try.ntmps17
      go_wp2_with (first
        | (go_at_call 36; refine X.mono ?_; rintro e W1 ⟨rfl, hB⟩; clear X; have HB := Aside0.mk (HW2.out.trans (hB.mono HW2.out.size)); clear hB)
        | (go_at_call 37; refine (HX4.out W1 HB.out).mono ?_; rintro e W2 ⟨rfl, hC, hb⟩; have HC := Aside0.mk hC; have HBT := Aside0.mk hb; obtain ⟨hc0, hc1, hf0, A1, k1, hv1⟩ := hC.fileCells (HPH.out.2 (has_get HX.out)); have hf1 := hf0 1; have HV1 := Aside0.mk hv1; rw [hv1] at hc0; clear hC hb hf0 hv1))
      go_ret
      have hx := HPH.out.2 (has_get HX.out)
      obtain ⟨k1', k2'⟩ := HC.out.setFile (N' := N + 1) (W4 := W2.setCell ⟨x, 1, none⟩ (.int .i64 ((p2.bytes x).length : Int))) hx (v1 := vb x) (b' := p2.bytes x) (m' := (p2.bytes x).length)
        (fun k _ k1 _ => Below.heap_setCell W2 ⟨x, 1, none⟩ _ k k1) (by simp [World.setCell]) (HC.out.below.setCell (HC.out.mine x (HC.out.inX x hx).1).1 _) (setFirm_eq (HC.out.file x hx).1)
        (own_move (HC.out.file x hx).2.1 (fun k hk => Below.heap_setCell W2 _ _ k (fun e => (HC.out.keepX hx).2.2.2.2.2.1 (by rw [hk, e])))) (Nat.le_refl _) (.inl rfl) (Nat.le_succ N) (Nat.le_succ_of_le (HC.out.small.2 x hx))
      have e : d.sync n = (0, { p2 with firm := setAt d.firm x (d.bytes x).length }) := by simpa using HE0.out
      rw [e, ← HPE.out.1, ← HPE.out.2.1]
      rw [setAt_id] at k1'
      exact ⟨rfl, _, ⟨_, _, _, _, _, k1'⟩, ((Turn.of_below HB.out).trans (HBT.out.turn HC.out.inF)).trans k2'⟩
    · have hp0' : (pr == 0) = false := by simpa using hp0
      go_enter Try.func17, Try.ntmps17
      go_wp2_with (first
        | (go_at_call 36; refine X.mono ?_; rintro e W1 ⟨rfl, hB⟩; clear X; have HB := Aside0.mk (HW2.out.trans (hB.mono HW2.out.size)); clear hB)
        | (go_at_call 37; refine (HX4.out W1 HB.out).mono ?_; rintro e W2 ⟨rfl, hC, hb⟩; have HC := Aside0.mk hC; have HBT := Aside0.mk hb; clear hC hb))
      go_ret
      have e : d.sync n = (pr, p2) := by rw [HE0.out, if_neg hp0, HEP.out]
      rw [e]
      exact ⟨rfl, T, ⟨_, _, _, _, _, HC.out.le (Nat.le_succ N)⟩, (Turn.of_below HB.out).trans (HBT.out.turn HC.out.inF)⟩
  · have h0' : (r == 0) = false := by simpa using h0
    have h0'' : (r != 0) = true := by simpa using h0
    go_enter Try.func17, Try.ntmps17
    go_wp2_with (go_at_call 36; refine X.mono ?_; rintro e W1 ⟨rfl, hB⟩; clear X)
    go_ret
    have e : d.sync n = (r, d) := by
      have h1 := HF.out
      unfold Disk.found at h1
      unfold Disk.sync
      by_cases h2 : d.ready [n] = 0
      · rw [if_neg (by omega)] at h1 ⊢
        cases hg : get d.now n with
        | none => rw [hg] at h1; cases h1; rfl
        | some x => rw [hg] at h1; cases h1; exact absurd rfl h0
      · rw [if_pos h2] at h1 ⊢
        cases h1
        rfl
    have hB' := HW2.out.trans (hB.mono HW2.out.size)
    rw [e]
    exact ⟨rfl, T, ⟨_, _, _, _, _, (HC0.out.step' hB').le (Nat.le_succ N)⟩, Turn.of_below hB'⟩
end Go.Proofs.Ytibmgcihpbofdaa.Fs
namespace Go.Proofs.Ytibmgcihpbofdaa.Fs
open Go.RowKit Go.Proofs.Ytibmgcihpbofdaa Go.Proofs.Ytibmgcihpbofdaa.Plain Go.Proofs.YtibmgcihpbofdaaW.PrintWords Go.Maps
set_option linter.unusedVariables false
set_option linter.unusedSimpArgs false
/-- what comes in to be appended can still be read -/
theorem appendReads {w0 W W2 W3 : World} {f : Nat} {d p : Disk} {N : Nat} {T : Nat → Prop} {bn bs : Nat} {vl : Value} {fs : List Value} {vb : Nat → Value} {A : Option Addr} {b : List UInt8} (h : ReadsInt W .u8 A (B b).length (B b)) (hb : Below W.heap.size W W2) (hbt : But f W2 W3) (_ : Below w0.heap.size w0 W) (hc : Core w0 W f d N T bn bs vl fs vb) (_ : Core w0 W3 f p N T bn bs vl fs vb) : ReadsInt W3 .u8 A b.length (B b) := by
  have h2 := h.below hb
  rw [B_length] at h2
  refine ⟨h2.1, h2.2.1, fun hp => ?_⟩
  obtain ⟨ad, e, hcell⟩ := h2.2.2 hp
  refine ⟨ad, e, fun j hj => ?_⟩
  have hblk : (ad.add j).block ≠ f := by
    intro ef
    have h3 := hcell j hj
    have h0 := (hc.step' hb).head
    obtain ⟨A', c', hv⟩ := own_slice hc.row
    rw [hv] at h0
    simp only [World.cell?, ef, h0] at h3
    generalize (ad.add j).off = o at h3
    match o, h3 with
    | 0, h3 => simp at h3
    | 1, h3 => simp at h3
    | 2, h3 => simp at h3
    | 3, h3 => simp at h3
    | 4, h3 => simp at h3
    | 5, h3 => simp at h3
    | o + 6, h3 => simp at h3
  exact (World.cell?_of_block (hbt.1 _ hblk)).trans (hcell j hj)
theorem appendCell {w0 W3 W4 : World} {f : Nat} {p : Disk} {N : Nat} {T : Nat → Prop} {bn bs : Nat} {vl : Value} {fs : List Value} {vb : Nat → Value} (h : Core w0 W3 f p N T bn bs vl fs vb) {x : Nat} (hx : p.has x) {v : Value} (hv : vb x = v) (hg : W3.grownBy W4 v.ownBlock) : W4.cell? ⟨x, 0, none⟩ = some v ∧ W4.frozen? ⟨x, 0, none⟩ = false := by
  subst hv
  have e := (hg.block x (h.mine x (h.inX x hx).1).2 (h.keepX hx).2.2.2.2.2.1).trans (h.file x hx).1
  exact ⟨by simp [World.cell?, e], by simp [World.frozen?, e]⟩
set_option maxHeartbeats 2000000 in
set_option maxRecDepth 100000 in
theorem append {w0 W : World} {f : Nat} {d : Disk} {N : Nat} {T : Nat → Prop} (h : FsAt w0 f d N T W) (n : Nm) (hn : n.length ≤ 140737488351232) (b : List UInt8) (hN : N + b.length ≤ 1000000) (A : Option Addr) (m c : Nat) (hm : m = b.length) (hb : ReadsInt W .u8 A (B b).length (B b)) :
    Calls Try.prog 14 #[.pointer (some ⟨f, 0, none⟩), .string (S n), .slice A m c] W fun e W' => e = .returned (.int .i64 (d.append n b).1) ∧ ∃ T', FsAt w0 f (d.append n b).2 (N + b.length + 1) T' W' ∧ Turn T W T' W' := by
  subst hm
  have hW2 : Below W.heap.size W (W.alloc (.cells #[.string (S n)] 9)) := below_alloc (Below.refl _ _) _
  have X := found (h.step hW2) (some ⟨W.heap.size, 0, none⟩) 1 n [] (names1 (W := W) n hn #[.string (S n)] 9 (0, 0) rfl) (by simp) (m := 1) rfl
  have XU := fun X (hX : Below W.heap.size W X) => usedIs (h.step hX) (by omega)
  obtain ⟨bn, bs, vl, fs, vb, c0⟩ := h
  obtain ⟨p, hp⟩ : ∃ p, d.found [n] n = p := ⟨_, rfl⟩
  rw [hp] at X
  obtain ⟨v, r⟩ := p
  have HF := Aside0.mk hp
  have HC0 := Aside0.mk c0
  have HW2 := Aside0.mk hW2
  have HRB := Aside0.mk hb
  have HXU := Aside0.mk XU
  clear hp hW2 c0 hb XU
  by_cases h0 : r = 0
  · subst h0
    obtain ⟨hr, x, hx, hv⟩ := found_ready (d := d) (ns := [n]) (n := n) (by rw [HF.out])
    rw [HF.out] at hv
    obtain rfl : v = .pointer (some ⟨x, 0, none⟩) := (Prod.mk.inj hv).1
    have HX := Aside0.mk hx
    have HR := Aside0.mk hr
    have e0 : d.append n b = if (b.length : Int) > d.room - (used d.bytes d.now : Int) then (3, d) else if d.power.1 = 0 then (0, { d.power.2 with bytes := setAt d.bytes x (d.bytes x ++ b) }) else d.power := by rw [Disk.append, hr, if_neg (by omega), hx]
    obtain ⟨U, hU⟩ : ∃ U, used d.bytes d.now = U := ⟨_, rfl⟩
    obtain ⟨rm, hrm⟩ : ∃ rm, d.room = rm := ⟨_, rfl⟩
    have hrb := HC0.out.room
    have hub : U ≤ 2000000000000 := by
      have h1 := used_le (by_ := d.bytes) (d := d.now) (N := N) (fun p hp => HC0.out.small.2 _ (has_now hp))
      have h2 := length_apps_le d.loose d.sure
      have h3 := HC0.out.small.1
      have h4 : d.now.length ≤ 1000000 := by unfold Disk.now; omega
      have h5 : d.now.length * N ≤ 1000000 * 1000000 := Nat.mul_le_mul h4 (by omega)
      omega
    rw [hU, hrm] at e0
    rw [hrm] at hrb
    obtain ⟨hrb1, hrb2⟩ := hrb
    have HE0 := Aside0.mk e0
    have hc3 : ∀ X, Below W.heap.size W X → X.cell? ⟨f, 3, none⟩ = some (.int .i64 rm) := fun X hX => by have := (HC0.out.step' hX).cells.2.2.2.1; rw [hrm] at this; exact this
    have HC3 := Aside0.mk hc3
    have hPE := power_eq d
    have hPH := power_has (d := d) (x := x)
    have X4 := fun X (hX : Below W.heap.size W X) => power (HC0.out.step' hX)
    obtain ⟨pr, hpr⟩ : ∃ pr, d.power.1 = pr := ⟨_, rfl⟩
    obtain ⟨p2, hp2⟩ : ∃ p2, d.power.2 = p2 := ⟨_, rfl⟩
    have epw : d.power = (pr, p2) := by rw [← hpr, ← hp2]
    rw [hpr, hp2] at X4
    rw [hpr, hp2] at HE0
    rw [hp2] at hPE hPH
    have HPE := Aside0.mk hPE
    have HPH := Aside0.mk hPH
    have HX4 := Aside0.mk X4
    have HEP := Aside0.mk epw
    rw [hU] at HXU
    clear hr hx hv e0 hU hrm hc3 hPE hPH X4 hpr hp2 epw
    go_enter Try.func14, Try.ntmps14
    go_wp2_with (go_at_call 36; refine X.mono ?_; rintro e W1 ⟨rfl, hB⟩; clear X; have HB := Aside0.mk (HW2.out.trans (hB.mono HW2.out.size)); clear hB)
    have hcW := HC3.out W1 HB.out
    have HXW := Aside0.mk (fun X (hX : Below W1.heap.size W1 X) => HXU.out X (HB.out.trans (hX.mono HB.out.size)))
    have HCW := Aside0.mk (fun X (hX : Below W1.heap.size W1 X) => HC3.out X (HB.out.trans (hX.mono HB.out.size)))
    have hwr : IntKind.i64.wrap (rm - (U : Int)) = rm - (U : Int) := IntWalk.i64_in _ (by omega)
    by_cases hfull : (b.length : Int) > rm - (U : Int)
    · have hdec : decide (rm - (U : Int) < (b.length : Int)) = true := decide_eq_true hfull
      go_region_with (first | (go_at_call 25; go_must (refine (HXW.out _ (by repeat (first | exact Below.refl _ _ | apply below_drew1))).mono ?_; rintro e W2 ⟨rfl, hB2⟩; have hcW2 := HCW.out W2 (Below.trans (by repeat (first | exact Below.refl _ _ | apply below_drew1)) hB2); have HB2 := Aside0.mk (HB.out.trans ((Below.trans (by repeat (first | exact Below.refl _ W1 | apply below_drew1)) hB2 : Below W1.heap.size W1 W2).mono HB.out.size)); clear hB2)))
      all_goals
        go_wp2
        go_ret
        have e : d.append n b = (3, d) := by rw [HE0.out, if_pos hfull]
        rw [e]
        exact ⟨rfl, T, ⟨_, _, _, _, _, (HC0.out.step' HB2.out).le (by omega)⟩, Turn.of_below HB2.out⟩
    · have hdec : decide (rm - (U : Int) < (b.length : Int)) = false := decide_eq_false hfull
      go_region_with (first | (go_at_call 25; go_must (refine (HXW.out _ (by repeat (first | exact Below.refl _ _ | apply below_drew1))).mono ?_; rintro e W2 ⟨rfl, hB2⟩; have hcW2 := HCW.out W2 (Below.trans (by repeat (first | exact Below.refl _ _ | apply below_drew1)) hB2); have HB2 := Aside0.mk (HB.out.trans ((Below.trans (by repeat (first | exact Below.refl _ W1 | apply below_drew1)) hB2 : Below W1.heap.size W1 W2).mono HB.out.size)); clear hB2)))
      all_goals
        clear hwr hdec hcW hcW2
        by_cases hp0 : pr = 0
        · subst hp0
          go_wp2_with (first
            | (go_at_call 37; refine (HX4.out W2 HB2.out).mono ?_; rintro e W3 ⟨rfl, hC, hb⟩; have HC := Aside0.mk hC; have HBT := Aside0.mk hb; obtain ⟨hc0, hc1, hf0, A1, k1, hv1⟩ := hC.fileCells (HPH.out.2 (has_get HX.out)); have HV1 := Aside0.mk hv1; rw [hv1] at hc0; clear hC hb hf0 hc1 hv1)
            | (at_builtin; refine print_append_row (w0 := w0) w0.heap.size rfl (.tmp 41) (.tmp 42) 22 5 .u8 1 rfl Try.underlying22 infoU8 (by decide) (.slice A1 (p2.bytes x).length k1) (B (p2.bytes x)) (B b) A b.length c rfl rfl (by have := (HC.out.file x (HPH.out.2 (has_get HX.out))).2.1; rw [HV1.out] at this; exact this) (appendReads HRB.out HB2.out HBT.out HC0.out.below HC0.out HC.out) HC.out.below HC.out.below.size (by have := HC.out.small.2 x (HPH.out.2 (has_get HX.out)); rw [B_length]; omega) ?_; intro v4 W4 hown hb4 hg4 hat4; obtain ⟨A4, k4, hv4⟩ := own_slice hown; subst hv4; have HO4 := Aside0.mk hown; have HB4 := Aside0.mk hb4; have HG4 := Aside0.mk hg4; have HT4 := Aside0.mk hat4; obtain ⟨kc, kf⟩ := appendCell HC.out (HPH.out.2 (has_get HX.out)) HV1.out hg4; clear hown hb4 hg4 hat4 hc0))
          go_ret
          have hx := HPH.out.2 (has_get HX.out)
          have e : d.append n b = (0, { p2 with bytes := setAt d.bytes x (d.bytes x ++ b) }) := by rw [HE0.out, if_neg (by omega)]; simp
          have hown := HO4.out
          rw [B_append, B_length] at hown
          have hl4 : (p2.bytes x ++ b).length = (p2.bytes x).length + b.length := by simp
          rw [hl4] at hown
          have hkx := HC.out.keepX hx
          have hvx : (vb x).ownBlock = (Value.slice A1 (p2.bytes x).length k1).ownBlock := by rw [HV1.out]
          have hg4 := HG4.out
          rw [← hvx] at hg4
          have hxl := (HC.out.mine x (HC.out.inX x hx).1).2
          have hne4 : ∀ k, (Value.slice A4 ((p2.bytes x).length + b.length) k4).ownBlock = some k → k ≠ x := by
            intro k hk e
            subst e
            have hh := HT4.out
            rw [B_append, B_length, hl4, hk] at hh
            rcases hh with h | ⟨g, h, hg⟩
            · exact hkx.2.2.2.2.2.1 (by rw [hvx]; exact h)
            · cases h; omega
          obtain ⟨q1, q2⟩ := HC.out.setFile (N' := N + b.length + 1) (W4 := W4.setCell ⟨x, 0, none⟩ (.slice A4 ((p2.bytes x).length + b.length) k4)) hx (v1 := .slice A4 ((p2.bytes x).length + b.length) k4) (b' := p2.bytes x ++ b) (m' := p2.firm x)
            (fun k hk k1 k2 => by rw [Below.heap_setCell W4 ⟨x, 0, none⟩ _ k k1]; exact hg4.block k hk k2) (by simpa [World.setCell] using hg4.size) (HB4.out.setCell (HC.out.mine x (HC.out.inX x hx).1).1 _)
            (setBytes_eq ((hg4.block x hxl hkx.2.2.2.2.2.1).trans (HC.out.file x hx).1))
            (by rw [B_length, hl4]; exact own_move hown (fun k hk => Below.heap_setCell W4 _ _ k (hne4 k hk)))
            (by have := (HC.out.file x hx).2.2; simp; omega)
            (by
              have hh := HT4.out
              rw [B_append, B_length, hl4, ← hvx] at hh
              rcases hh with h | ⟨g, h, hg⟩
              · exact .inl h
              · refine .inr (fun k hk => ?_)
                rw [h] at hk
                cases hk
                exact hg)
            (by omega) (by have := HC.out.small.2 x hx; simp; omega)
          rw [e, ← HPE.out.1]
          rw [setAt_id] at q1
          exact ⟨rfl, _, ⟨_, _, _, _, _, q1⟩, ((Turn.of_below HB2.out).trans (HBT.out.turn HC.out.inF)).trans q2⟩
        · have hp0' : (pr == 0) = false := by simpa using hp0
          go_wp2_with (go_at_call 37; refine (HX4.out W2 HB2.out).mono ?_; rintro e W3 ⟨rfl, hC, hb⟩; have HC := Aside0.mk hC; have HBT := Aside0.mk hb; clear hC hb)
          go_ret
          have e : d.append n b = (pr, p2) := by rw [HE0.out, if_neg (by omega), if_neg hp0, HEP.out]
          rw [e]
          exact ⟨rfl, T, ⟨_, _, _, _, _, HC.out.le (by omega)⟩, (Turn.of_below HB2.out).trans (HBT.out.turn HC.out.inF)⟩
  · have h0' : (r == 0) = false := by simpa using h0
    have h0'' : (r != 0) = true := by simpa using h0
    go_enter Try.func14, Try.ntmps14
    go_wp2_with (go_at_call 36; refine X.mono ?_; rintro e W1 ⟨rfl, hB⟩; clear X)
    go_ret
    have e : d.append n b = (r, d) := by
      have h1 := HF.out
      unfold Disk.found at h1
      unfold Disk.append
      by_cases h2 : d.ready [n] = 0
      · rw [if_neg (by omega)] at h1 ⊢
        cases hg : get d.now n with
        | none => rw [hg] at h1; cases h1; rfl
        | some x => rw [hg] at h1; cases h1; exact absurd rfl h0
      · rw [if_pos h2] at h1 ⊢
        cases h1
        rfl
    have hB' := HW2.out.trans (hB.mono HW2.out.size)
    rw [e]
    exact ⟨rfl, T, ⟨_, _, _, _, _, (HC0.out.step' hB').le (by omega)⟩, Turn.of_below hB'⟩
end Go.Proofs.Ytibmgcihpbofdaa.Fs
namespace Go.Proofs.Ytibmgcihpbofdaa.Fs
open Go.RowKit Go.Proofs.Ytibmgcihpbofdaa Go.Proofs.Ytibmgcihpbofdaa.Plain Go.Proofs.YtibmgcihpbofdaaW.PrintWords Go.Maps
set_option linter.unusedVariables false
set_option linter.unusedSimpArgs false
def Disk.setRoom (d : Disk) (n : Int) : Disk := { d with room := min (max n 0) 16777216 }
def Disk.setFuse (d : Disk) (n : Int) : Disk := { d with fuse := max n 0 }
theorem roomNil (n : Int) (W : World) : Calls Try.prog 31 #[.pointer none, .int .i64 n] W fun e W' => e = .returned (.tuple #[]) ∧ W' = W := by
  go_enter Try.func31, Try.ntmps31
  go_wp2
  go_end0
  exact ⟨rfl, rfl⟩
theorem fuseNil (n : Int) (W : World) : Calls Try.prog 21 #[.pointer none, .int .i64 n] W fun e W' => e = .returned (.tuple #[]) ∧ W' = W := by
  go_enter Try.func21, Try.ntmps21
  go_wp2
  go_end0
  exact ⟨rfl, rfl⟩
theorem downNil (W : World) : Calls Try.prog 23 #[.pointer none] W fun e W' => e = .returned (.bool false) ∧ W' = W := by
  go_enter Try.func23, Try.ntmps23
  go_wp2
  go_ret
  exact ⟨rfl, rfl⟩
theorem looseNil (W : World) : Calls Try.prog 32 #[.pointer none] W fun e W' => e = .returned (.int .i64 0) ∧ W' = W := by
  go_enter Try.func32, Try.ntmps32
  go_wp2
  go_ret
  exact ⟨rfl, rfl⟩
theorem room {w0 W : World} {f : Nat} {d : Disk} {N : Nat} {T : Nat → Prop} (h : FsAt w0 f d N T W) (n : Int) :
    Calls Try.prog 31 #[.pointer (some ⟨f, 0, none⟩), .int .i64 n] W fun e W' => e = .returned (.tuple #[]) ∧ FsAt w0 f (d.setRoom n) N T W' ∧ Turn T W T W' := by
  obtain ⟨bn, bs, vl, fs, vb, c0⟩ := h
  obtain ⟨_, _, _, hc, _, _⟩ := c0.cells
  have hf := c0.frozen 3
  have HC := Aside0.mk c0
  clear c0
  go_enter Try.func31, Try.ntmps31
  have HK := Aside0.mk (show ∀ r, r = min (max n 0) 16777216 → Core w0 (W.setCell ⟨f, 3, none⟩ (.int .i64 r)) f (d.setRoom n) N T bn bs vl fs vb by rintro r rfl; exact HC.out.setScalar.1 (min (max n 0) 16777216) (by omega))
  go_wp2
  all_goals
    go_end0
    exact ⟨rfl, ⟨_, _, _, _, _, HK.out _ (by omega)⟩, (But.set _ _ _).turn HC.out.inF⟩
theorem fuse {w0 W : World} {f : Nat} {d : Disk} {N : Nat} {T : Nat → Prop} (h : FsAt w0 f d N T W) (n : Int) (hn : (Lit.int .i64 n).wf = true) :
    Calls Try.prog 21 #[.pointer (some ⟨f, 0, none⟩), .int .i64 n] W fun e W' => e = .returned (.tuple #[]) ∧ FsAt w0 f (d.setFuse n) N T W' ∧ Turn T W T W' := by
  obtain ⟨bn, bs, vl, fs, vb, c0⟩ := h
  obtain ⟨_, _, _, _, hc, _⟩ := c0.cells
  have hf := c0.frozen 4
  have HC := Aside0.mk c0
  have hb : n ≤ 9223372036854775807 := by
    simp only [Lit.wf, Bool.and_eq_true, decide_eq_true_eq] at hn
    exact hn.2
  have HB := Aside0.mk hb
  clear c0 hn hb
  go_enter Try.func21, Try.ntmps21
  have HK := Aside0.mk (show ∀ r, r = max n 0 → Core w0 (W.setCell ⟨f, 4, none⟩ (.int .i64 r)) f (d.setFuse n) N T bn bs vl fs vb by rintro r rfl; exact HC.out.setScalar.2.1 (max n 0) (by have := HB.out; omega))
  go_wp2
  all_goals
    go_end0
    exact ⟨rfl, ⟨_, _, _, _, _, HK.out _ (by omega)⟩, (But.set _ _ _).turn HC.out.inF⟩
theorem down {w0 W : World} {f : Nat} {d : Disk} {N : Nat} {T : Nat → Prop} (h : FsAt w0 f d N T W) :
    Calls Try.prog 23 #[.pointer (some ⟨f, 0, none⟩)] W fun e W' => e = .returned (.bool d.down) ∧ W' = W := by
  obtain ⟨bn, bs, vl, fs, vb, c0⟩ := h
  obtain ⟨_, _, _, _, _, hc⟩ := c0.cells
  clear c0
  go_enter Try.func23, Try.ntmps23
  go_wp2
  go_ret
  exact ⟨rfl, rfl⟩
theorem loose {w0 W : World} {f : Nat} {d : Disk} {N : Nat} {T : Nat → Prop} (h : FsAt w0 f d N T W) :
    Calls Try.prog 32 #[.pointer (some ⟨f, 0, none⟩)] W fun e W' => e = .returned (.int .i64 (d.loose.length : Int)) ∧ W' = W := by
  obtain ⟨bn, bs, vl, fs, vb, c0⟩ := h
  obtain ⟨_, _, hc, _, _, _⟩ := c0.cells
  obtain ⟨A, c, hv⟩ := own_slice c0.row
  subst hv
  clear c0
  go_enter Try.func32, Try.ntmps32
  go_wp2
  go_ret
  exact ⟨rfl, rfl⟩
/-- 'slices.Clone' of bytes that can be read -/
theorem cloneNil (n c : Nat) (w : World) : Calls Try.prog 38 #[.slice none n c] w fun e w' => e = .returned (.slice none 0 0) ∧ w' = w := by
  have hnil : ∀ W, (binOp .eql 22 (.slice none n c) (.slice none 0 0)).run Try.prog W = .ok (.bool true) W := fun W => Lib.run_eql_slice_nil W _ _ none _ _ _ _ Try.underlying22
  go_enter Try.func38, Try.ntmps38
  go_wp2
  go_ret
  exact ⟨rfl, rfl⟩
set_option maxHeartbeats 1000000 in
set_option maxRecDepth 100000 in
theorem clone (a : Addr) (c : Nat) (x : List UInt8) (w : World) (hx : ReadsInt w .u8 (some a) (B x).length (B x)) (hz : x.length ≤ 10000000) :
    Calls Try.prog 38 #[.slice (some a) (B x).length c] w fun e w' => ∃ v', e = .returned v' ∧ w'.ownsRow w.heap.size 5 1 v' (B x).length (nums .u8 (B x)) ∧ Below w.heap.size w w' := by
  have HX := Aside0.mk hx
  clear hx
  have hroom : (([] : List Int).length + (B x).length) * 1 ≤ 140737488355328 := by rw [B_length]; simp; omega
  have HR := Aside0.mk hroom
  clear hroom
  have HE := Aside0.mk (show (w.alloc (.cells #[] 5)).ownsRow w.heap.size 5 1 (.slice (some ⟨w.heap.size, 0, none⟩) 0 0) ([] : List Int).length (nums .u8 []) from World.ownsRow_lit (e := 5) w #[] 0 (Nat.le_refl _) (Nat.zero_le _) rfl)
  have HX2 := Aside0.mk (HX.out.below (below_alloc (Below.refl _ _) (.cells #[] 5)))
  have HB := Aside0.mk (below_alloc (Below.refl w.heap.size w) (.cells #[] 5))
  have HSz := Aside0.mk (show w.heap.size ≤ (w.alloc (.cells #[] 5)).heap.size by simp)
  have hnil : ∀ W, (binOp .eql 22 (.slice (some a) x.length c) (.slice none 0 0)).run Try.prog W = .ok (.bool false) W := fun W => Lib.run_eql_slice_nil W _ _ (some a) _ _ _ _ Try.underlying22
  go_enter Try.func38, Try.ntmps38
  go_wp2_with (at_builtin; refine print_append_row (w0 := w) w.heap.size rfl (.tmp 5) (.tmp 6) 22 5 .u8 1 rfl Try.underlying22 infoU8 (by decide) (.slice (some ⟨w.heap.size, 0, none⟩) 0 0) [] (B x) (some a) (B x).length c rfl (by rw [B_length]; rfl) HE.out HX2.out HB.out HSz.out HR.out ?_; intro v1 w1 hown hb1 hg1 hat1)
  go_ret
  exact ⟨_, rfl, hown, hb1⟩
/-- either way: what is handed back is of the call's own -/
theorem cloneAny (A : Option Addr) (n c : Nat) (x : List UInt8) (w : World) (hx : ReadsInt w .u8 A (B x).length (B x)) (hz : x.length ≤ 10000000) (hn : n = x.length) :
    Calls Try.prog 38 #[.slice A n c] w fun e w' => ∃ v', e = .returned v' ∧ w'.ownsRow w.heap.size 5 1 v' (B x).length (nums .u8 (B x)) ∧ Below w.heap.size w w' := by
  subst hn
  cases A with
  | none =>
    have h0 : x = [] := by
      by_cases h : 0 < (B x).length
      · obtain ⟨ad, e, _⟩ := hx.2.2 h
        cases e
      · rw [B_length] at h
        exact List.eq_nil_of_length_eq_zero (by omega)
    subst h0
    refine (cloneNil 0 c w).mono ?_
    rintro e w' ⟨rfl, rfl⟩
    exact ⟨_, rfl, own_nil _ _ _ _, Below.refl _ _⟩
  | some a =>
    have := clone a c x w hx hz
    rw [B_length] at this ⊢
    exact this
end Go.Proofs.Ytibmgcihpbofdaa.Fs
namespace Go.Proofs.Ytibmgcihpbofdaa.Fs
open Go.RowKit Go.Proofs.Ytibmgcihpbofdaa Go.Proofs.Ytibmgcihpbofdaa.Plain Go.Proofs.YtibmgcihpbofdaaW.PrintWords Go.Maps
set_option linter.unusedVariables false
set_option linter.unusedSimpArgs false
set_option maxHeartbeats 1000000 in
set_option maxRecDepth 100000 in
theorem readNil (u : Nm) (W : World) : Calls Try.prog 16 #[.pointer none, .string (S u)] W fun e W' => e = .returned (.tuple #[.slice none 0 0, .int .i64 1]) ∧ Below W.heap.size W W' := by
  have X := foundNil (some ⟨W.heap.size, 0, none⟩) 1 1 (W.alloc (.cells #[.string (S u)] 9))
  go_enter Try.func16, Try.ntmps16
  go_wp2_with (go_at_call 36; refine X.mono ?_; rintro e W1 ⟨rfl, rfl⟩)
  go_ret2
  exact ⟨rfl, below_alloc (Below.refl _ _) _⟩
set_option maxHeartbeats 1000000 in
set_option maxRecDepth 100000 in
theorem read {w0 W : World} {f : Nat} {d : Disk} {N : Nat} {T : Nat → Prop} (h : FsAt w0 f d N T W) (hN : N ≤ 1000000) (n : Nm) (hn : n.length ≤ 140737488351232) :
    Calls Try.prog 16 #[.pointer (some ⟨f, 0, none⟩), .string (S n)] W fun e W' => ∃ v, e = .returned (.tuple #[v, .int .i64 (d.read n).2]) ∧ W'.ownsRow W.heap.size 5 1 v (B (d.read n).1).length (nums .u8 (B (d.read n).1)) ∧ Below W.heap.size W W' := by
  have hW2 : Below W.heap.size W (W.alloc (.cells #[.string (S n)] 9)) := below_alloc (Below.refl _ _) _
  have X := found (h.step hW2) (some ⟨W.heap.size, 0, none⟩) 1 n [] (names1 (W := W) n hn #[.string (S n)] 9 (0, 0) rfl) (by simp) (m := 1) rfl
  obtain ⟨bn, bs, vl, fs, vb, c0⟩ := h
  obtain ⟨p, hp⟩ : ∃ p, d.found [n] n = p := ⟨_, rfl⟩
  rw [hp] at X
  obtain ⟨v, r⟩ := p
  have HF := Aside0.mk hp
  have HC0 := Aside0.mk c0
  have HW2 := Aside0.mk hW2
  clear hp hW2 c0
  by_cases h0 : r = 0
  · subst h0
    obtain ⟨hr, x, hx, hv⟩ := found_ready (d := d) (ns := [n]) (n := n) (by rw [HF.out])
    rw [HF.out] at hv
    obtain rfl : v = .pointer (some ⟨x, 0, none⟩) := (Prod.mk.inj hv).1
    have e : d.read n = (d.bytes x, 0) := by rw [Disk.read, hr, if_neg (by omega), hx]
    obtain ⟨_, _, _, A1, k1, hv1⟩ := HC0.out.fileCells (has_get hx)
    have hc0 : ∀ Y, Below W.heap.size W Y → Y.cell? ⟨x, 0, none⟩ = some (.slice A1 (d.bytes x).length k1) := fun Y hY => by
      have := ((HC0.out.step' hY).fileCells (has_get hx)).1
      rw [hv1] at this
      exact this
    have hrd : ∀ Y, Below W.heap.size W Y → ReadsInt Y .u8 A1 (B (d.bytes x)).length (B (d.bytes x)) := fun Y hY => by
      have h1 := ((HC0.out.step' hY).file x (has_get hx)).2.1
      rw [hv1] at h1
      exact own_reads' (by rw [B_length] at h1 ⊢; exact h1)
    have hsm : (d.bytes x).length ≤ 10000000 := by have := HC0.out.small.2 x (has_get hx); omega
    have HCE := Aside0.mk hc0
    have HRD := Aside0.mk hrd
    rw [e]
    clear hr hx hv e hc0 hrd hv1
    go_enter Try.func16, Try.ntmps16
    go_wp2_with (first
      | (go_at_call 36; refine X.mono ?_; rintro e W1 ⟨rfl, hB⟩; clear X; have HB := Aside0.mk (HW2.out.trans (hB.mono HW2.out.size)); have hcc := HCE.out W1 HB.out; clear hB)
      | (go_at_call 38; refine (cloneAny A1 _ k1 (d.bytes x) W1 (HRD.out W1 HB.out) hsm rfl).mono ?_; rintro e W2 ⟨v2, rfl, hown, hB2⟩; have HO := Aside0.mk hown; have HB2 := Aside0.mk (HB.out.trans (hB2.mono HB.out.size)); clear hown hB2))
    go_ret2
    exact ⟨_, rfl, own_weaken HO.out HB.out.size, HB2.out⟩
  · have h0' : (r == 0) = false := by simpa using h0
    have h0'' : (r != 0) = true := by simpa using h0
    have e : d.read n = ([], r) := by
      have h1 := HF.out
      unfold Disk.found at h1
      unfold Disk.read
      by_cases h2 : d.ready [n] = 0
      · rw [if_neg (by omega)] at h1 ⊢
        cases hg : get d.now n with
        | none => rw [hg] at h1; cases h1; rfl
        | some x => rw [hg] at h1; cases h1; exact absurd rfl h0
      · rw [if_pos h2] at h1 ⊢
        cases h1
        rfl
    rw [e]
    clear e
    go_enter Try.func16, Try.ntmps16
    go_wp2_with (go_at_call 36; refine X.mono ?_; rintro e W1 ⟨rfl, hB⟩; clear X)
    go_ret2
    exact ⟨_, rfl, own_nil _ _ _ _, HW2.out.trans (hB.mono HW2.out.size)⟩
end Go.Proofs.Ytibmgcihpbofdaa.Fs
namespace Go.Proofs.Ytibmgcihpbofdaa.Fs
open Go.RowKit Go.Proofs.Ytibmgcihpbofdaa Go.Proofs.Ytibmgcihpbofdaa.Plain Go.Proofs.YtibmgcihpbofdaaW.PrintWords Go.Maps
set_option linter.unusedVariables false
set_option linter.unusedSimpArgs false
theorem mapsClone {W : World} {b : Nat} {d : Dir} (h : OwnDir W b d) : Calls Try.prog 39 #[.map (some b)] W fun e W' => e = .returned (.map (some W.heap.size)) ∧ OwnDir W' W.heap.size d ∧ Below W.heap.size W W' := by
  have := AnyW.maps_Clone_owns Try.fsClone 9 ptrElem b d.length (D d) W h
  refine Calls.mono (show Calls Try.prog 39 _ _ _ from this) ?_
  rintro e W' ⟨h1, h2, _, h3⟩
  exact ⟨h1, h2, h3⟩
theorem has_mono {d d' : Disk} (hs : d'.sure = d.now) (hl : d'.loose = []) {x : Nat} (h : d'.has x) : d.has x := by
  rcases h with ⟨n, h⟩ | ⟨n, h⟩
  · rw [hs] at h
    exact has_now h
  · rw [hl] at h
    cases h
/-- a new map for what is sure, and no changes -/
theorem Core.resure {w0 W W4 : World} {f : Nat} {d : Disk} {N : Nat} {T : Nat → Prop} {bn bs bm : Nat} {vl : Value} {fs : List Value} {vb : Nat → Value} (h : Core w0 W f d N T bn bs vl fs vb)
    (hk : ∀ k, k < W.heap.size → k ≠ f → W4.heap[k]? = W.heap[k]?) (hs : W.heap.size ≤ W4.heap.size) (hb : Below w0.heap.size w0 W4) (hbm : W.heap.size ≤ bm ∧ bm < W4.heap.size)
    (hhead : W4.heap[f]? = some (.cells #[.map (some bn), .map (some bm), .slice none 0 0, .int .i64 d.room, .int .i64 d.fuse, .bool d.down] 64 (0, 0))) (hm : OwnDir W4 bm d.now) :
    Core w0 W4 f { d with sure := d.now, loose := [] } N (Wide T W W4) bn bm (.slice none 0 0) [] vb ∧ Turn T W (Wide T W W4) W4 := by
  obtain ⟨n1, n2, n3, n4, n5⟩ := h.f_ne
  have hkT : ∀ k, T k → k ≠ f → W4.heap[k]? = W.heap[k]? := fun k hT => hk k (h.mine k hT).2
  have hh : ∀ x, Disk.has { d with sure := d.now, loose := [] } x → d.has x := fun x hx => has_mono rfl rfl hx
  refine ⟨{ head := hhead, now := ownsMap_move h.now (hkT bn h.inN n1), sure := hm, ne := by have := (h.mine bn h.inN).2; omega, row := own_nil _ _ _ _, clo := .nil, file := fun x hx => ?_, apart := fun x y hx hy => h.apart x y (hh x hx) (hh y hy), inF := .inl h.inF, inN := .inl h.inN, inS := .inr hbm, inL := fun g hg => by simp [Value.ownBlock] at hg, inX := fun x hx => ⟨.inl (h.inX x (hh x hx)).1, fun g hg => .inl ((h.inX x (hh x hx)).2 g hg)⟩, mine := ?_, ok := trivial, room := h.room, fuse := h.fuse, small := ⟨?_, fun x hx => h.small.2 x (hh x hx)⟩, below := hb }, ?_⟩
  · have hx' := hh x hx
    obtain ⟨q1, q2, q3⟩ := h.file x hx'
    exact ⟨(hkT x (h.inX x hx').1 (n5 x hx').1).trans q1, own_move q2 (fun k hk' => hkT k ((h.inX x hx').2 k hk') ((n5 x hx').2 k hk')), q3⟩
  · rintro k (hT | ⟨q1, q2⟩)
    · exact ⟨(h.mine k hT).1, Nat.lt_of_lt_of_le (h.mine k hT).2 hs⟩
    · exact ⟨Nat.le_trans h.below.size q1, q2⟩
  · have h1 := length_apps_le d.loose d.sure
    have h2 := h.small.1
    simp only [List.length_nil, Nat.add_zero]
    unfold Disk.now
    omega
  · exact ⟨fun k hk' => hk'.elim .inl (fun h => .inr h.1), fun k hT => .inl hT, fun k hk' hT => hk k hk' (fun e => hT (e ▸ h.inF)), hs⟩
set_option maxHeartbeats 1000000 in
set_option maxRecDepth 100000 in
theorem dirSync {w0 W : World} {f : Nat} {d : Disk} {N : Nat} {T : Nat → Prop} (h : FsAt w0 f d N T W) :
    Calls Try.prog 18 #[.pointer (some ⟨f, 0, none⟩)] W fun e W' => e = .returned (.int .i64 d.dirSync.1) ∧ ∃ T', FsAt w0 f d.dirSync.2 N T' W' ∧ Turn T W T' W' := by
  have X := ready h none 0 [] (fun j hj => by simp at hj) (by simp) (n := 0) rfl
  obtain ⟨bn, bs, vl, fs, vb, c0⟩ := h
  obtain ⟨r, hr⟩ : ∃ r, d.ready [] = r := ⟨_, rfl⟩
  rw [hr] at X
  have HR := Aside0.mk hr
  have HC0 := Aside0.mk c0
  clear hr c0
  by_cases h0 : r = 0
  · subst h0
    have e0 : d.dirSync = if d.power.1 = 0 then (0, { d.power.2 with sure := d.now, loose := [] }) else d.power := by rw [Disk.dirSync, HR.out, if_neg (by omega)]
    have hPE := power_eq d
    have X4 := fun X (hX : Below W.heap.size W X) => power (HC0.out.step' hX)
    obtain ⟨pr, hpr⟩ : ∃ pr, d.power.1 = pr := ⟨_, rfl⟩
    obtain ⟨p2, hp2⟩ : ∃ p2, d.power.2 = p2 := ⟨_, rfl⟩
    have epw : d.power = (pr, p2) := by rw [← hpr, ← hp2]
    rw [hpr, hp2] at X4 e0
    rw [hp2] at hPE
    have HPE := Aside0.mk hPE
    have HX4 := Aside0.mk X4
    have HE0 := Aside0.mk e0
    have HEP := Aside0.mk epw
    clear e0 hPE X4 hpr hp2 epw
    by_cases hp0 : pr = 0
    · subst hp0
      go_enter Try.func18, Try.ntmps18
      go_wp2_with (first
        | (go_at_call 33; refine X.mono ?_; rintro e W1 ⟨rfl, hB⟩; clear X; have HB := Aside0.mk hB; clear hB)
        | (go_at_call 37; refine (HX4.out W1 HB.out).mono ?_; rintro e W2 ⟨rfl, hC, hb⟩; have HC := Aside0.mk hC; have HBT := Aside0.mk hb; obtain ⟨hc0, _⟩ := hC.cells; clear hC hb)
        | (go_at_call 39; refine (mapsClone HC.out.now).mono ?_; rintro e W3 ⟨rfl, hd3, hb3⟩; clear hc0; have HD3 := Aside0.mk hd3; have HB3 := Aside0.mk hb3; have hc3 := (HC.out.step' hb3).cells.2.1; have hc4 := (HC.out.step' hb3).cells.2.2.1; have hf3 := (HC.out.step' hb3).frozen 1; have hf4 := (HC.out.step' hb3).frozen 2; obtain ⟨A1, k1, hv1⟩ := own_slice HC.out.row; rw [hv1] at hc4; clear hd3 hb3 hv1))
      go_ret
      have lf := (HC.out.mine f HC.out.inF)
      have hh3 : W3.heap[f]? = W2.heap[f]? := HB3.out.block f lf.2
      have hs3 : W2.heap.size < W3.heap.size := by
        obtain ⟨es, c, hm⟩ := map_obj HD3.out
        exact (Array.getElem?_eq_some_iff.1 hm).1
      have hk4 : ∀ k, k ≠ f → ((W3.setCell ⟨f, 1, none⟩ (.map (some W2.heap.size))).setCell ⟨f, 2, none⟩ (.slice none 0 0)).heap[k]? = W3.heap[k]? := fun k hk => by
        rw [Below.heap_setCell _ ⟨f, 2, none⟩ _ k hk, Below.heap_setCell _ ⟨f, 1, none⟩ _ k hk]
      obtain ⟨q1, q2⟩ := HC.out.resure (W4 := (W3.setCell ⟨f, 1, none⟩ (.map (some W2.heap.size))).setCell ⟨f, 2, none⟩ (.slice none 0 0)) (bm := W2.heap.size)
        (fun k hk hkf => (hk4 k hkf).trans (HB3.out.block k hk)) (by simp [World.setCell]; omega) ((((HC.out.below.trans (HB3.out.mono HC.out.below.size))).setCell lf.1 _).setCell lf.1 _) ⟨Nat.le_refl _, by simp [World.setCell]; omega⟩
        (by simp [World.setCell, Array.getElem?_modify, hh3, HC.out.head]) (ownsMap_move HD3.out (hk4 _ (by omega)))
      have e : d.dirSync = (0, { p2 with sure := p2.now, loose := [] }) := by rw [HPE.out.2.2.2.2]; simpa using HE0.out
      rw [e]
      exact ⟨rfl, _, ⟨_, _, _, _, _, q1⟩, ((Turn.of_below HB.out).trans (HBT.out.turn HC.out.inF)).trans q2⟩
    · have hp0' : (pr == 0) = false := by simpa using hp0
      go_enter Try.func18, Try.ntmps18
      go_wp2_with (first
        | (go_at_call 33; refine X.mono ?_; rintro e W1 ⟨rfl, hB⟩; clear X; have HB := Aside0.mk hB; clear hB)
        | (go_at_call 37; refine (HX4.out W1 HB.out).mono ?_; rintro e W2 ⟨rfl, hC, hb⟩; have HC := Aside0.mk hC; have HBT := Aside0.mk hb; clear hC hb))
      go_ret
      have e : d.dirSync = (pr, p2) := by rw [HE0.out, if_neg hp0, HEP.out]
      rw [e]
      exact ⟨rfl, T, ⟨_, _, _, _, _, HC.out⟩, (Turn.of_below HB.out).trans (HBT.out.turn HC.out.inF)⟩
  · have h0' : (r == 0) = false := by simpa using h0
    go_enter Try.func18, Try.ntmps18
    go_wp2_with (go_at_call 33; refine X.mono ?_; rintro e W1 ⟨rfl, hB⟩; clear X)
    go_ret
    have e : d.dirSync = (r, d) := by rw [Disk.dirSync, HR.out, if_pos h0]
    rw [e]
    exact ⟨rfl, T, ⟨_, _, _, _, _, HC0.out.step' hB⟩, Turn.of_below hB⟩
end Go.Proofs.Ytibmgcihpbofdaa.Fs
namespace Go.Proofs.Ytibmgcihpbofdaa.Fs
open Go.RowKit Go.Proofs.Ytibmgcihpbofdaa Go.Proofs.Ytibmgcihpbofdaa.Plain Go.Proofs.YtibmgcihpbofdaaW.PrintWords Go.Maps
set_option linter.unusedVariables false
set_option linter.unusedSimpArgs false
def Disk.fresh (n : Int) : Disk := { sure := [], loose := [], bytes := fun _ => [], firm := fun _ => 0, room := min (max n 0) 16777216, fuse := -1, down := false }
theorem Disk.has_none {d : Disk} (h1 : d.sure = []) (h2 : d.loose = []) (x : Nat) : ¬ d.has x := by
  rintro (⟨n, h⟩ | ⟨n, h⟩)
  · rw [h1] at h; cases h
  · rw [h2] at h; cases h
theorem newCore {w0 W : World} (hb : Below w0.heap.size w0 W) : Core w0 (((W.alloc (.map #[] 0)).alloc (.map #[] 0)).alloc (.cells #[.map (some W.heap.size), .map (some (W.heap.size + 1)), .slice none 0 0, .int .i64 0, .int .i64 (-1), .bool false] 64)) (W.heap.size + 1 + 1) { Disk.fresh 0 with room := 0 } 0 (fun k => W.heap.size ≤ k ∧ k < W.heap.size + 3) W.heap.size (W.heap.size + 1) (.slice none 0 0) [] (fun _ => .slice none 0 0) := by
  have e1 : (((W.alloc (.map #[] 0)).alloc (.map #[] 0)).alloc (.cells #[.map (some W.heap.size), .map (some (W.heap.size + 1)), .slice none 0 0, .int .i64 0, .int .i64 (-1), .bool false] 64)).heap[W.heap.size]? = (W.alloc (.map #[] 0)).heap[W.heap.size]? := by
    rw [Below.heap_alloc _ _ _ (by simp; omega), Below.heap_alloc _ _ _ (by simp)]
  have hs1 : (W.alloc (.map #[] 0)).heap.size = W.heap.size + 1 := by simp
  have e2 : (((W.alloc (.map #[] 0)).alloc (.map #[] 0)).alloc (.cells #[.map (some W.heap.size), .map (some (W.heap.size + 1)), .slice none 0 0, .int .i64 0, .int .i64 (-1), .bool false] 64)).heap[W.heap.size + 1]? = ((W.alloc (.map #[] 0)).alloc (.map #[] 0)).heap[W.heap.size + 1]? := by
    rw [Below.heap_alloc _ _ _ (by simp)]
  have e3 := heap_alloc_new ((W.alloc (.map #[] 0)).alloc (.map #[] 0)) (.cells #[.map (some W.heap.size), .map (some (W.heap.size + 1)), .slice none 0 0, .int .i64 0, .int .i64 (-1), .bool false] 64)
  have hs2 : ((W.alloc (.map #[] 0)).alloc (.map #[] 0)).heap.size = W.heap.size + 1 + 1 := by simp
  rw [hs2] at e3
  have hno : ∀ x, ¬ Disk.has { Disk.fresh 0 with room := 0 } x := Disk.has_none rfl rfl
  have m1 : OwnDir (W.alloc (.map #[] 0)) W.heap.size [] := World.ownsMap_made W Try.prog 9 ptrElem
  have m2 : OwnDir ((W.alloc (.map #[] 0)).alloc (.map #[] 0)) (W.heap.size + 1) [] := by
    have := World.ownsMap_made (W.alloc (.map #[] 0)) Try.prog 9 ptrElem
    rw [hs1] at this
    exact this
  exact {
    head := e3
    now := ownsMap_move m1 e1
    sure := ownsMap_move m2 e2
    ne := by omega
    row := own_nil _ _ _ _
    clo := .nil
    file := fun x hx => absurd hx (hno x)
    apart := fun x y hx => absurd hx (hno x)
    inF := by omega
    inN := by omega
    inS := by omega
    inL := fun g hg => by simp [Value.ownBlock] at hg
    inX := fun x hx => absurd hx (hno x)
    mine := fun k hk => ⟨Nat.le_trans hb.size hk.1, by simp; omega⟩
    ok := trivial
    room := by decide
    fuse := by decide
    small := ⟨by simp [Disk.fresh], fun x hx => absurd hx (hno x)⟩
    below := below_alloc (below_alloc (below_alloc hb _) _) _ }
set_option maxHeartbeats 1000000 in
set_option maxRecDepth 100000 in
theorem new {w0 W : World} (hb : Below w0.heap.size w0 W) (n : Int) :
    Calls Try.prog 12 #[.int .i64 n] W fun e W' => ∃ f T, e = .returned (.pointer (some ⟨f, 0, none⟩)) ∧ FsAt w0 f (Disk.fresh n) 0 T W' ∧ (∀ k, T k → W.heap.size ≤ k) ∧ Below W.heap.size W W' := by
  have hmm := @run_makeMap Try.prog
  have X := room ⟨_, _, _, _, _, newCore hb⟩ n
  have HB3 := Aside0.mk (show Below W.heap.size W (((W.alloc (.map #[] 0)).alloc (.map #[] 0)).alloc (.cells #[.map (some W.heap.size), .map (some (W.heap.size + 1)), .slice none 0 0, .int .i64 0, .int .i64 (-1), .bool false] 64)) from below_alloc (below_alloc (below_alloc (Below.refl _ _) _) _) _)
  go_enter Try.func12, Try.ntmps12
  go_wp2_with (go_at_call 31; refine X.mono ?_; rintro e W1 ⟨rfl, hF, hT⟩; have HF := Aside0.mk hF; have HT := Aside0.mk hT; clear hF hT X)
  go_ret
  refine ⟨_, _, rfl, HF.out, fun k hk => hk.1, ?_⟩
  have ht := HT.out
  have hb' := HF.out.below'
  refine ⟨hb'.os.trans hb.os.symm, hb'.tape.trans hb.tape.symm, hb'.output.trans hb.output.symm, Nat.le_trans HB3.out.size ht.2.2.2, fun k hk => ?_⟩
  · rw [ht.2.2.1 k (Nat.lt_of_lt_of_le hk HB3.out.size) (fun h => by omega)]
    exact HB3.out.block k hk
end Go.Proofs.Ytibmgcihpbofdaa.Fs
namespace Go.Proofs.Ytibmgcihpbofdaa.Fs
open Go.RowKit Go.Proofs.Ytibmgcihpbofdaa Go.Proofs.Ytibmgcihpbofdaa.Plain Go.Proofs.YtibmgcihpbofdaaW.PrintWords Go.Maps
set_option linter.unusedVariables false
set_option linter.unusedSimpArgs false
def InD (s : Dir) (x : Nat) : Prop := ∃ n, (n, x) ∈ s
structure Files (w0 W : World) (s : Dir) (bb : Nat → List UInt8) (ff : Nat → Nat) (N : Nat) (T : Nat → Prop) (vb : Nat → Value) : Prop where
  file : ∀ x, InD s x → W.heap[x]? = some (.cells #[vb x, .int .i64 (ff x : Int)] 69 (0, 0)) ∧ W.ownsRow w0.heap.size 5 1 (vb x) (B (bb x)).length (nums .u8 (B (bb x))) ∧ ff x ≤ (bb x).length
  apart : ∀ x y, InD s x → InD s y → ∀ g, (vb x).ownBlock = some g → (vb y).ownBlock = some g → x = y
  inX : ∀ x, InD s x → T x ∧ ∀ g, (vb x).ownBlock = some g → T g
  mine : ∀ k, T k → w0.heap.size ≤ k ∧ k < W.heap.size
  small : ∀ x, InD s x → (bb x).length ≤ N
  below : Below w0.heap.size w0 W
theorem Files.move {w0 W X : World} {s : Dir} {bb : Nat → List UInt8} {ff : Nat → Nat} {N : Nat} {T : Nat → Prop} {vb : Nat → Value} (h : Files w0 W s bb ff N T vb) (hk : ∀ k, T k → (∃ c t, W.heap[k]? = some (.cells c t (0, 0)) ∧ (t = 69 ∨ t = 5)) → X.heap[k]? = W.heap[k]?) (hs : W.heap.size ≤ X.heap.size) (hb : Below w0.heap.size w0 X) : Files w0 X s bb ff N T vb where
  file := fun x hx => ⟨(hk x (h.inX x hx).1 ⟨_, _, (h.file x hx).1, .inl rfl⟩).trans (h.file x hx).1, own_move (h.file x hx).2.1 (fun k hk' => by
    obtain ⟨c, hc⟩ := own_cells (h.file x hx).2.1 hk'
    exact hk k ((h.inX x hx).2 k hk') ⟨_, _, hc, .inr rfl⟩), (h.file x hx).2.2⟩
  apart := h.apart
  inX := h.inX
  mine := fun k hT => ⟨(h.mine k hT).1, Nat.lt_of_lt_of_le (h.mine k hT).2 hs⟩
  small := h.small
  below := hb
theorem Files.setFile {w0 W W4 : World} {s : Dir} {bb : Nat → List UInt8} {ff : Nat → Nat} {N : Nat} {T : Nat → Prop} {vb : Nat → Value} (h : Files w0 W s bb ff N T vb) {x : Nat} (hx : InD s x) {v1 : Value} {b' : List UInt8} {m' : Nat}
    (hk : ∀ k, k < W.heap.size → k ≠ x → W4.heap[k]? = W.heap[k]?) (hs : W.heap.size ≤ W4.heap.size) (hb : Below w0.heap.size w0 W4)
    (h4 : W4.heap[x]? = some (.cells #[v1, .int .i64 (m' : Int)] 69 (0, 0))) (hrow : W4.ownsRow w0.heap.size 5 1 v1 (B b').length (nums .u8 (B b'))) (hm : m' ≤ b'.length)
    (hat : ∀ g, v1.ownBlock = some g → W.heap.size ≤ g) (hl : b'.length ≤ N) :
    Files w0 W4 s (setAt bb x b') (setAt ff x m') N (Wide T W W4) (setAt vb x v1) := by
  have hne : ∀ y, InD s y → ∀ g, (vb y).ownBlock = some g → g ≠ x := fun y hy g hg => by
    obtain ⟨c, hc⟩ := own_cells (h.file y hy).2.1 hg
    exact ne_of_obj hc (h.file x hx).1 (by simp)
  have hold : ∀ y, InD s y → ∀ g, (vb y).ownBlock = some g → g < W.heap.size := fun y hy g hg => (h.mine g ((h.inX y hy).2 g hg)).2
  refine ⟨?_, ?_, ?_, ?_, ?_, hb⟩
  · intro y hy
    by_cases e : y = x
    · subst e
      simp only [setAt_same]
      exact ⟨h4, hrow, hm⟩
    · simp only [setAt_other _ _ e]
      obtain ⟨q1, q2, q3⟩ := h.file y hy
      exact ⟨(hk y (h.mine y (h.inX y hy).1).2 e).trans q1, own_move q2 (fun k hk' => hk k (hold y hy k hk') (hne y hy k hk')), q3⟩
  · intro y z hy hz g hgy hgz
    by_cases ey : y = x
    · by_cases ez : z = x
      · rw [ey, ez]
      · subst ey
        rw [setAt_same] at hgy
        rw [setAt_other _ _ ez] at hgz
        have := hat g hgy
        have := hold z hz g hgz
        omega
    · by_cases ez : z = x
      · subst ez
        rw [setAt_same] at hgz
        rw [setAt_other _ _ ey] at hgy
        have := hat g hgz
        have := hold y hy g hgy
        omega
      · rw [setAt_other _ _ ey] at hgy
        rw [setAt_other _ _ ez] at hgz
        exact h.apart y z hy hz g hgy hgz
  · intro y hy
    refine ⟨.inl (h.inX y hy).1, fun g hg => ?_⟩
    by_cases ey : y = x
    · subst ey
      rw [setAt_same] at hg
      exact .inr ⟨hat g hg, own_lt hrow g hg⟩
    · rw [setAt_other _ _ ey] at hg
      exact .inl ((h.inX y hy).2 g hg)
  · rintro k (hT | ⟨q1, q2⟩)
    · exact ⟨(h.mine k hT).1, Nat.lt_of_lt_of_le (h.mine k hT).2 hs⟩
    · exact ⟨Nat.le_trans h.below.size q1, q2⟩
  · intro y hy
    by_cases ey : y = x
    · subst ey; rw [setAt_same]; exact hl
    · rw [setAt_other _ _ ey]; exact h.small y hy
theorem Core.files {w0 W : World} {f : Nat} {d : Disk} {N : Nat} {T : Nat → Prop} {bn bs : Nat} {vl : Value} {fs : List Value} {vb : Nat → Value} (h : Core w0 W f d N T bn bs vl fs vb) (s : Dir) (hs : ∀ x, InD s x → d.has x) : Files w0 W s d.bytes d.firm N T vb :=
  ⟨fun x hx => h.file x (hs x hx), fun x y hx hy => h.apart x y (hs x hx) (hs y hy), fun x hx => h.inX x (hs x hx), h.mine, fun x hx => h.small.2 x (hs x hx), h.below⟩
end Go.Proofs.Ytibmgcihpbofdaa.Fs
namespace Go.Proofs.Ytibmgcihpbofdaa.Fs
open Go.RowKit Go.Proofs.Ytibmgcihpbofdaa Go.Proofs.Ytibmgcihpbofdaa.Plain Go.Proofs.YtibmgcihpbofdaaW.PrintWords Go.Proofs.YtibmgcihpbofdaaW.PrintMore Go.Maps
set_option linter.unusedVariables false
set_option linter.unusedSimpArgs false
attribute [local go_sem] max2_int min2_int
theorem intMax (n : Int) : (if n < 0 then (0 : Int) else n) = max n 0 := by split <;> omega
theorem crashK (n : Int) (L : Nat) : ∃ k : Nat, k ≤ L ∧ (if (L : Int) < (if n < 0 then (0 : Int) else n) then (L : Int) else (if n < 0 then (0 : Int) else n)) = k ∧ (min (max n 0) (L : Int)).toNat = k := by
  refine ⟨(min (max n 0) (L : Int)).toNat, by omega, ?_, rfl⟩
  split <;> split <;> omega
theorem apps_take_succ (s : Dir) (l : List Chg) (i : Nat) (hi : i < l.length) : apps s (l.take (i + 1)) = l[i].app (apps s (l.take i)) := by
  rw [List.take_add_one, List.getElem?_eq_getElem hi]
  exact apps_snoc _ _ _
theorem own_cap {w : World} {base n cp : Nat} {A : Option Addr} {e : TypeId} {xs : List Value} (h : w.ownsRow base e 1 (.slice A n cp) n xs) : n ≤ cp := by
  rcases h.2 with ⟨e, rfl⟩ | ⟨g, cap, cur, e, _, _, h1, _⟩
  · omega
  · injection e with _ _ e3
    omega
theorem rowCell {w : World} {base n cp : Nat} {A : Option Addr} {e : TypeId} {xs : List Value} (h : w.ownsRow base e 1 (.slice A n cp) n xs) (j : Nat) (hj : j < n) {v : Value} (hv : xs[j]? = some v) : ∃ g, A = some ⟨g, 0, none⟩ ∧ w.cell? ⟨g, j, none⟩ = some v ∧ (Value.slice A n cp).ownBlock = some g := by
  rcases h.2 with ⟨e, rfl⟩ | ⟨g, cap, cur, e, _⟩
  · omega
  · injection e with e1 e2 e3
    subst e1 e3
    exact ⟨g, rfl, (h.cellAt j (by omega)).trans hv, rfl⟩
theorem oks_at {s : Dir} {l : List Chg} (h : oks s l) (i : Nat) (hi : i < l.length) : l[i].ok (apps s (l.take i)) := by
  have := oks_take h (i + 1)
  rw [List.take_add_one, List.getElem?_eq_getElem hi] at this
  exact (oks_snoc.1 this).2
structure Half (s : Dir) (d : Disk) (m : Int) (left : Lit → Bool) (bb : Nat → List UInt8) (ff : Nat → Nat) : Prop where
  all : ∀ x, InD s x → (bb x = d.bytes x ∧ ff x = d.firm x) ∨ (bb x = (d.bytes x).take (d.kept m x) ∧ ff x = d.kept m x)
  seen : ∀ p ∈ s, left (.string p.1) = false → bb p.2 = (d.bytes p.2).take (d.kept m p.2) ∧ ff p.2 = d.kept m p.2
theorem Disk.kept_le {d : Disk} {m : Int} {x : Nat} (h : d.firm x ≤ (d.bytes x).length) : d.kept m x ≤ (d.bytes x).length := by
  unfold Disk.kept
  omega
theorem Half.step {s : Dir} {d : Disk} {m : Int} {left : Lit → Bool} {bb : Nat → List UInt8} {ff : Nat → Nat} (h : Half s d m left bb ff) (hk : Keys s) {n : Nm} {x : Nat} (hg : get s n = some x) (hf : d.firm x ≤ (d.bytes x).length) {M m' : Nat} (hM : max m 0 = (M : Int)) (hm : m' = ff x + min M ((bb x).length - ff x)) :
    m' ≤ (bb x).length ∧ Half s d m (fun z => left z && !z.sameKey (.string n)) (setAt bb x ((bb x).take m')) (setAt ff x m') := by
  have hin : InD s x := ⟨n, get_mem hg⟩
  have hkl := Disk.kept_le (m := m) hf
  have hkk : d.kept m x = d.firm x + min M ((d.bytes x).length - d.firm x) := by unfold Disk.kept; rw [hM]; rfl
  have key : m' ≤ (bb x).length ∧ (bb x).take m' = (d.bytes x).take (d.kept m x) ∧ m' = d.kept m x := by
    rcases h.all x hin with ⟨e1, e2⟩ | ⟨e1, e2⟩
    · rw [e1, e2] at hm
      have e : m' = d.kept m x := by rw [hkk]; exact hm
      rw [e1, e]
      exact ⟨hkl, rfl, rfl⟩
    · have hl : (bb x).length = d.kept m x := by rw [e1, List.length_take]; omega
      rw [hl, e2] at hm
      have e : m' = d.kept m x := by omega
      rw [e, hl, e1, List.take_take]
      refine ⟨Nat.le_refl _, ?_, rfl⟩
      congr 1
      omega
  obtain ⟨k1, k2, k3⟩ := key
  refine ⟨k1, ⟨fun y hy => ?_, fun p hp hl => ?_⟩⟩
  · by_cases e : y = x
    · subst e
      simp only [setAt_same]
      exact .inr ⟨k2, k3⟩
    · simp only [setAt_other _ _ e]
      exact h.all y hy
  · by_cases e : p.2 = x
    · rw [e]
      simp only [setAt_same]
      exact ⟨k2, k3⟩
    · simp only [setAt_other _ _ e]
      refine h.seen p hp ?_
      simp only [Bool.and_eq_false_iff, Bool.not_eq_false'] at hl
      rcases hl with hl | hl
      · exact hl
      · exfalso
        have e2 : p.1 = n := by simpa [Lit.sameKey] using hl
        have := keys_nodup hk hp (get_mem hg) e2
        exact e (by rw [this])
theorem has_take {d : Disk} {i : Nat} {x : Nat} (h : InD (apps d.sure (d.loose.take i)) x) : d.has x := by
  obtain ⟨n, h⟩ := h
  rcases has_of_apps _ _ _ h with ⟨k, h⟩ | ⟨k, h⟩
  · exact .inl ⟨k, h⟩
  · exact .inr ⟨k, List.mem_of_mem_take h⟩
theorem Files.setA {w0 W X : World} {s : Dir} {bb : Nat → List UInt8} {ff : Nat → Nat} {N : Nat} {T : Nat → Prop} {vb : Nat → Value} (h : Files w0 W s bb ff N T vb) {b : Nat} (hb : InD s b) {v z : Value} (hX : X.heap = (W.setCell ⟨b, 1, none⟩ z).heap) (hc : W.cell? ⟨b, 0, none⟩ = some v) : X.cell? ⟨b, 0, none⟩ = some v := by
  have e := (h.file b hb).1
  have e2 : vb b = v := by simp [World.cell?, e] at hc; exact hc
  rw [World.cell?, hX]
  simp [World.setCell, Array.getElem?_modify, e, e2]
theorem Files.setB {w0 W X : World} {s : Dir} {bb : Nat → List UInt8} {ff : Nat → Nat} {N : Nat} {T : Nat → Prop} {vb : Nat → Value} (h : Files w0 W s bb ff N T vb) {b : Nat} (hb : InD s b) {z : Value} (hX : X.heap = (W.setCell ⟨b, 1, none⟩ z).heap) : X.cell? ⟨b, 1, none⟩ = some z := by
  have e := (h.file b hb).1
  rw [World.cell?, hX]
  simp [World.setCell, Array.getElem?_modify, e]
theorem Files.setF {w0 W X : World} {s : Dir} {bb : Nat → List UInt8} {ff : Nat → Nat} {N : Nat} {T : Nat → Prop} {vb : Nat → Value} (h : Files w0 W s bb ff N T vb) {b : Nat} (hb : InD s b) {z : Value} (hX : X.heap = (W.setCell ⟨b, 1, none⟩ z).heap) (o : Nat) : X.frozen? ⟨b, o, none⟩ = false := by
  have e := (h.file b hb).1
  rw [World.frozen?, hX]
  simp [World.setCell, Array.getElem?_modify, e]
def Held (fr : Act) (R : World → Prop) : Exit → Act → World → Prop := fun e a w => match e with
  | .normal => a = fr ∧ R w
  | _ => False
theorem wp_held {P : Program} {c : Code} {Q : Exit → Act → World → Prop} {a : Act} {w : World} (fr : Act) (R : World → Prop) (hreg : c.wp P (Held fr R) a w) (hnext : ∀ w', R w' → Q .normal fr w') : c.wp P Q a w := by
  refine Code.wp_mono (fun e a' w' h => ?_) hreg
  cases e with
  | normal => obtain ⟨rfl, h⟩ := h; exact hnext _ h
  | _ => exact h.elim
theorem own_base {w : World} {base n size : Nat} {e : TypeId} {v : Value} {xs : List Value} (h : w.ownsRow base e size v n xs) {g : Nat} (hg : v.ownBlock = some g) : base ≤ g := by
  rcases h.2 with ⟨rfl, _⟩ | ⟨g', cap, cur, rfl, hb, _⟩
  · simp [Value.ownBlock] at hg
  · have : g' = g := by simpa [Value.ownBlock] using hg
    omega
theorem crashCells {w2 X : World} {b : Nat} {v : Value} (hc : w2.cell? ⟨b, 0, none⟩ = some v) (hf : w2.frozen? ⟨b, 0, none⟩ = false) (hX : Below w2.heap.size w2 X) : X.cell? ⟨b, 0, none⟩ = some v ∧ X.frozen? ⟨b, 0, none⟩ = false := by
  have hlt : b < w2.heap.size := World.block_lt_of_cell? _ _ hc
  refine ⟨(World.cell?_of_block (hX.block b hlt)).trans hc, ?_⟩
  have := hX.block b hlt
  unfold World.frozen? at hf ⊢
  rw [this]
  exact hf
/-- one file, crashed -/
theorem crashBody {w0 W w1 w2 w3 X : World} {s : Dir} {bb : Nat → List UInt8} {ff : Nat → Nat} {N : Nat} {T T2 : Nat → Prop} {vb : Nat → Value} {b f m1 r bs n cnt c2 : Nat} {E : DataW Unit} {left : Lit → Bool} {A2 : Option Addr}
    (hF : Files w0 w1 s bb ff N T2 vb) (hb : InD s b) (hml : m1 ≤ (bb b).length) (h2 : w2.heap = (w1.setCell ⟨b, 1, none⟩ (.int .i64 (m1 : Int))).heap) (h3 : Below w2.heap.size w2 w3) (hown : w3.ownsRow w2.heap.size 5 1 (.slice A2 (B ((bb b).take m1)).length c2) (B ((bb b).take m1)).length (nums .u8 (B ((bb b).take m1))))
    (hX : X.heap = (w3.setCell ⟨b, 0, none⟩ (.slice A2 (B ((bb b).take m1)).length c2)).heap) (hbX : Below w0.heap.size w1 X) (hr : w1.ranges Try.prog 9 ptrElem bs r n E left cnt) (hf : T2 f) (hff : w1.heap[f]? = W.heap[f]?) (hfb : f ≠ b) (hT : Turn T W T2 w1) (hTr : ¬ T2 r) (hbs : bs ≠ b) :
    X.ranges Try.prog 9 ptrElem bs r n E left cnt ∧ Files w0 X s (setAt bb b ((bb b).take m1)) (setAt ff b m1) N (Wide T2 w1 X) (setAt vb b (.slice A2 (B ((bb b).take m1)).length c2)) ∧ X.heap[f]? = W.heap[f]? ∧ Turn T W (Wide T2 w1 X) X ∧ ¬ Wide T2 w1 X r := by
  have s2 : w2.heap.size = w1.heap.size := by rw [h2]; simp [World.setCell]
  have lb : b < w1.heap.size := (hF.mine b (hF.inX b hb).1).2
  have k2 : ∀ k, k ≠ b → w2.heap[k]? = w1.heap[k]? := fun k hk => by rw [h2]; exact Below.heap_setCell _ ⟨b, 1, none⟩ _ k hk
  have k3 : ∀ k, k < w1.heap.size → w3.heap[k]? = w2.heap[k]? := fun k hk => h3.block k (by omega)
  have kX : ∀ k, k ≠ b → X.heap[k]? = w3.heap[k]? := fun k hk => by rw [hX]; exact Below.heap_setCell _ ⟨b, 0, none⟩ _ k hk
  have kk : ∀ k, k < w1.heap.size → k ≠ b → X.heap[k]? = w1.heap[k]? := fun k hk hkb => (kX k hkb).trans ((k3 k hk).trans (k2 k hkb))
  have hsX : w1.heap.size ≤ X.heap.size := hbX.size
  have hgr : w1.grownBy X (some b) := ⟨hbX.os, hbX.tape, hbX.output, hsX, fun k hk hkb => kk k hk (fun e => hkb (by rw [e]))⟩
  have hrlt := hr.lt
  have hb2 : w2.heap[b]? = some (.cells #[vb b, .int .i64 (m1 : Int)] 69 (0, 0)) := by
    rw [h2]
    simp [World.setCell, Array.getElem?_modify, (hF.file b hb).1]
  have hb4 : X.heap[b]? = some (.cells #[.slice A2 (B ((bb b).take m1)).length c2, .int .i64 (m1 : Int)] 69 (0, 0)) := by
    rw [hX]
    simp [World.setCell, Array.getElem?_modify, k3 b lb, hb2]
  have hrow : X.ownsRow w0.heap.size 5 1 (.slice A2 (B ((bb b).take m1)).length c2) (B ((bb b).take m1)).length (nums .u8 (B ((bb b).take m1))) := by
    refine own_move (own_weaken hown (Nat.le_trans hF.below.size (Nat.le_of_eq s2.symm))) (fun k hk => kX k (fun e => ?_))
    have := own_base hown hk
    omega
  refine ⟨hr.kept hgr (fun e => hbs (Option.some.inj e)) (fun e => hTr (by rw [Option.some.inj e]; exact (hF.inX b hb).1)), hF.setFile hb kk hsX (hF.below.trans (hbX.mono (Nat.le_refl _))) hb4 hrow (by rw [List.length_take]; omega) (fun g hg => by have := own_base hown hg; omega) (by have := hF.small b hb; rw [List.length_take]; omega), (kk f (hF.mine f hf).2 hfb).trans hff, ?_, ?_⟩
  · refine ⟨fun k hk => hk.elim (fun h => hT.1 k h) (fun h => .inr (Nat.le_trans hT.2.2.2 h.1)), fun k h => .inl (hT.2.1 k h), fun k hk hkT => ?_, Nat.le_trans hT.2.2.2 hsX⟩
    refine (kk k (Nat.lt_of_lt_of_le hk hT.2.2.2) (fun e => ?_)).trans (hT.2.2.1 k hk hkT)
    subst e
    exact (hT.1 k (hF.inX k hb).1).elim hkT (fun h => by omega)
  · rintro (h | h)
    · exact hTr h
    · omega
theorem Files.takeReads {w0 w1 w2 : World} {s : Dir} {bb : Nat → List UInt8} {ff : Nat → Nat} {N : Nat} {T : Nat → Prop} {vb : Nat → Value} (h : Files w0 w1 s bb ff N T vb) {b : Nat} (hb : InD s b) {A1 : Option Addr} {n k1 m1 : Nat} {z : Value} (hv : vb b = .slice A1 n k1) (h2 : w2.heap = (w1.setCell ⟨b, 1, none⟩ z).heap) (hm : m1 ≤ (bb b).length) : ReadsInt w2 .u8 A1 (B ((bb b).take m1)).length (B ((bb b).take m1)) := by
  obtain ⟨q1, q2, q3⟩ := h.file b hb
  have q4 : w2.ownsRow w0.heap.size 5 1 (vb b) (B (bb b)).length (nums .u8 (B (bb b))) := by
    refine own_move q2 (fun k hk => ?_)
    have hne : k ≠ b := by
      obtain ⟨c, hc⟩ := own_cells q2 hk
      exact ne_of_obj hc q1 (by simp)
    rw [h2]
    exact Below.heap_setCell _ ⟨b, 1, none⟩ _ k hne
  obtain ⟨A', c', hv'⟩ := own_slice q4
  rw [hv'] at q4
  have hA : A' = A1 := by rw [hv] at hv'; injection hv' with e; exact e.symm
  subst hA
  have hr := own_reads' q4
  refine ⟨rfl, by rw [B_length, List.length_take]; have := hr.2.1; rw [B_length] at this; omega, fun hn => ?_⟩
  have hl : (B ((bb b).take m1)).length = m1 := by rw [B_length, List.length_take]; omega
  rw [hl] at hn ⊢
  obtain ⟨ad, e, hc⟩ := hr.2.2 (by rw [B_length]; omega)
  refine ⟨ad, e, fun j hj => ?_⟩
  have h1 := hc j (by rw [B_length]; omega)
  rw [h1]
  congr 2
  simp only [B, List.map_take, List.getD_eq_getElem?_getD]
  rw [List.getElem?_take_of_lt hj]
/-- what stands while the sure map turns -/
theorem Core.turned {w0 W X : World} {f : Nat} {d : Disk} {N : Nat} {T : Nat → Prop} {bn bs : Nat} {vl : Value} {fs : List Value} {vb : Nat → Value} (h : Core w0 W f d N T bn bs vl fs vb) (hg : W.grownBy X (some bs)) :
    X.heap[f]? = W.heap[f]? ∧ (∀ g, vl.ownBlock = some g → X.heap[g]? = W.heap[g]?) ∧ Clos X T d.loose fs := by
  obtain ⟨es, c, hs⟩ := map_obj h.sure
  refine ⟨hg.block f (h.mine f h.inF).2 (fun e => h.f_ne.2.1 (Option.some.inj e).symm), fun g hg' => ?_, h.clo.move (fun k hT hB => ?_) (fun _ h => h)⟩
  · obtain ⟨cur, hc⟩ := own_cells h.row hg'
    exact hg.block g (h.mine g (h.inL g hg')).2 (fun e => ne_of_obj hc hs (by simp) (Option.some.inj e))
  · obtain ⟨c', hc | hc⟩ := hB
    · exact hg.block k (h.mine k hT).2 (fun e => ne_of_obj hc hs (by simp) (Option.some.inj e))
    · exact hg.block k (h.mine k hT).2 (fun e => ne_of_obj hc hs (by simp) (Option.some.inj e))
/-- one change, done to what is sure -/
theorem Core.crashStep {w0 W X : World} {f : Nat} {d : Disk} {N : Nat} {T : Nat → Prop} {bn bs L cp : Nat} {A : Option Addr} {fs : List Value} {vb : Nat → Value} (h : Core w0 W f d N T bn bs (.slice A L cp) fs vb) (hL : d.loose.length = L) (hN : N ≤ 1000000) (hg : W.grownBy X (some bs)) (i : Nat) (hi : i < L) (hd : OwnDir X bs (apps d.sure (d.loose.take i))) :
    ∃ g v, A = some ⟨g, 0, none⟩ ∧ X.cell? ⟨g, i, none⟩ = some v ∧ X.cell? ⟨f, 1, none⟩ = some (.map (some bs)) ∧ CloIs X T (d.loose[i]'(by omega)) v ∧ ∃ fn cap, v = .func (.func fn) #[] cap ∧ Calls Try.prog fn (#[.map (some bs)] ++ cap) X fun e W' => e = .returned (.tuple #[]) ∧ OwnDir W' bs (apps d.sure (d.loose.take (i + 1))) ∧ W.grownBy W' (some bs) := by
  subst hL
  obtain ⟨t1, t2, t3⟩ := h.turned hg
  obtain ⟨v, h1, h2⟩ := t3.get i hi
  obtain ⟨g, e, hc, ho⟩ := rowCell h.row i hi h1
  have hlen : (apps d.sure (d.loose.take i)).length ≤ 2000000 := by
    have h3 := length_apps_le (d.loose.take i) d.sure
    have h4 := h.small.1
    rw [List.length_take] at h3
    omega
  obtain ⟨fn, cap, e2, hcall⟩ := applyFn h2 hd (oks_at h.ok i hi) hlen
  refine ⟨g, v, e, (World.cell?_of_block (t2 g ho)).trans hc, ?_, h2, fn, cap, e2, hcall.mono ?_⟩
  · simp [World.cell?, t1, h.head]
  · rintro e W' ⟨q1, q2, q3⟩
    rw [apps_take_succ _ _ _ hi]
    exact ⟨q1, q2, hg.trans q3⟩
/-- .. as the loop's relation has it -/
theorem crashRel {w0 W w1 w2 w3 X : World} {s : Dir} {d : Disk} {m : Int} {bb : Nat → List UInt8} {ff : Nat → Nat} {N : Nat} {T T2 : Nat → Prop} {vb : Nat → Value} {b f m1 r bs n cnt c2 ln : Nat} {E : DataW Unit} {left : Lit → Bool} {A2 : Option Addr}
    (hF : Files w0 w1 s bb ff N T2 vb) (hb : InD s b) (hml : m1 ≤ (bb b).length) (h2 : w2.heap = (w1.setCell ⟨b, 1, none⟩ (.int .i64 (m1 : Int))).heap) (h3 : Below w2.heap.size w2 w3) (hown : w3.ownsRow w2.heap.size 5 1 (.slice A2 (B ((bb b).take m1)).length c2) (B ((bb b).take m1)).length (nums .u8 (B ((bb b).take m1))))
    (hln : ln = (B ((bb b).take m1)).length) (hX : X.heap = (w3.setCell ⟨b, 0, none⟩ (.slice A2 ln c2)).heap) (hbX : Below w0.heap.size w1 X) (hr : w1.ranges Try.prog 9 ptrElem bs r n E left cnt) (hf : T2 f) (hff : w1.heap[f]? = W.heap[f]?) (hfb : f ≠ b) (hT : Turn T W T2 w1) (hTr : ¬ T2 r) (hbs : bs ≠ b) (hH : Half s d m left (setAt bb b ((bb b).take m1)) (setAt ff b m1)) :
    ∃ (left : Lit → Bool) (cnt : Nat) (bb : Nat → List UInt8) (ff : Nat → Nat) (vb2 : Nat → Value) (T2 : Nat → Prop), Aside0 (X.ranges Try.prog 9 ptrElem bs r n E left cnt) ∧ Aside0 (Files w0 X s bb ff N T2 vb2) ∧ Aside0 (Half s d m left bb ff) ∧ Aside0 (X.heap[f]? = W.heap[f]?) ∧ Aside0 (Turn T W T2 X) ∧ Aside0 (¬ T2 r) := by
  subst hln
  obtain ⟨q1, q2, q3, q4, q5⟩ := crashBody hF hb hml h2 h3 hown hX hbX hr hf hff hfb hT hTr hbs
  exact ⟨_, _, _, _, _, _, ⟨q1⟩, ⟨q2⟩, ⟨hH⟩, ⟨q3⟩, ⟨q4⟩, ⟨q5⟩⟩
theorem crashMeasure {w0 w1 w2 w3 X : World} {bb : Nat → List UInt8} {ff : Nat → Nat} {s : Dir} {N : Nat} {T2 : Nat → Prop} {vb : Nat → Value} {b m1 r bs n cnt c2 ln : Nat} {E : DataW Unit} {left : Lit → Bool} {A2 : Option Addr}
    (hF : Files w0 w1 s bb ff N T2 vb) (hb : InD s b) (h2 : w2.heap = (w1.setCell ⟨b, 1, none⟩ (.int .i64 (m1 : Int))).heap) (h3 : Below w2.heap.size w2 w3)
    (hX : X.heap = (w3.setCell ⟨b, 0, none⟩ (.slice A2 ln c2)).heap) (hbX : Below w0.heap.size w1 X) (hr : w1.ranges Try.prog 9 ptrElem bs r n E left cnt) (hTr : ¬ T2 r) (hbs : bs ≠ b) : X.rangeLeft bs r = cnt := by
  have s2 : w2.heap.size = w1.heap.size := by rw [h2]; simp [World.setCell]
  have hgr : w1.grownBy X (some b) := ⟨hbX.os, hbX.tape, hbX.output, hbX.size, fun k hk hkb => by
    have hne : k ≠ b := fun e => hkb (by rw [e])
    have e1 : X.heap[k]? = w3.heap[k]? := by rw [hX]; exact Below.heap_setCell _ ⟨b, 0, none⟩ _ k hne
    have e2 : w2.heap[k]? = w1.heap[k]? := by rw [h2]; exact Below.heap_setCell _ ⟨b, 1, none⟩ _ k hne
    exact e1.trans ((h3.block k (by omega)).trans e2)⟩
  exact (hr.kept hgr (fun e => hbs (Option.some.inj e)) (fun e => hTr (by rw [Option.some.inj e]; exact (hF.inX b hb).1))).left_eq
theorem headCells {W X : World} {f : Nat} {a b c d e g : Value} (h : W.heap[f]? = some (.cells #[a, b, c, d, e, g] 64 (0, 0))) (hX : Below W.heap.size W X) :
    X.cell? ⟨f, 0, none⟩ = some a ∧ X.cell? ⟨f, 1, none⟩ = some b ∧ X.cell? ⟨f, 2, none⟩ = some c ∧ X.cell? ⟨f, 3, none⟩ = some d ∧ X.cell? ⟨f, 4, none⟩ = some e ∧ X.cell? ⟨f, 5, none⟩ = some g ∧ ∀ o, X.frozen? ⟨f, o, none⟩ = false := by
  have e' := (hX.block f (Array.getElem?_eq_some_iff.1 h).1).trans h
  simp [World.cell?, World.frozen?, e']
theorem crashNat {d : Disk} {n : Int} {k : Nat} (hk : min (max n 0) (d.loose.length : Int) = (k : Int)) : (min (max n 0) (d.loose.length : Int)).toNat = k := by omega
theorem anyD {s : Dir} {x : Nat} (h : InD s x) : (s.any (fun p => p.2 == x)) = true := by
  obtain ⟨n, hn⟩ := h
  exact List.any_eq_true.2 ⟨(n, x), hn, by simp⟩
theorem left_none {s : Dir} {d : Disk} {m : Int} {left : Lit → Bool} {bb : Nat → List UInt8} {ff : Nat → Nat} (h : Half s d m left bb ff) (hl : ∀ kl, left kl = false) {x : Nat} (hx : InD s x) : bb x = (d.bytes x).take (d.kept m x) ∧ ff x = d.kept m x := by
  obtain ⟨n, hn⟩ := hx
  exact h.seen (n, x) hn (hl _)
/-- the end: the disk behind a crash -/
theorem crashEnd {w0 W wr W3 X : World} {f : Nat} {d : Disk} {N : Nat} {T T2 : Nat → Prop} {bn bs k : Nat} {vl : Value} {fs : List Value} {vb vb2 : Nat → Value} {n m : Int} {s : Dir} {bb : Nat → List UInt8} {ff : Nat → Nat} {left : Lit → Bool} {L : Nat} (h : Core w0 W f d N T bn bs vl fs vb)
    (hk : min (max n 0) (L : Int) = (k : Int)) (hs : apps d.sure (d.loose.take k) = s) (hF : Files w0 wr s bb ff N T2 vb2) (hH : Half s d m left bb ff) (hl : ∀ kl, left kl = false) (hhe : wr.heap[f]? = W.heap[f]?) (hT : Turn T W T2 wr) (hown : OwnDir wr bs s) (hd3 : OwnDir W3 wr.heap.size s) (hb3 : Below wr.heap.size wr W3) (hL : d.loose.length = L)
    (hXf : X.heap[f]? = some (.cells #[.map (some wr.heap.size), .map (some bs), .slice none 0 0, .int .i64 d.room, .int .i64 (-1), .bool false] 64 (0, 0))) (hX : ∀ j, j ≠ f → X.heap[j]? = W3.heap[j]?) (hsz : X.heap.size = W3.heap.size) (hbX : Below w0.heap.size w0 X) :
    ∃ T', FsAt w0 f (d.crash n m) N T' X ∧ Turn T W T' X := by
  subst hL
  have hfT2 : T2 f := hT.2.1 f h.inF
  have hlen : wr.heap.size < W3.heap.size := by
    obtain ⟨es, c, hm⟩ := map_obj hd3
    exact (Array.getElem?_eq_some_iff.1 hm).1
  have hkk : ∀ j, T2 j → j ≠ f → X.heap[j]? = wr.heap[j]? := fun j hj hjf => (hX j hjf).trans (hb3.block j (hF.mine j hj).2)
  have hfs : ∀ x, InD s x → x ≠ f ∧ ∀ g, (vb2 x).ownBlock = some g → g ≠ f := fun x hx => ⟨ne_of_obj (hF.file x hx).1 (hhe.trans h.head) (by simp), fun g hg => by
    obtain ⟨c, hc⟩ := own_cells (hF.file x hx).2.1 hg
    exact ne_of_obj hc (hhe.trans h.head) (by simp)⟩
  have hbsf : bs ≠ f := by
    obtain ⟨es, c, hm⟩ := map_obj hown
    exact ne_of_obj hm (hhe.trans h.head) (by simp)
  have hwf : wr.heap.size ≠ f := by have := (hF.mine f hfT2).2; omega
  have hsure : (d.crash n m).sure = s := by
    show apps d.sure (d.loose.take _) = s
    rw [crashNat hk, hs]
  have hbytes : ∀ x, InD s x → (d.crash n m).bytes x = bb x ∧ (d.crash n m).firm x = ff x := fun x hx => by
    have e := anyD hx
    obtain ⟨q1, q2⟩ := left_none hH hl hx
    have e2 : (apps d.sure (d.loose.take (min (max n 0) (d.loose.length : Int)).toNat)).any (fun p => p.2 == x) = true := by rw [crashNat hk, hs]; exact e
    refine ⟨?_, ?_⟩
    · show (if _ then _ else _) = _
      rw [if_pos e2, q1]
    · show (if _ then _ else _) = _
      rw [if_pos e2, q2]
  have hhas : ∀ x, (d.crash n m).has x → InD s x := fun x hx => by
    rcases hx with hx | ⟨q, hq⟩
    · rw [hsure] at hx; exact hx
    · cases hq
  have hnow : (d.crash n m).now = s := by
    show apps (d.crash n m).sure [] = s
    rw [hsure]; rfl
  refine ⟨Wide T2 wr X, ⟨wr.heap.size, bs, .slice none 0 0, [], vb2, ?_⟩, ?_⟩
  · exact {
      head := hXf
      now := by rw [hnow]; exact ownsMap_move hd3 (hX _ hwf)
      sure := by rw [hsure]; exact ownsMap_move hown (hkk bs (hT.2.1 bs h.inS) hbsf)
      ne := by have := (hF.mine bs (hT.2.1 bs h.inS)).2; omega
      row := own_nil _ _ _ _
      clo := .nil
      file := fun x hx => by
        have hi := hhas x hx
        obtain ⟨q1, q2, q3⟩ := hF.file x hi
        obtain ⟨r1, r2⟩ := hbytes x hi
        rw [r1, r2]
        exact ⟨(hkk x (hF.inX x hi).1 (hfs x hi).1).trans q1, own_move q2 (fun j hj => hkk j ((hF.inX x hi).2 j hj) ((hfs x hi).2 j hj)), q3⟩
      apart := fun x y hx hy => hF.apart x y (hhas x hx) (hhas y hy)
      inF := .inl hfT2
      inN := .inr ⟨Nat.le_refl _, by omega⟩
      inS := .inl (hT.2.1 bs h.inS)
      inL := fun g hg => by simp [Value.ownBlock] at hg
      inX := fun x hx => ⟨.inl (hF.inX x (hhas x hx)).1, fun g hg => .inl ((hF.inX x (hhas x hx)).2 g hg)⟩
      mine := by
        rintro j (hj | ⟨j1, j2⟩)
        · exact ⟨(hF.mine j hj).1, by have := (hF.mine j hj).2; omega⟩
        · exact ⟨Nat.le_trans hF.below.size j1, j2⟩
      ok := trivial
      room := h.room
      fuse := by show -1 ≤ (-1 : Int) ∧ (-1 : Int) ≤ 9223372036854775807; decide
      small := ⟨by
        have h1 := length_apps_le (d.loose.take k) d.sure
        have h2 := h.small.1
        rw [hs, List.length_take] at h1
        rw [hsure]
        show s.length + 0 ≤ N
        have : k ≤ d.loose.length := by omega
        omega, fun x hx => by rw [(hbytes x (hhas x hx)).1]; exact hF.small x (hhas x hx)⟩
      below := hbX }
  · refine ⟨?_, fun j hj => .inl (hT.2.1 j hj), fun j hj hjT => ?_, by have := hT.2.2.2; omega⟩
    · rintro j (hj | ⟨j1, j2⟩)
      · exact hT.1 j hj
      · exact .inr (Nat.le_trans hT.2.2.2 j1)
    · exact (hX j (fun e => hjT (e ▸ h.inF))).trans ((hb3.block j (Nat.lt_of_lt_of_le hj hT.2.2.2)).trans (hT.2.2.1 j hj hjT))
end Go.Proofs.Ytibmgcihpbofdaa.Fs
