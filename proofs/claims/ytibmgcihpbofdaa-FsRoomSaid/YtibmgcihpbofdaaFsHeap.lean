/- A disk of files in memory: what its blocks hold, and how that is carried. -/
import Derived.Test.YtibmgcihpbofdaaFsRight
import Derived.Maps.OwnSet
import Derived.Maps.RangeWalk
namespace Go.Proofs.Ytibmgcihpbofdaa.Fs
open Go.RowKit Go.Proofs.Ytibmgcihpbofdaa Go.Proofs.Ytibmgcihpbofdaa.Plain Go.Proofs.YtibmgcihpbofdaaW.PrintWords Go.Maps
set_option linter.unusedVariables false
set_option linter.unusedSimpArgs false
theorem infoU8 : (Try.prog.info? 5).map (fun i => (i.zero, i.size, i.bytes)) = some (some (.int .u8 0), 1, 1) := by kernel_rfl
theorem infoChange : (Try.prog.info? 76).map (fun i => (i.zero, i.size, i.bytes)) = some (some .nilFunc, 1, 8) := by kernel_rfl
theorem keyed : Keyed Try.prog 9 := string_keyed Try.underlying9
/-- what a change's function value is: its captured variables in blocks of their own -/
def CloIs (W : World) (T : Nat → Prop) : Chg → Value → Prop
  | .create n x, v => ∃ a b, v = .func (.func 35) #[] #[.pointer (some ⟨a, 0, none⟩), .pointer (some ⟨b, 0, none⟩)] ∧ W.heap[a]? = some (.cells #[.pointer (some ⟨x, 0, none⟩)] 66 (0, 0)) ∧ W.heap[b]? = some (.cells #[.string (S n)] 9 (0, 0)) ∧ T a ∧ T b ∧ n.length ≤ 80
  | .rename n m, v => ∃ a b, v = .func (.func 41) #[] #[.pointer (some ⟨a, 0, none⟩), .pointer (some ⟨b, 0, none⟩)] ∧ W.heap[a]? = some (.cells #[.string (S n)] 9 (0, 0)) ∧ W.heap[b]? = some (.cells #[.string (S m)] 9 (0, 0)) ∧ T a ∧ T b ∧ n.length ≤ 80 ∧ m.length ≤ 80
  | .unlink n, v => ∃ a, v = .func (.func 40) #[] #[.pointer (some ⟨a, 0, none⟩)] ∧ W.heap[a]? = some (.cells #[.string (S n)] 9 (0, 0)) ∧ T a ∧ n.length ≤ 80
def IsBox (W : World) (k : Nat) : Prop := ∃ c, W.heap[k]? = some (.cells c 66 (0, 0)) ∨ W.heap[k]? = some (.cells c 9 (0, 0))
theorem CloIs.move {W X : World} {T T' : Nat → Prop} {c : Chg} {v : Value} (h : CloIs W T c v) (hk : ∀ k, T k → IsBox W k → X.heap[k]? = W.heap[k]?) (hT : ∀ k, T k → T' k) : CloIs X T' c v := by
  cases c with
  | create n x => obtain ⟨a, b, e, h1, h2, h3, h4, h5⟩ := h; exact ⟨a, b, e, (hk a h3 ⟨_, .inl h1⟩).trans h1, (hk b h4 ⟨_, .inr h2⟩).trans h2, hT a h3, hT b h4, h5⟩
  | rename n m => obtain ⟨a, b, e, h1, h2, h3, h4, h5⟩ := h; exact ⟨a, b, e, (hk a h3 ⟨_, .inr h1⟩).trans h1, (hk b h4 ⟨_, .inr h2⟩).trans h2, hT a h3, hT b h4, h5⟩
  | unlink n => obtain ⟨a, e, h1, h2, h3⟩ := h; exact ⟨a, e, (hk a h2 ⟨_, .inr h1⟩).trans h1, hT a h2, h3⟩
inductive Clos (W : World) (T : Nat → Prop) : List Chg → List Value → Prop
  | nil : Clos W T [] []
  | cons {c : Chg} {v : Value} {l : List Chg} {fs : List Value} (h : CloIs W T c v) (r : Clos W T l fs) : Clos W T (c :: l) (v :: fs)
theorem Clos.move {W X : World} {T T' : Nat → Prop} {l : List Chg} {fs : List Value} (h : Clos W T l fs) (hk : ∀ k, T k → IsBox W k → X.heap[k]? = W.heap[k]?) (hT : ∀ k, T k → T' k) : Clos X T' l fs := by
  induction h with
  | nil => exact .nil
  | cons h r ih => exact .cons (h.move hk hT) ih
theorem Clos.snoc {W : World} {T : Nat → Prop} {l : List Chg} {fs : List Value} (h : Clos W T l fs) {c : Chg} {v : Value} (hc : CloIs W T c v) : Clos W T (l ++ [c]) (fs ++ [v]) := by
  induction h with
  | nil => exact .cons hc .nil
  | cons h r ih => exact .cons h ih
theorem Clos.length {W : World} {T : Nat → Prop} {l : List Chg} {fs : List Value} (h : Clos W T l fs) : fs.length = l.length := by
  induction h with
  | nil => rfl
  | cons h r ih => simp [ih]
theorem Clos.get {W : World} {T : Nat → Prop} {l : List Chg} {fs : List Value} (h : Clos W T l fs) (i : Nat) (hi : i < l.length) : ∃ v, fs[i]? = some v ∧ CloIs W T l[i] v := by
  induction h generalizing i with
  | nil => simp at hi
  | cons h r ih =>
    cases i with
    | zero => exact ⟨_, rfl, h⟩
    | succ i =>
      obtain ⟨v, h1, h2⟩ := ih i (by simpa using hi)
      exact ⟨v, by simpa using h1, by simpa using h2⟩
theorem ownsMap_move {W X : World} {b n : Nat} {E : DataW Unit} (h : W.ownsMap Try.prog 9 ptrElem b n E) (hk : X.heap[b]? = W.heap[b]?) : X.ownsMap Try.prog 9 ptrElem b n E := by
  obtain ⟨es, clock, hb, r⟩ := h
  exact ⟨es, clock, hk.trans hb, r⟩
theorem ownsMap_tight {W : World} {b n : Nat} {d : Dir} (h : W.ownsMap Try.prog 9 ptrElem b n (D d)) : W.ownsMap Try.prog 9 ptrElem b d.length (D d) := by
  obtain ⟨es, clock, hb, F, hs, hD⟩ := h
  refine ⟨es, clock, hb, F, ?_, hD⟩
  have h1 : Maps.size (D d) = es.size := by rw [hD]; simp [Maps.size, length_sorted]
  rw [D_size] at h1
  omega
theorem zeroPtr (w : World) : (zeroValue 66).run Try.prog w = .ok (.pointer none) w := by kernel_rfl
theorem keyS (n : Nm) (hn : n.length ≤ 140737488351232) : keyOf Try.prog 9 (.string (S n)) = some (.string n) := by
  have := Go.WideMaps.keyOf_string_mk (s := S n) Try.underlying9 (by simp [maxLen]; omega)
  rw [S_data] at this
  exact this
/-- 'x, ok := m[n]' -/
theorem lookOk {W : World} {b : Nat} {d : Dir} (h : W.ownsMap Try.prog 9 ptrElem b d.length (D d)) (n : Nm) (hn : n.length ≤ 140737488351232) (X : World) (hX : X.heap[b]? = W.heap[b]?) :
    (Instr.lookup 61 (.map (some b)) (.string (S n)) true).run Try.prog X = .ok (.tuple #[match get d n with | some x => .pointer (some ⟨x, 0, none⟩) | none => .pointer none, .bool (get d n).isSome]) X := by
  obtain ⟨v, ps, hrun, hv⟩ := World.ownsMap.look_ok (ownsMap_move h hX) keyed Try.underlying61 (zeroPtr X) (zd := .nil) (zp := []) rfl (keyS n hn)
  rw [D_has] at hrun
  rw [D_at] at hv
  refine hrun.trans ?_
  cases hg : get d n with
  | none =>
    rw [hg] at hv
    rcases ptrElem_inv hv with ⟨b, rfl, e⟩ | ⟨rfl, e⟩
    · simp at e
    · rfl
  | some x =>
    rw [hg] at hv
    rcases ptrElem_inv hv with ⟨b, rfl, e⟩ | ⟨rfl, e⟩
    · have : x = b := by simp at e; omega
      subst this
      rfl
    · simp at e
/-- the blocks of a disk at f: T, its own ones -/
structure Core (w0 W : World) (f : Nat) (d : Disk) (N : Nat) (T : Nat → Prop) (bn bs : Nat) (vl : Value) (fs : List Value) (vb : Nat → Value) : Prop where
  head : W.heap[f]? = some (.cells #[.map (some bn), .map (some bs), vl, .int .i64 d.room, .int .i64 d.fuse, .bool d.down] 64 (0, 0))
  now : W.ownsMap Try.prog 9 ptrElem bn d.now.length (D d.now)
  sure : W.ownsMap Try.prog 9 ptrElem bs d.sure.length (D d.sure)
  ne : bn ≠ bs
  row : W.ownsRow w0.heap.size 76 1 vl d.loose.length fs
  clo : Clos W T d.loose fs
  file : ∀ x, d.has x → W.heap[x]? = some (.cells #[vb x, .int .i64 (d.firm x : Int)] 69 (0, 0)) ∧ W.ownsRow w0.heap.size 5 1 (vb x) (B (d.bytes x)).length (nums .u8 (B (d.bytes x))) ∧ d.firm x ≤ (d.bytes x).length
  apart : ∀ x y, d.has x → d.has y → ∀ g, (vb x).ownBlock = some g → (vb y).ownBlock = some g → x = y
  inF : T f
  inN : T bn
  inS : T bs
  inL : ∀ g, vl.ownBlock = some g → T g
  inX : ∀ x, d.has x → T x ∧ ∀ g, (vb x).ownBlock = some g → T g
  mine : ∀ k, T k → w0.heap.size ≤ k ∧ k < W.heap.size
  ok : oks d.sure d.loose
  room : 0 ≤ d.room ∧ d.room ≤ 16777216
  fuse : -1 ≤ d.fuse ∧ d.fuse ≤ 9223372036854775807
  small : d.sure.length + d.loose.length ≤ N ∧ ∀ x, d.has x → (d.bytes x).length ≤ N
  below : Below w0.heap.size w0 W
def FsAt (w0 : World) (f : Nat) (d : Disk) (N : Nat) (T : Nat → Prop) (W : World) : Prop := ∃ bn bs vl fs vb, Core w0 W f d N T bn bs vl fs vb
/-- the disk stays where it is while other blocks turn -/
theorem Core.step {w0 W X : World} {f : Nat} {d : Disk} {N : Nat} {T : Nat → Prop} {bn bs : Nat} {vl : Value} {fs : List Value} {vb : Nat → Value} (h : Core w0 W f d N T bn bs vl fs vb) (hk : ∀ k, T k → X.heap[k]? = W.heap[k]?) (hs : W.heap.size ≤ X.heap.size) (hb : Below w0.heap.size w0 X) : Core w0 X f d N T bn bs vl fs vb where
  head := (hk f h.inF).trans h.head
  now := ownsMap_move h.now (hk bn h.inN)
  sure := ownsMap_move h.sure (hk bs h.inS)
  ne := h.ne
  row := own_move h.row (fun k hk' => hk k (h.inL k hk'))
  clo := h.clo.move (fun k hT _ => hk k hT) (fun _ h => h)
  file := fun x hx => ⟨(hk x (h.inX x hx).1).trans (h.file x hx).1, own_move (h.file x hx).2.1 (fun k hk' => hk k ((h.inX x hx).2 k hk')), (h.file x hx).2.2⟩
  apart := h.apart
  inF := h.inF
  inN := h.inN
  inS := h.inS
  inL := h.inL
  inX := h.inX
  mine := fun k hT => ⟨(h.mine k hT).1, Nat.lt_of_lt_of_le (h.mine k hT).2 hs⟩
  ok := h.ok
  room := h.room
  fuse := h.fuse
  small := h.small
  below := hb
theorem FsAt.move {w0 W X : World} {f : Nat} {d : Disk} {N : Nat} {T : Nat → Prop} (h : FsAt w0 f d N T W) (hk : ∀ k, T k → X.heap[k]? = W.heap[k]?) (hs : W.heap.size ≤ X.heap.size) (hb : Below w0.heap.size w0 X) : FsAt w0 f d N T X := by
  obtain ⟨bn, bs, vl, fs, vb, c⟩ := h
  exact ⟨bn, bs, vl, fs, vb, c.step hk hs hb⟩
theorem FsAt.below' {w0 W : World} {f : Nat} {d : Disk} {N : Nat} {T : Nat → Prop} (h : FsAt w0 f d N T W) : Below w0.heap.size w0 W := by
  obtain ⟨bn, bs, vl, fs, vb, c⟩ := h
  exact c.below
theorem Core.step' {w0 W X : World} {f : Nat} {d : Disk} {N : Nat} {T : Nat → Prop} {bn bs : Nat} {vl : Value} {fs : List Value} {vb : Nat → Value} (h : Core w0 W f d N T bn bs vl fs vb) (hb : Below W.heap.size W X) : Core w0 X f d N T bn bs vl fs vb :=
  h.step (fun k hT => hb.block k (h.mine k hT).2) hb.size (h.below.trans (hb.mono h.below.size))
theorem FsAt.step {w0 W X : World} {f : Nat} {d : Disk} {N : Nat} {T : Nat → Prop} (h : FsAt w0 f d N T W) (hb : Below W.heap.size W X) : FsAt w0 f d N T X := by
  obtain ⟨bn, bs, vl, fs, vb, c⟩ := h
  exact ⟨bn, bs, vl, fs, vb, c.step' hb⟩
theorem Core.le {w0 W : World} {f : Nat} {d : Disk} {N N' : Nat} {T : Nat → Prop} {bn bs : Nat} {vl : Value} {fs : List Value} {vb : Nat → Value} (h : Core w0 W f d N T bn bs vl fs vb) (hN : N ≤ N') : Core w0 W f d N' T bn bs vl fs vb :=
  { h with small := ⟨Nat.le_trans h.small.1 hN, fun x hx => Nat.le_trans (h.small.2 x hx) hN⟩ }
/-- the six cells -/
theorem Core.cells {w0 W : World} {f : Nat} {d : Disk} {N : Nat} {T : Nat → Prop} {bn bs : Nat} {vl : Value} {fs : List Value} {vb : Nat → Value} (h : Core w0 W f d N T bn bs vl fs vb) :
    W.cell? ⟨f, 0, none⟩ = some (.map (some bn)) ∧ W.cell? ⟨f, 1, none⟩ = some (.map (some bs)) ∧ W.cell? ⟨f, 2, none⟩ = some vl ∧ W.cell? ⟨f, 3, none⟩ = some (.int .i64 d.room) ∧ W.cell? ⟨f, 4, none⟩ = some (.int .i64 d.fuse) ∧ W.cell? ⟨f, 5, none⟩ = some (.bool d.down) := by
  simp [World.cell?, h.head]
theorem Core.frozen {w0 W : World} {f : Nat} {d : Disk} {N : Nat} {T : Nat → Prop} {bn bs : Nat} {vl : Value} {fs : List Value} {vb : Nat → Value} (h : Core w0 W f d N T bn bs vl fs vb) (o : Nat) : W.frozen? ⟨f, o, none⟩ = false := by
  simp [World.frozen?, h.head]
theorem ne_of_obj {W : World} {a b : Nat} {o o' : Obj} (h : W.heap[a]? = some o) (h' : W.heap[b]? = some o') (hne : o ≠ o') : a ≠ b := fun e => by subst e; rw [h] at h'; exact hne (Option.some.inj h')
theorem own_cells {W : World} {base n size : Nat} {e : TypeId} {v : Value} {xs : List Value} (h : W.ownsRow base e size v n xs) {g : Nat} (hg : v.ownBlock = some g) : ∃ cur, W.heap[g]? = some (.cells cur e (0, 0)) := by
  rcases h.2 with ⟨rfl, _⟩ | ⟨g', cap, cur, rfl, _, hh, _⟩
  · simp [Value.ownBlock] at hg
  · have : g' = g := by simpa [Value.ownBlock] using hg
    subst this
    exact ⟨cur, hh⟩
theorem map_obj {W : World} {b n : Nat} {E : DataW Unit} (h : W.ownsMap Try.prog 9 ptrElem b n E) : ∃ es c, W.heap[b]? = some (.map es c) := by
  obtain ⟨es, c, hb, _⟩ := h
  exact ⟨es, c, hb⟩
theorem Core.f_ne {w0 W : World} {f : Nat} {d : Disk} {N : Nat} {T : Nat → Prop} {bn bs : Nat} {vl : Value} {fs : List Value} {vb : Nat → Value} (h : Core w0 W f d N T bn bs vl fs vb) :
    bn ≠ f ∧ bs ≠ f ∧ (∀ g, vl.ownBlock = some g → g ≠ f) ∧ (∀ k, IsBox W k → k ≠ f) ∧ (∀ x, d.has x → x ≠ f ∧ ∀ g, (vb x).ownBlock = some g → g ≠ f) := by
  obtain ⟨es, c, h1⟩ := map_obj h.now
  obtain ⟨es', c', h2⟩ := map_obj h.sure
  refine ⟨ne_of_obj h1 h.head (by simp), ne_of_obj h2 h.head (by simp), fun g hg => ?_, fun k ⟨c, hk⟩ => ?_, fun x hx => ⟨ne_of_obj (h.file x hx).1 h.head (by simp), fun g hg => ?_⟩⟩
  · obtain ⟨cur, h3⟩ := own_cells h.row hg
    exact ne_of_obj h3 h.head (by simp)
  · rcases hk with hk | hk
    · exact ne_of_obj hk h.head (by simp)
    · exact ne_of_obj hk h.head (by simp)
  · obtain ⟨cur, h3⟩ := own_cells (h.file x hx).2.1 hg
    exact ne_of_obj h3 h.head (by simp)
/-- a field that is a number or a bool -/
theorem Core.scalar {w0 W X : World} {f : Nat} {d : Disk} {N : Nat} {T : Nat → Prop} {bn bs : Nat} {vl : Value} {fs : List Value} {vb : Nat → Value} (h : Core w0 W f d N T bn bs vl fs vb) (r fu : Int) (dn : Bool)
    (hhead : X.heap[f]? = some (.cells #[.map (some bn), .map (some bs), vl, .int .i64 r, .int .i64 fu, .bool dn] 64 (0, 0))) (hk : ∀ k, k ≠ f → X.heap[k]? = W.heap[k]?) (hs : X.heap.size = W.heap.size) (hb : Below w0.heap.size w0 X)
    (hr : 0 ≤ r ∧ r ≤ 16777216) (hf : -1 ≤ fu ∧ fu ≤ 9223372036854775807) : Core w0 X f { d with room := r, fuse := fu, down := dn } N T bn bs vl fs vb := by
  obtain ⟨n1, n2, n3, n4, n5⟩ := h.f_ne
  exact {
    head := hhead
    now := ownsMap_move h.now (hk bn n1)
    sure := ownsMap_move h.sure (hk bs n2)
    ne := h.ne
    row := own_move h.row (fun k hk' => hk k (n3 k hk'))
    clo := h.clo.move (fun k _ hB => hk k (n4 k hB)) (fun _ h => h)
    file := fun x hx => ⟨(hk x (n5 x hx).1).trans (h.file x hx).1, own_move (h.file x hx).2.1 (fun k hk' => hk k ((n5 x hx).2 k hk')), (h.file x hx).2.2⟩
    apart := h.apart
    inF := h.inF
    inN := h.inN
    inS := h.inS
    inL := h.inL
    inX := h.inX
    mine := fun k hT => by rw [hs]; exact h.mine k hT
    ok := h.ok
    room := hr
    fuse := hf
    small := h.small
    below := hb }
/-- what else has turned: T' is T and new blocks; nothing else has turned -/
def Turn (T : Nat → Prop) (W : World) (T' : Nat → Prop) (W' : World) : Prop := (∀ k, T' k → T k ∨ W.heap.size ≤ k) ∧ (∀ k, T k → T' k) ∧ (∀ k, k < W.heap.size → ¬ T k → W'.heap[k]? = W.heap[k]?) ∧ W.heap.size ≤ W'.heap.size
theorem Turn.refl (T : Nat → Prop) (W : World) : Turn T W T W := ⟨fun _ h => .inl h, fun _ h => h, fun _ _ _ => rfl, Nat.le_refl _⟩
theorem Turn.of_below {T : Nat → Prop} {W X : World} (hb : Below W.heap.size W X) : Turn T W T X := ⟨fun _ h => .inl h, fun _ h => h, fun k hk _ => hb.block k hk, hb.size⟩
theorem Turn.trans {T T1 T2 : Nat → Prop} {W W1 W2 : World} (h : Turn T W T1 W1) (h' : Turn T1 W1 T2 W2) : Turn T W T2 W2 :=
  ⟨fun k hk => (h'.1 k hk).elim (fun h1 => h.1 k h1) (fun h1 => .inr (Nat.le_trans h.2.2.2 h1)), fun k hk => h'.2.1 k (h.2.1 k hk),
   fun k hk hT => (h'.2.2.1 k (Nat.lt_of_lt_of_le hk h.2.2.2) (fun h1 => (h.1 k h1).elim hT (fun h2 => by omega))).trans (h.2.2.1 k hk hT), Nat.le_trans h.2.2.2 h'.2.2.2⟩
end Go.Proofs.Ytibmgcihpbofdaa.Fs
