/- fs: a change of the directory: what it leaves. fs: Create, Rename, Unlink: what they do. fs: Unlink, Rename: what they do. -/
import Derived.Test.YtibmgcihpbofdaaFsB1
import Derived.Maps.AppendAt
namespace Go.Proofs.Ytibmgcihpbofdaa.Fs
open Go.RowKit Go.Proofs.Ytibmgcihpbofdaa Go.Proofs.Ytibmgcihpbofdaa.Plain Go.Proofs.YtibmgcihpbofdaaW.PrintWords Go.Maps
set_option linter.unusedVariables false
set_option linter.unusedSimpArgs false
theorem Core.keep3 {w0 W : World} {f : Nat} {d : Disk} {N : Nat} {T : Nat → Prop} {bn bs : Nat} {vl : Value} {fs : List Value} {vb : Nat → Value} (h : Core w0 W f d N T bn bs vl fs vb) :
    (f ≠ bn ∧ some f ≠ vl.ownBlock) ∧ some bn ≠ vl.ownBlock ∧ (bs ≠ bn ∧ some bs ≠ vl.ownBlock ∧ bs ≠ f) ∧ (∀ k, IsBox W k → k ≠ bn ∧ some k ≠ vl.ownBlock ∧ k ≠ f) ∧
    (∀ x, d.has x → (x ≠ bn ∧ some x ≠ vl.ownBlock ∧ x ≠ f) ∧ ∀ g, (vb x).ownBlock = some g → g ≠ bn ∧ some g ≠ vl.ownBlock ∧ g ≠ f) := by
  obtain ⟨n1, n2, n3, n4, n5⟩ := h.f_ne
  obtain ⟨es, c, h1⟩ := map_obj h.now
  obtain ⟨es', c', h2⟩ := map_obj h.sure
  have hrow : ∀ k o, W.heap[k]? = some o → (∀ cur, o ≠ .cells cur 76 (0, 0)) → some k ≠ vl.ownBlock := by
    intro k o hk ho e
    obtain ⟨cur, h3⟩ := own_cells h.row e.symm
    rw [hk] at h3
    exact ho cur (Option.some.inj h3)
  refine ⟨⟨fun e => n1 e.symm, hrow f _ h.head (by simp)⟩, hrow bn _ h1 (by simp), ⟨fun e => h.ne e.symm, hrow bs _ h2 (by simp), n2⟩, fun k hB => ⟨?_, ?_, n4 k hB⟩, fun x hx => ⟨⟨?_, hrow x _ (h.file x hx).1 (by simp), (n5 x hx).1⟩, fun g hg => ⟨?_, ?_, (n5 x hx).2 g hg⟩⟩⟩
  · obtain ⟨c, hk | hk⟩ := hB <;> exact ne_of_obj hk h1 (by simp)
  · obtain ⟨c, hk | hk⟩ := hB <;> exact hrow k _ hk (by simp)
  · exact ne_of_obj (h.file x hx).1 h1 (by simp)
  · obtain ⟨cur, h3⟩ := own_cells (h.file x hx).2.1 hg
    exact ne_of_obj h3 h1 (by simp)
  · obtain ⟨cur, h3⟩ := own_cells (h.file x hx).2.1 hg
    exact hrow g _ h3 (by simp)
/-- what a new change brings along: a file that is not yet of the disk -/
def NewFile (W : World) (d : Disk) (T : Nat → Prop) (c : Chg) : Prop := ∀ n x, c = .create n x → W.heap[x]? = some (.cells #[.slice none 0 0, .int .i64 0] 69 (0, 0)) ∧ T x ∧ ¬ d.has x ∧ d.bytes x = [] ∧ d.firm x = 0
theorem NewFile.but {W W1 : World} {f : Nat} {d p : Disk} {T : Nat → Prop} {c : Chg} {cs : Array Value} (h : NewFile W d T c) (hf : W.heap[f]? = some (.cells cs 64 (0, 0))) (hb : But f W W1) (hh : ∀ x, p.has x ↔ d.has x) (hy : p.bytes = d.bytes ∧ p.firm = d.firm ∧ p.loose = d.loose) : NewFile W1 p T c := by
  intro n x e
  obtain ⟨h1, h2, h3, h4, h5⟩ := h n x e
  exact ⟨(hb.1 x (ne_of_obj h1 hf (by simp))).trans h1, h2, fun hx => h3 ((hh x).1 hx), by rw [hy.1]; exact h4, by rw [hy.2.1]; exact h5⟩
theorem has_snoc {d : Disk} {c : Chg} {x : Nat} (h : Disk.has { d with loose := d.loose ++ [c] } x) : d.has x ∨ ∃ n, c = .create n x := by
  rcases h with ⟨n, h⟩ | ⟨n, h⟩
  · exact .inl (.inl ⟨n, h⟩)
  · rcases List.mem_append.1 h with h | h
    · exact .inl (.inr ⟨n, h⟩)
    · exact .inr ⟨n, by simpa using (List.mem_singleton.1 h).symm⟩
def vbOf (vb : Nat → Value) : Chg → Nat → Value
  | .create _ x => setAt vb x (.slice none 0 0)
  | _ => vb
theorem Core.changed {w0 W W4 : World} {f : Nat} {d : Disk} {N : Nat} {T : Nat → Prop} {bn bs : Nat} {vl v1 : Value} {fs : List Value} {vb : Nat → Value} (h : Core w0 W f d N T bn bs vl fs vb) {c : Chg} {v : Value} (hc : CloIs W T c v) (hok : c.ok d.now) (hnew : NewFile W d T c)
    (hk : ∀ k, k < W.heap.size → k ≠ bn → some k ≠ vl.ownBlock → k ≠ f → W4.heap[k]? = W.heap[k]?) (hs : W.heap.size ≤ W4.heap.size) (hb : Below w0.heap.size w0 W4)
    (hhead : W4.heap[f]? = some (.cells #[.map (some bn), .map (some bs), v1, .int .i64 d.room, .int .i64 d.fuse, .bool d.down] 64 (0, 0)))
    (hmap : OwnDir W4 bn (c.app d.now)) (hrow : W4.ownsRow w0.heap.size 76 1 v1 (d.loose.length + 1) (fs ++ [v])) (hat : v1.ownBlock = vl.ownBlock ∨ ∃ b, v1.ownBlock = some b ∧ W.heap.size ≤ b) :
    Core w0 W4 f { d with loose := d.loose ++ [c] } (N + 1) (fun k => T k ∨ (W.heap.size ≤ k ∧ k < W4.heap.size)) bn bs v1 (fs ++ [v]) (vbOf vb c) ∧ Turn T W (fun k => T k ∨ (W.heap.size ≤ k ∧ k < W4.heap.size)) W4 := by
  obtain ⟨⟨f1, f2⟩, f3, ⟨s1, s2, s3⟩, hbox, hfile⟩ := h.keep3
  have hkT : ∀ k, T k → k ≠ bn → some k ≠ vl.ownBlock → k ≠ f → W4.heap[k]? = W.heap[k]? := fun k hT => hk k (h.mine k hT).2
  have hvb : ∀ x, d.has x → vbOf vb c x = vb x := by
    intro x hx
    cases c with
    | create n y =>
      have : x ≠ y := fun e => (hnew n y rfl).2.2.1 (e ▸ hx)
      exact setAt_other vb _ this
    | rename a b => rfl
    | unlink n => rfl
  refine ⟨{ head := hhead, now := ?_, sure := ownsMap_move h.sure (hkT bs h.inS s1 s2 s3), ne := h.ne, row := ?_, clo := ?_, file := ?_, apart := ?_, inF := .inl h.inF, inN := .inl h.inN, inS := .inl h.inS, inL := ?_, inX := ?_, mine := ?_, ok := ?_, room := h.room, fuse := h.fuse, small := ?_, below := hb }, ?_⟩
  · have e : Disk.now { d with loose := d.loose ++ [c] } = c.app d.now := apps_snoc _ _ _
    rw [e]
    exact hmap
  · have e : (d.loose ++ [c]).length = d.loose.length + 1 := by simp
    rw [e]
    exact hrow
  · exact (h.clo.move (fun k hT hB => hkT k hT (hbox k hB).1 (hbox k hB).2.1 (hbox k hB).2.2) (fun k hT => .inl hT)).snoc (hc.move (fun k hT hB => hkT k hT (hbox k hB).1 (hbox k hB).2.1 (hbox k hB).2.2) (fun k hT => .inl hT))
  · intro x hx
    rcases has_snoc hx with hx | ⟨n, rfl⟩
    · obtain ⟨⟨x1, x2, x3⟩, hg⟩ := hfile x hx
      obtain ⟨e1, e2, e3⟩ := h.file x hx
      rw [hvb x hx]
      exact ⟨(hkT x (h.inX x hx).1 x1 x2 x3).trans e1, own_move e2 (fun k hk' => hkT k ((h.inX x hx).2 k hk') (hg k hk').1 (hg k hk').2.1 (hg k hk').2.2), e3⟩
    · obtain ⟨e1, e2, e3, e4, e5⟩ := hnew n x rfl
      have hv : vbOf vb (.create n x) x = .slice none 0 0 := setAt_same _ _ _
      obtain ⟨es, cl, h1⟩ := map_obj h.now
      have x2 : some x ≠ vl.ownBlock := by
        intro e
        obtain ⟨cur, h3⟩ := own_cells h.row e.symm
        rw [e1] at h3
        simp at h3
      refine ⟨?_, ?_, ?_⟩
      · rw [hv, hkT x e2 (ne_of_obj e1 h1 (by simp)) x2 (ne_of_obj e1 h.head (by simp)), e1]
        simp [e5]
      · rw [hv]
        simp only [e4]
        exact own_nil _ _ _ _
      · simp only [e4, e5]
        exact Nat.le_refl _
  · intro x y hx hy g hgx hgy
    have key : ∀ z, Disk.has { d with loose := d.loose ++ [c] } z → ∀ g, (vbOf vb c z).ownBlock = some g → d.has z ∧ (vb z).ownBlock = some g := by
      intro z hz g hg
      rcases has_snoc hz with hz | ⟨n, rfl⟩
      · rw [hvb z hz] at hg; exact ⟨hz, hg⟩
      · have hv : vbOf vb (.create n z) z = .slice none 0 0 := setAt_same _ _ _
        rw [hv] at hg
        simp [Value.ownBlock] at hg
    obtain ⟨a1, a2⟩ := key x hx g hgx
    obtain ⟨b1, b2⟩ := key y hy g hgy
    exact h.apart x y a1 b1 g a2 b2
  · intro g hg
    rcases hat with e | ⟨b, e, hb'⟩
    · exact .inl (h.inL g (e ▸ hg))
    · rw [e] at hg
      cases hg
      exact .inr ⟨hb', own_lt hrow g e⟩
  · intro x hx
    rcases has_snoc hx with hx | ⟨n, rfl⟩
    · rw [hvb x hx]
      exact ⟨.inl (h.inX x hx).1, fun g hg => .inl ((h.inX x hx).2 g hg)⟩
    · have hv : vbOf vb (.create n x) x = .slice none 0 0 := setAt_same _ _ _
      rw [hv]
      exact ⟨.inl (hnew n x rfl).2.1, fun g hg => by simp [Value.ownBlock] at hg⟩
  · rintro k (hT | ⟨h1, h2⟩)
    · exact ⟨(h.mine k hT).1, Nat.lt_of_lt_of_le (h.mine k hT).2 hs⟩
    · exact ⟨Nat.le_trans h.below.size h1, h2⟩
  · exact oks_snoc.2 ⟨h.ok, hok⟩
  · refine ⟨by have := h.small.1; simp only [List.length_append, List.length_cons, List.length_nil]; omega, fun x hx => ?_⟩
    rcases has_snoc hx with hx | ⟨n, rfl⟩
    · exact Nat.le_succ_of_le (h.small.2 x hx)
    · have := (hnew n x rfl).2.2.2.1
      simp [this]
  · refine ⟨fun k hk' => hk'.elim .inl (fun h => .inr h.1), fun k hT => .inl hT, fun k hk' hT => hk k hk' (fun e => hT (e ▸ h.inN)) (fun e => hT (h.inL k e.symm)) (fun e => hT (e ▸ h.inF)), hs⟩
/-- a change's function value, called at a map -/
theorem applyFn {W : World} {T : Nat → Prop} {c : Chg} {v : Value} (hc : CloIs W T c v) {b : Nat} {d : Dir} (hd : OwnDir W b d) (hok : c.ok d) (hl : d.length ≤ 2000000) :
    ∃ fn cap, v = .func (.func fn) #[] cap ∧ Calls Try.prog fn (#[.map (some b)] ++ cap) W fun e W' => e = .returned (.tuple #[]) ∧ OwnDir W' b (c.app d) ∧ W.grownBy W' (some b) := by
  cases c with
  | create n x =>
    obtain ⟨a, a', rfl, h1, h2, _, _, h3⟩ := hc
    exact ⟨_, _, rfl, createFn h3 h1 h2 hd hl⟩
  | rename n m =>
    obtain ⟨a, a', rfl, h1, h2, _, _, h3, h4⟩ := hc
    have hok' : (get d n).isSome := hok
    obtain ⟨x, hx⟩ := Option.isSome_iff_exists.1 hok'
    refine ⟨_, _, rfl, (renameFn h3 h4 h1 h2 hd hx hl).mono ?_⟩
    rintro e W' ⟨h5, h6, h7⟩
    refine ⟨h5, ?_, h7⟩
    simp only [Chg.app, hx]
    exact h6
  | unlink n =>
    obtain ⟨a, rfl, h1, _, h3⟩ := hc
    exact ⟨_, _, rfl, unlinkFn h3 h1 hd⟩
theorem head_cells {W : World} {f : Nat} {a b c d e g : Value} (h : W.heap[f]? = some (.cells #[a, b, c, d, e, g] 64 (0, 0))) : W.cell? ⟨f, 2, none⟩ = some c ∧ W.frozen? ⟨f, 2, none⟩ = false := by
  simp [World.cell?, World.frozen?, h]
theorem changeHead {w0 W1 W2 W3 : World} {f : Nat} {p : Disk} {N : Nat} {T : Nat → Prop} {bn bs : Nat} {vl : Value} {fs : List Value} {vb : Nat → Value} (h : Core w0 W1 f p N T bn bs vl fs vb) (g2 : W1.grownBy W2 (some bn)) (o : Obj) (g3 : (W2.alloc o).grownBy W3 vl.ownBlock) :
    W2.heap[f]? = W1.heap[f]? ∧ W3.heap[f]? = W1.heap[f]? := by
  obtain ⟨⟨f1, f2⟩, f3, _⟩ := h.keep3
  have l1 := (h.mine f h.inF).2
  have e2 := g2.block f l1 (fun e => f1 (Option.some.inj e))
  have l2 := Nat.lt_of_lt_of_le l1 g2.size
  have e3 := g3.block f (by simp; omega) f2
  exact ⟨e2, e3.trans ((Below.heap_alloc W2 o f l2).trans e2)⟩
theorem changeRow {w0 W1 W2 : World} {f : Nat} {p : Disk} {N : Nat} {T : Nat → Prop} {bn bs : Nat} {vl : Value} {fs : List Value} {vb : Nat → Value} (h : Core w0 W1 f p N T bn bs vl fs vb) (g2 : W1.grownBy W2 (some bn)) (o : Obj) : (W2.alloc o).ownsRow w0.heap.size 76 1 vl p.loose.length fs := by
  obtain ⟨⟨f1, f2⟩, f3, _⟩ := h.keep3
  refine World.ownsRow.alloc ?_ o
  exact own_move h.row (fun k hk => g2.block k (own_lt h.row k hk) (fun e => f3 (by rw [hk, ← e])))
theorem changeEnd {w0 W1 W2 W3 : World} {f : Nat} {p : Disk} {N : Nat} {T : Nat → Prop} {bn bs : Nat} {vl v1 : Value} {fs : List Value} {vb : Nat → Value} (h : Core w0 W1 f p N T bn bs vl fs vb) {c : Chg} {v : Value} (hc : CloIs W1 T c v) (hok : c.ok p.now) (hnew : NewFile W1 p T c)
    (hd : OwnDir W2 bn (c.app p.now)) (g2 : W1.grownBy W2 (some bn)) (o : Obj) (h3 : W3.ownsRow w0.heap.size 76 1 v1 (p.loose.length + 1) (fs ++ [v])) (g3 : (W2.alloc o).grownBy W3 vl.ownBlock) (hat : v1.ownBlock = vl.ownBlock ∨ v1.ownBlock = some (W2.alloc o).heap.size) :
    ∃ T', FsAt w0 f { p with loose := p.loose ++ [c] } (N + 1) T' (W3.setCell ⟨f, 2, none⟩ v1) ∧ Turn T W1 T' (W3.setCell ⟨f, 2, none⟩ v1) := by
  obtain ⟨⟨f1, f2⟩, f3, _⟩ := h.keep3
  have l1 := (h.mine f h.inF).2
  have hh := (changeHead h g2 o g3).2
  have hs3 : W1.heap.size ≤ W3.heap.size := by have := g2.size; have := g3.size; simp at this; omega
  have vne : v1.ownBlock ≠ some f := by
    rcases hat with e | e
    · rw [e]; exact fun e => f2 e.symm
    · rw [e]; intro e; cases e; have := g2.size; simp at l1; omega
  have hb3 : Below w0.heap.size w0 W3 := (((h.below.grown g2 h.below.size (fun k hk => by cases hk; exact (h.mine bn h.inN).1)).alloc (by have := h.below.size; have := g2.size; omega) o).grown g3 (by have := h.below.size; have := g2.size; simp; omega) (fun k hk => own_base h.row k hk))
  have q1 : ∀ k, k < W1.heap.size → k ≠ bn → some k ≠ vl.ownBlock → k ≠ f → (W3.setCell ⟨f, 2, none⟩ v1).heap[k]? = W1.heap[k]? := by
    intro k hk k1 k2 k3
    rw [Below.heap_setCell W3 _ _ k k3, g3.block k (by have := g2.size; simp; omega) k2, Below.heap_alloc W2 o k (Nat.lt_of_lt_of_le hk g2.size)]
    exact g2.block k hk (fun e => k1 (Option.some.inj e))
  have q2 : (W3.setCell ⟨f, 2, none⟩ v1).heap[f]? = some (.cells #[.map (some bn), .map (some bs), v1, .int .i64 p.room, .int .i64 p.fuse, .bool p.down] 64 (0, 0)) := by
    simp [World.setCell, Array.getElem?_modify, hh, h.head]
  have q3 : OwnDir (W3.setCell ⟨f, 2, none⟩ v1) bn (c.app p.now) := by
    refine ownsMap_move hd ?_
    have lb := (h.mine bn h.inN).2
    rw [Below.heap_setCell W3 _ _ bn (fun e => f1 e.symm), g3.block bn (by have := g2.size; simp; omega) f3, Below.heap_alloc W2 o bn (Nat.lt_of_lt_of_le lb g2.size)]
  have q4 := own_move h3 (w1 := W3.setCell ⟨f, 2, none⟩ v1) (fun k hk => Below.heap_setCell W3 _ _ k (fun e => vne (by rw [hk, e])))
  have q5 : v1.ownBlock = vl.ownBlock ∨ ∃ b, v1.ownBlock = some b ∧ W1.heap.size ≤ b := by
    rcases hat with e | e
    · exact .inl e
    · exact .inr ⟨_, e, by have := g2.size; simp; omega⟩
  obtain ⟨h4, h5⟩ := h.changed hc hok hnew q1 (by simpa [World.setCell] using hs3) (hb3.setCell (h.mine f h.inF).1 _) q2 q3 q4 q5
  exact ⟨_, ⟨_, _, _, _, _, h4⟩, h5⟩
set_option maxHeartbeats 1000000 in
set_option maxRecDepth 100000 in
theorem change {w0 W : World} {f : Nat} {d : Disk} {N : Nat} {T : Nat → Prop} {bn bs : Nat} {vl : Value} {fs : List Value} {vb : Nat → Value} (h : Core w0 W f d N T bn bs vl fs vb) (hN : N ≤ 1000000) {c : Chg} {v : Value} (hc : CloIs W T c v) (hok : c.ok d.now) (hnew : NewFile W d T c) :
    Calls Try.prog 34 #[.pointer (some ⟨f, 0, none⟩), v] W fun e W' => e = .returned (.int .i64 (d.change c).1) ∧ ∃ T', FsAt w0 f (d.change c).2 (N + 1) T' W' ∧ Turn T W T' W' := by
  have X := power h
  by_cases hp : d.power.1 = 0
  · obtain ⟨p, hp2⟩ : ∃ p, d.power.2 = p := ⟨_, rfl⟩
    rw [hp, hp2] at X
    have hnow : p.now = d.now := by
      rw [← hp2]
      unfold Disk.power
      split
      · rfl
      · split <;> rfl
    have hl : p.now.length ≤ 2000000 := by
      have h1 := h.small.1
      have h2 := length_apps_le d.loose d.sure
      rw [hnow]
      unfold Disk.now
      omega
    have HAP : ∀ X : World, Core w0 X f p N T bn bs vl fs vb → But f W X → CloIs X T c v := fun X hX hB => hc.move (fun k _ hBx => hB.1 k (h.f_ne.2.2.2.1 k hBx)) (fun _ h => h)
    rw [← hnow] at hok
    have HNEW := Aside0.mk hnew
    have HHD := Aside0.mk h.head
    have HNOW := Aside0.mk hnow
    have HP2 := Aside0.mk hp2
    have HP := Aside0.mk hp
    have HOK := Aside0.mk hok
    have HHAS := Aside0.mk (show ∀ x, p.has x ↔ d.has x from fun x => by rw [← hp2]; unfold Disk.power; split; exact Iff.rfl; split <;> exact Iff.rfl)
    have HBY := Aside0.mk (show p.bytes = d.bytes ∧ p.firm = d.firm ∧ p.loose = d.loose by rw [← hp2]; unfold Disk.power; split; exact ⟨rfl, rfl, rfl⟩; split <;> exact ⟨rfl, rfl, rfl⟩)
    have HAP' := Aside0.mk HAP
    obtain ⟨i0, hi', hzz⟩ := Option.map_eq_some_iff.1 infoChange
    simp only [Prod.mk.injEq] at hzz
    have hi := Aside0.mk hi'
    clear hi'
    have hz0 := Aside0.mk hzz.1
    have hz1 := Aside0.mk hzz.2.1
    have hz2 := Aside0.mk hzz.2.2
    have HM := Aside0.mk (show p.loose.length + 1 ≤ maxLen ∧ (p.loose.length + 1) * 8 ≤ 140737488355328 by have h1 := h.small.1; have h2 : p.loose = d.loose := HBY.out.2.2; rw [h2]; simp only [maxLen]; omega)
    clear hzz
    have HL := Aside0.mk hl
    clear h hnew hnow hp2 hp HAP hl
    cases c with
    | create n x =>
      obtain ⟨a, a', rfl, h1, h2, _, _, h3⟩ := hc
      have KEY := Aside0.mk (fun X (hX : Core w0 X f p N T bn bs vl fs vb) (hB : But f W X) => (show Calls Try.prog 35 #[.map (some bn), .pointer (some ⟨a, 0, none⟩), .pointer (some ⟨a', 0, none⟩)] X fun e W' => e = .returned (.tuple #[]) ∧ OwnDir W' bn (Chg.app p.now (.create n x)) ∧ X.grownBy W' (some bn) by
        obtain ⟨fn, cap, e, hcall⟩ := applyFn (HAP'.out X hX hB) hX.now HOK.out HL.out
        cases e
        exact hcall))
      clear h1 h2 h3
      go_enter Try.func34, Try.ntmps34
      go_wp2_with (first
        | (go_at_call 37; refine X.mono ?_; rintro e W1 ⟨rfl, hC1, hT1⟩; clear X; obtain ⟨c0, c1, c2, c3, c4, c5⟩ := hC1.cells; have HC1 := Aside0.mk hC1; have HT1 := Aside0.mk hT1; clear hC1 hT1)
        | (go_at_call 35; refine (KEY.out W1 HC1.out HT1.out).mono ?_; rintro e W2 ⟨rfl, hD2, hG2⟩; clear c0 c1 c2 c3 c4 c5; obtain ⟨k2, k3⟩ := head_cells ((changeHead HC1.out hG2 (.cells #[] 0) (World.grownBy.refl _ _)).1.trans HC1.out.head); have HD2 := Aside0.mk hD2; have HG2 := Aside0.mk hG2; clear hD2 hG2)
        | (at_builtin; refine wpList_append_own_at _ rfl _ _ 62 rfl w0.heap.size 76 i0 .nilFunc 1 8 Try.underlying62 hi.out hz0.out hz1.out hz2.out rfl (by decide) vl p.loose.length fs rfl (changeRow HC1.out HG2.out _) ⟨W2.heap.size, 0, none⟩ 1 1 [_] rfl rfl (cell_one_new _ _ _) (by intro u hu; simp only [List.mem_singleton] at hu; subst hu; rfl) HM.out.1 HM.out.2 (by have := HC1.out.below.size; have := HG2.out.size; simp; omega) ?_; intro v1 W3 h3 g3 _ hat; obtain ⟨A1, cp1, hv1⟩ := own_slice h3; subst hv1; clear k2 k3; obtain ⟨k2, k3⟩ := head_cells ((changeHead HC1.out HG2.out _ g3).2.trans HC1.out.head); have H3 := Aside0.mk h3; have G3 := Aside0.mk g3; have HAT := Aside0.mk hat; clear h3 g3 hat))
      go_ret
      obtain ⟨T', q1, q2⟩ := changeEnd HC1.out (HAP'.out _ HC1.out HT1.out) HOK.out (HNEW.out.but HHD.out HT1.out HHAS.out HBY.out) HD2.out HG2.out _ H3.out G3.out HAT.out
      have e : d.change (.create n x) = (0, { p with loose := p.loose ++ [.create n x] }) := by
        rw [Disk.change, if_pos HP.out, HP2.out, HBY.out.2.2]
      rw [e]
      exact ⟨rfl, T', q1, (HT1.out.turn HC1.out.inF).trans q2⟩
    | rename n m =>
      obtain ⟨a, a', rfl, h1, h2, _, _, h3, h4⟩ := hc
      have KEY := Aside0.mk (fun X (hX : Core w0 X f p N T bn bs vl fs vb) (hB : But f W X) => (show Calls Try.prog 41 #[.map (some bn), .pointer (some ⟨a, 0, none⟩), .pointer (some ⟨a', 0, none⟩)] X fun e W' => e = .returned (.tuple #[]) ∧ OwnDir W' bn (Chg.app p.now (.rename n m)) ∧ X.grownBy W' (some bn) by
        obtain ⟨fn, cap, e, hcall⟩ := applyFn (HAP'.out X hX hB) hX.now HOK.out HL.out
        cases e
        exact hcall))
      clear h1 h2 h3 h4
      go_enter Try.func34, Try.ntmps34
      go_wp2_with (first
        | (go_at_call 37; refine X.mono ?_; rintro e W1 ⟨rfl, hC1, hT1⟩; clear X; obtain ⟨c0, c1, c2, c3, c4, c5⟩ := hC1.cells; have HC1 := Aside0.mk hC1; have HT1 := Aside0.mk hT1; clear hC1 hT1)
        | (go_at_call 41; refine (KEY.out W1 HC1.out HT1.out).mono ?_; rintro e W2 ⟨rfl, hD2, hG2⟩; clear c0 c1 c2 c3 c4 c5; obtain ⟨k2, k3⟩ := head_cells ((changeHead HC1.out hG2 (.cells #[] 0) (World.grownBy.refl _ _)).1.trans HC1.out.head); have HD2 := Aside0.mk hD2; have HG2 := Aside0.mk hG2; clear hD2 hG2)
        | (at_builtin; refine wpList_append_own_at _ rfl _ _ 62 rfl w0.heap.size 76 i0 .nilFunc 1 8 Try.underlying62 hi.out hz0.out hz1.out hz2.out rfl (by decide) vl p.loose.length fs rfl (changeRow HC1.out HG2.out _) ⟨W2.heap.size, 0, none⟩ 1 1 [_] rfl rfl (cell_one_new _ _ _) (by intro u hu; simp only [List.mem_singleton] at hu; subst hu; rfl) HM.out.1 HM.out.2 (by have := HC1.out.below.size; have := HG2.out.size; simp; omega) ?_; intro v1 W3 h3 g3 _ hat; obtain ⟨A1, cp1, hv1⟩ := own_slice h3; subst hv1; clear k2 k3; obtain ⟨k2, k3⟩ := head_cells ((changeHead HC1.out HG2.out _ g3).2.trans HC1.out.head); have H3 := Aside0.mk h3; have G3 := Aside0.mk g3; have HAT := Aside0.mk hat; clear h3 g3 hat))
      go_ret
      obtain ⟨T', q1, q2⟩ := changeEnd HC1.out (HAP'.out _ HC1.out HT1.out) HOK.out (HNEW.out.but HHD.out HT1.out HHAS.out HBY.out) HD2.out HG2.out _ H3.out G3.out HAT.out
      have e : d.change (.rename n m) = (0, { p with loose := p.loose ++ [.rename n m] }) := by
        rw [Disk.change, if_pos HP.out, HP2.out, HBY.out.2.2]
      rw [e]
      exact ⟨rfl, T', q1, (HT1.out.turn HC1.out.inF).trans q2⟩
    | unlink n =>
      obtain ⟨a, rfl, h1, _, h3⟩ := hc
      have KEY := Aside0.mk (fun X (hX : Core w0 X f p N T bn bs vl fs vb) (hB : But f W X) => (show Calls Try.prog 40 #[.map (some bn), .pointer (some ⟨a, 0, none⟩)] X fun e W' => e = .returned (.tuple #[]) ∧ OwnDir W' bn (Chg.app p.now (.unlink n)) ∧ X.grownBy W' (some bn) by
        obtain ⟨fn, cap, e, hcall⟩ := applyFn (HAP'.out X hX hB) hX.now HOK.out HL.out
        cases e
        exact hcall))
      clear h1 h3
      go_enter Try.func34, Try.ntmps34
      go_wp2_with (first
        | (go_at_call 37; refine X.mono ?_; rintro e W1 ⟨rfl, hC1, hT1⟩; clear X; obtain ⟨c0, c1, c2, c3, c4, c5⟩ := hC1.cells; have HC1 := Aside0.mk hC1; have HT1 := Aside0.mk hT1; clear hC1 hT1)
        | (go_at_call 40; refine (KEY.out W1 HC1.out HT1.out).mono ?_; rintro e W2 ⟨rfl, hD2, hG2⟩; clear c0 c1 c2 c3 c4 c5; obtain ⟨k2, k3⟩ := head_cells ((changeHead HC1.out hG2 (.cells #[] 0) (World.grownBy.refl _ _)).1.trans HC1.out.head); have HD2 := Aside0.mk hD2; have HG2 := Aside0.mk hG2; clear hD2 hG2)
        | (at_builtin; refine wpList_append_own_at _ rfl _ _ 62 rfl w0.heap.size 76 i0 .nilFunc 1 8 Try.underlying62 hi.out hz0.out hz1.out hz2.out rfl (by decide) vl p.loose.length fs rfl (changeRow HC1.out HG2.out _) ⟨W2.heap.size, 0, none⟩ 1 1 [_] rfl rfl (cell_one_new _ _ _) (by intro u hu; simp only [List.mem_singleton] at hu; subst hu; rfl) HM.out.1 HM.out.2 (by have := HC1.out.below.size; have := HG2.out.size; simp; omega) ?_; intro v1 W3 h3 g3 _ hat; obtain ⟨A1, cp1, hv1⟩ := own_slice h3; subst hv1; clear k2 k3; obtain ⟨k2, k3⟩ := head_cells ((changeHead HC1.out HG2.out _ g3).2.trans HC1.out.head); have H3 := Aside0.mk h3; have G3 := Aside0.mk g3; have HAT := Aside0.mk hat; clear h3 g3 hat))
      go_ret
      obtain ⟨T', q1, q2⟩ := changeEnd HC1.out (HAP'.out _ HC1.out HT1.out) HOK.out (HNEW.out.but HHD.out HT1.out HHAS.out HBY.out) HD2.out HG2.out _ H3.out G3.out HAT.out
      have e : d.change (.unlink n) = (0, { p with loose := p.loose ++ [.unlink n] }) := by
        rw [Disk.change, if_pos HP.out, HP2.out, HBY.out.2.2]
      rw [e]
      exact ⟨rfl, T', q1, (HT1.out.turn HC1.out.inF).trans q2⟩
  · have e : d.change c = d.power := by rw [Disk.change, if_neg hp]
    rw [e]
    obtain ⟨r, hr⟩ : ∃ r, d.power.1 = r := ⟨_, rfl⟩
    obtain ⟨p, hp2⟩ : ∃ p, d.power.2 = p := ⟨_, rfl⟩
    rw [hr] at X hp ⊢
    rw [hp2] at X ⊢
    have hp' : (r == 0) = false := by simpa using hp
    have hp'' : (r != 0) = true := by simpa using hp
    clear hr hp2 h hc hok hnew e
    go_enter Try.func34, Try.ntmps34
    go_wp2_with (go_at_call 37; refine X.mono ?_; rintro e W1 ⟨rfl, hC1, hT1⟩; clear X)
    go_ret
    exact ⟨rfl, T, ⟨_, _, _, _, _, hC1.le (Nat.le_succ N)⟩, hT1.turn hC1.inF⟩
end Go.Proofs.Ytibmgcihpbofdaa.Fs
namespace Go.Proofs.Ytibmgcihpbofdaa.Fs
open Go.RowKit Go.Proofs.Ytibmgcihpbofdaa Go.Proofs.Ytibmgcihpbofdaa.Plain Go.Proofs.YtibmgcihpbofdaaW.PrintWords Go.Maps
set_option linter.unusedVariables false
set_option linter.unusedSimpArgs false
theorem Core.fresh {w0 W : World} {f : Nat} {d : Disk} {N : Nat} {T : Nat → Prop} {bn bs : Nat} {vl : Value} {fs : List Value} {vb : Nat → Value} (h : Core w0 W f d N T bn bs vl fs vb) {x : Nat} (hx : W.heap.size ≤ x) : ¬ d.has x := fun hh => by
  have := (h.mine x (h.inX x hh).1).2
  omega
def Wide (T : Nat → Prop) (W X : World) : Nat → Prop := fun k => T k ∨ (W.heap.size ≤ k ∧ k < X.heap.size)
theorem Core.wide {w0 W X : World} {f : Nat} {d : Disk} {N : Nat} {T : Nat → Prop} {bn bs : Nat} {vl : Value} {fs : List Value} {vb : Nat → Value} (h : Core w0 W f d N T bn bs vl fs vb) (hb : Below W.heap.size W X) : Core w0 X f d N (Wide T W X) bn bs vl fs vb := by
  have c := h.step' hb
  exact { c with
    clo := c.clo.move (fun _ _ _ => rfl) (fun k hk => .inl hk)
    inF := .inl c.inF
    inN := .inl c.inN
    inS := .inl c.inS
    inL := fun g hg => .inl (c.inL g hg)
    inX := fun x hx => ⟨.inl (c.inX x hx).1, fun g hg => .inl ((c.inX x hx).2 g hg)⟩
    mine := fun k hk => hk.elim (fun hT => c.mine k hT) (fun hk => ⟨Nat.le_trans h.below.size hk.1, hk.2⟩) }
theorem Turn.wide {T : Nat → Prop} {W X : World} (hb : Below W.heap.size W X) : Turn T W (Wide T W X) X := ⟨fun k hk => hk.elim .inl (fun h => .inr h.1), fun k hk => .inl hk, fun k hk _ => hb.block k hk, hb.size⟩
/-- a file's bytes that is none of the disk's say nothing -/
theorem Core.other {w0 W : World} {f : Nat} {d : Disk} {N : Nat} {T : Nat → Prop} {bn bs : Nat} {vl : Value} {fs : List Value} {vb : Nat → Value} (h : Core w0 W f d N T bn bs vl fs vb) {x : Nat} (hx : ¬ d.has x) (b : List UInt8) (m : Nat) : Core w0 W f { d with bytes := setAt d.bytes x b, firm := setAt d.firm x m } N T bn bs vl fs vb := by
  have e : ∀ y, d.has y → setAt d.bytes x b y = d.bytes y ∧ setAt d.firm x m y = d.firm y := fun y hy => by
    have : y ≠ x := fun e => hx (e ▸ hy)
    exact ⟨setAt_other _ _ this, setAt_other _ _ this⟩
  exact { head := h.head, now := h.now, sure := h.sure, ne := h.ne, row := h.row, clo := h.clo, apart := h.apart, inF := h.inF, inN := h.inN, inS := h.inS, inL := h.inL, inX := h.inX, mine := h.mine, ok := h.ok, room := h.room, fuse := h.fuse, below := h.below
          file := fun y hy => by have hy' : d.has y := hy; have := h.file y hy'; simp only [(e y hy').1, (e y hy').2]; exact this
          small := ⟨h.small.1, fun y hy => by have hy' : d.has y := hy; have := h.small.2 y hy'; simp only [(e y hy').1]; exact this⟩ }
theorem names1 {W : World} (n : Nm) (hn : n.length ≤ 140737488351232) (c : Array Value) (t : Nat) (fr : Nat × Nat) (hc : c = #[.string (S n)]) : NamesAt (W.alloc (.cells c t fr)) (some ⟨W.heap.size, 0, none⟩) [n] := by
  subst hc
  intro j hj
  obtain rfl : j = 0 := by simpa using hj
  refine ⟨_, rfl, ?_, hn⟩
  have e : (W.alloc (.cells #[.string (S n)] t fr)).heap[W.heap.size]? = some (.cells #[.string (S n)] t fr) := heap_alloc_new W _
  show World.cell? _ (Addr.add ⟨W.heap.size, 0, none⟩ 0) = _
  rw [show Addr.add ⟨W.heap.size, 0, none⟩ 0 = ⟨W.heap.size, 0, none⟩ from rfl]
  simp only [World.cell?, e]
  rfl
theorem ready_right {d : Disk} {ns : List Nm} (h : d.ready ns = 0) {n : Nm} (hn : n ∈ ns) : rightB n = true := by
  unfold Disk.ready at h
  split at h
  · omega
  · rename_i h1
    cases hr : rightB n
    · exact absurd (List.any_eq_true.2 ⟨n, hn, by rw [hr]; rfl⟩) h1
    · rfl
theorem ready_len {d : Disk} {ns : List Nm} (h : d.ready ns = 0) {n : Nm} (hn : n ∈ ns) : n.length ≤ 80 := by
  have := ready_right h hn
  rw [rightB_eq, Bool.and_eq_true] at this
  have := of_decide_eq_true this.2
  exact this.2
set_option maxHeartbeats 1000000 in
set_option maxRecDepth 100000 in
theorem create {w0 W : World} {f : Nat} {d : Disk} {N : Nat} {T : Nat → Prop} (h : FsAt w0 f d N T W) (hN : N ≤ 1000000) (n : Nm) (hn : n.length ≤ 140737488351232) :
    Calls Try.prog 13 #[.pointer (some ⟨f, 0, none⟩), .string (S n)] W fun e W' => ∃ x, ¬ d.has x ∧ e = .returned (.int .i64 (d.create x n).1) ∧ ∃ T', FsAt w0 f (d.create x n).2 (N + 1) T' W' ∧ Turn T W T' W' := by
  have hW1 : Below W.heap.size W (W.alloc (.cells #[.string (S n)] 9)) := below_alloc (Below.refl _ _) _
  have hW2 := below_alloc hW1 (.cells #[.string (S n)] 9)
  have X := ready (h.step hW2) (some ⟨W.heap.size + 1, 0, none⟩) 1 [n] (by have := names1 (W := W.alloc (.cells #[.string (S n)] 9)) n hn #[.string (S n)] 9 (0, 0) rfl; simpa using this) (by simp) (n := 1) rfl
  obtain ⟨bn, bs, vl, fs, vb, c0⟩ := h
  obtain ⟨r, hr⟩ : ∃ r, d.ready [n] = r := ⟨_, rfl⟩
  rw [hr] at X
  have HR := Aside0.mk hr
  have HC0 := Aside0.mk c0
  have HW2 := Aside0.mk hW2
  have HL := Aside0.mk (lookOk c0.now n hn)
  clear hr hW1 hW2 c0
  by_cases h0 : r = 0
  · subst h0
    obtain ⟨g, hg⟩ : ∃ g, get d.now n = g := ⟨_, rfl⟩
    have HG := Aside0.mk hg
    rw [hg] at HL
    clear hg
    have HLEN := Aside0.mk (fun (X : World) (hX : X.heap[bn]? = W.heap[bn]?) => ownsMap_move HC0.out.now hX)
    cases g with
    | some y =>
      go_enter Try.func13, Try.ntmps13
      go_wp2_with (go_at_call 33; refine X.mono ?_; rintro e W1 ⟨rfl, hB⟩; clear X; have HB := Aside0.mk (HW2.out.trans (hB.mono HW2.out.size)); have hc1 := (HC0.out.step' HB.out).cells.1; have hlk := fun q => HL.out (W1.drewN q) (HB.out.block bn (HC0.out.mine bn HC0.out.inN).2); have hbx : W1.cell? ⟨W.heap.size, 0, none⟩ = some (.string (S n)) := (hB.cell (p := ⟨W.heap.size, 0, none⟩) (by simp; omega)).trans (by simp); clear hB)
      go_quiet (fail)
      go_wp2
      go_ret
      have e : d.create W.heap.size n = (5, d) := by rw [Disk.create, HR.out, if_neg (by omega), HG.out, if_pos (by simp)]
      have hB' := pw_below_drewN HB.out nq
      refine ⟨W.heap.size, HC0.out.fresh (Nat.le_refl _), by rw [e]; rfl, T, ?_, Turn.of_below hB'⟩
      rw [e]
      exact ⟨_, _, _, _, _, (HC0.out.step' hB').le (Nat.le_succ N)⟩
    | none =>
      obtain ⟨m, hm⟩ : ∃ m, d.now.length = m := ⟨_, rfl⟩
      have HM := Aside0.mk hm
      by_cases h256 : m ≥ 256
      · go_enter Try.func13, Try.ntmps13
        clear hm
        go_wp2_with (go_at_call 33; refine X.mono ?_; rintro e W1 ⟨rfl, hB⟩; clear X; have HB := Aside0.mk (HW2.out.trans (hB.mono HW2.out.size)); have hc1 := (HC0.out.step' HB.out).cells.1; have hlk := fun q => HL.out (W1.drewN q) (HB.out.block bn (HC0.out.mine bn HC0.out.inN).2); have hbx : W1.cell? ⟨W.heap.size, 0, none⟩ = some (.string (S n)) := (hB.cell (p := ⟨W.heap.size, 0, none⟩) (by simp; omega)).trans (by simp); have hbb : W1.heap[W.heap.size]? = some (.cells #[.string (S n)] 9 (0, 0)) := (hB.block W.heap.size (by simp; omega)).trans ((Below.heap_alloc _ _ _ (by simp)).trans (heap_alloc_new W _)); have HBB := Aside0.mk hbb; clear hB hbb)
        go_quiet (fail)
        go_wp2_with (at_len; refine wpList_len_own _ rfl _ 61 rfl 9 66 Try.underlying61 ptrElem bn d.now.length (D d.now) rfl (HLEN.out _ (HB.out.block bn (HC0.out.mine bn HC0.out.inN).2)) ?_; rw [D_size, HM.out])
        go_ret
        have e : d.create W.heap.size n = (3, d) := by rw [Disk.create, HR.out, if_neg (by omega), HG.out, if_neg (by simp), HM.out, if_pos h256]
        have hB' := pw_below_drewN HB.out nq
        refine ⟨W.heap.size, HC0.out.fresh (Nat.le_refl _), by rw [e]; rfl, T, ?_, Turn.of_below hB'⟩
        rw [e]
        exact ⟨_, _, _, _, _, (HC0.out.step' hB').le (Nat.le_succ N)⟩
      · go_enter Try.func13, Try.ntmps13
        clear hm
        go_wp2_with (go_at_call 33; refine X.mono ?_; rintro e W1 ⟨rfl, hB⟩; clear X; have HB := Aside0.mk (HW2.out.trans (hB.mono HW2.out.size)); have hc1 := (HC0.out.step' HB.out).cells.1; have hlk := fun q => HL.out (W1.drewN q) (HB.out.block bn (HC0.out.mine bn HC0.out.inN).2); have hbx : W1.cell? ⟨W.heap.size, 0, none⟩ = some (.string (S n)) := (hB.cell (p := ⟨W.heap.size, 0, none⟩) (by simp; omega)).trans (by simp); have hbb : W1.heap[W.heap.size]? = some (.cells #[.string (S n)] 9 (0, 0)) := (hB.block W.heap.size (by simp; omega)).trans ((Below.heap_alloc _ _ _ (by simp)).trans (heap_alloc_new W _)); have HBB := Aside0.mk hbb; clear hB hbb)
        go_quiet (fail)
        go_wp2_with (at_len; refine wpList_len_own _ rfl _ 61 rfl 9 66 Try.underlying61 ptrElem bn d.now.length (D d.now) rfl (HLEN.out _ (HB.out.block bn (HC0.out.mine bn HC0.out.inN).2)) ?_; rw [D_size, HM.out])
        have hB5 : Below W.heap.size W (((W1.drewN nq).alloc (.cells #[.slice none 0 0, .int .i64 0] 69)).alloc (.cells #[.pointer (some ⟨W1.heap.size, 0, none⟩)] 66)) := below_alloc (below_alloc (pw_below_drewN HB.out nq) _) _
        have hx5 : (((W1.drewN nq).alloc (.cells #[.slice none 0 0, .int .i64 0] 69)).alloc (.cells #[.pointer (some ⟨W1.heap.size, 0, none⟩)] 66)).heap[W1.heap.size]? = some (.cells #[.slice none 0 0, .int .i64 0] 69 (0, 0)) := (Below.heap_alloc _ _ _ (by simp [World.drewN])).trans (heap_alloc_new (W1.drewN nq) _)
        have hp5 : (((W1.drewN nq).alloc (.cells #[.slice none 0 0, .int .i64 0] 69)).alloc (.cells #[.pointer (some ⟨W1.heap.size, 0, none⟩)] 66)).heap[W1.heap.size + 1]? = some (.cells #[.pointer (some ⟨W1.heap.size, 0, none⟩)] 66 (0, 0)) := by
          have := heap_alloc_new ((W1.drewN nq).alloc (.cells #[.slice none 0 0, .int .i64 0] 69)) (.cells #[.pointer (some ⟨W1.heap.size, 0, none⟩)] 66)
          simpa [World.drewN] using this
        have hs1 : W.heap.size < W1.heap.size := Nat.lt_of_lt_of_le (by simp) (show (W.heap.size + 1) ≤ W1.heap.size by have := (Array.getElem?_eq_some_iff.1 HBB.out).1; omega)
        have hn5 : (((W1.drewN nq).alloc (.cells #[.slice none 0 0, .int .i64 0] 69)).alloc (.cells #[.pointer (some ⟨W1.heap.size, 0, none⟩)] 66)).heap[W.heap.size]? = some (.cells #[.string (S n)] 9 (0, 0)) := (Below.heap_alloc _ _ _ (by simp [World.drewN]; omega)).trans ((Below.heap_alloc _ _ _ (by simp [World.drewN]; omega)).trans HBB.out)
        have hs5 : (((W1.drewN nq).alloc (.cells #[.slice none 0 0, .int .i64 0] 69)).alloc (.cells #[.pointer (some ⟨W1.heap.size, 0, none⟩)] 66)).heap.size = W1.heap.size + 2 := by simp [World.drewN]
        obtain ⟨W5, hW5⟩ : ∃ W5, (((W1.drewN nq).alloc (.cells #[.slice none 0 0, .int .i64 0] 69)).alloc (.cells #[.pointer (some ⟨W1.heap.size, 0, none⟩)] 66)) = W5 := ⟨_, rfl⟩
        rw [hW5] at hB5 hx5 hp5 hn5 hs5
        rw [hW5]
        clear hW5
        have hnx := HC0.out.fresh (x := W1.heap.size) HB.out.size
        have hlen : n.length ≤ 80 := ready_len HR.out (by simp)
        have hW : ∀ k, W.heap.size ≤ k → k < W1.heap.size + 2 → Wide T W W5 k := fun k h1 h2 => .inr ⟨h1, by omega⟩
        have X3 := change ((HC0.out.wide hB5).other hnx [] 0) hN (c := .create n W1.heap.size) (v := .func (.func 35) #[] #[.pointer (some ⟨W1.heap.size + 1, 0, none⟩), .pointer (some ⟨W.heap.size, 0, none⟩)]) ⟨_, _, rfl, hp5, hn5, hW _ (by omega) (by omega), hW _ (by omega) (by omega), hlen⟩ trivial (by
          intro n' x' e
          cases e
          exact ⟨hx5, hW _ (by omega) (by omega), hnx, setAt_same _ _ _, setAt_same _ _ _⟩)
        have HX3 := Aside0.mk X3
        have HB5 := Aside0.mk hB5
        have HNX := Aside0.mk hnx
        clear X3 hB5 hx5 hp5 hn5 hs5 hs1 hnx hlen hW hlk hbx hc1
        go_wp2_with (go_at_call 34; refine HX3.out.mono ?_; rintro e W6 ⟨rfl, hP⟩; have HP := Aside0.mk hP; clear hP)
        go_ret
        have e : d.create W1.heap.size n = Disk.change { d with bytes := setAt d.bytes W1.heap.size [], firm := setAt d.firm W1.heap.size 0 } (.create n W1.heap.size) := by rw [Disk.create, HR.out, if_neg (by omega), HG.out, if_neg (by simp), HM.out, if_neg h256]
        refine ⟨W1.heap.size, HNX.out, by rw [e]; rfl, ?_⟩
        rw [e]
        obtain ⟨T', h1, h2⟩ := HP.out
        exact ⟨T', h1, (Turn.wide HB5.out).trans h2⟩
  · have h0' : (r == 0) = false := by simpa using h0
    have h0'' : (r != 0) = true := by simpa using h0
    go_enter Try.func13, Try.ntmps13
    go_wp2_with (go_at_call 33; refine X.mono ?_; rintro e W1 ⟨rfl, hB⟩; clear X)
    go_ret
    have e : d.create W.heap.size n = (r, d) := by rw [Disk.create, HR.out, if_pos h0]
    have hB' := HW2.out.trans (hB.mono HW2.out.size)
    refine ⟨W.heap.size, HC0.out.fresh (Nat.le_refl _), by rw [e]; rfl, T, ?_, Turn.of_below hB'⟩
    rw [e]
    exact ⟨_, _, _, _, _, (HC0.out.step' hB').le (Nat.le_succ N)⟩
end Go.Proofs.Ytibmgcihpbofdaa.Fs
namespace Go.Proofs.Ytibmgcihpbofdaa.Fs
open Go.RowKit Go.Proofs.Ytibmgcihpbofdaa Go.Proofs.Ytibmgcihpbofdaa.Plain Go.Proofs.YtibmgcihpbofdaaW.PrintWords Go.Maps
set_option linter.unusedVariables false
set_option linter.unusedSimpArgs false
theorem found_ready {d : Disk} {ns : List Nm} {n : Nm} (h : (d.found ns n).2 = 0) : d.ready ns = 0 ∧ ∃ x, get d.now n = some x ∧ d.found ns n = (.pointer (some ⟨x, 0, none⟩), 0) := by
  unfold Disk.found at h ⊢
  by_cases h0 : d.ready ns = 0
  · refine ⟨h0, ?_⟩
    rw [if_neg (by omega)] at h ⊢
    cases hg : get d.now n with
    | none => rw [hg] at h; simp at h
    | some x => exact ⟨x, rfl, by rfl⟩
  · rw [if_pos h0] at h
    exact absurd h h0
set_option maxHeartbeats 1000000 in
set_option maxRecDepth 100000 in
theorem unlink {w0 W : World} {f : Nat} {d : Disk} {N : Nat} {T : Nat → Prop} (h : FsAt w0 f d N T W) (hN : N ≤ 1000000) (n : Nm) (hn : n.length ≤ 140737488351232) :
    Calls Try.prog 19 #[.pointer (some ⟨f, 0, none⟩), .string (S n)] W fun e W' => e = .returned (.int .i64 (d.unlink n).1) ∧ ∃ T', FsAt w0 f (d.unlink n).2 (N + 1) T' W' ∧ Turn T W T' W' := by
  have hW1 : Below W.heap.size W (W.alloc (.cells #[.string (S n)] 9)) := below_alloc (Below.refl _ _) _
  have hW2 := below_alloc hW1 (.cells #[.string (S n)] 9)
  have X := found (h.step hW2) (some ⟨W.heap.size + 1, 0, none⟩) 1 n [] (by have := names1 (W := W.alloc (.cells #[.string (S n)] 9)) n hn #[.string (S n)] 9 (0, 0) rfl; simpa using this) (by simp) (m := 1) rfl
  obtain ⟨bn, bs, vl, fs, vb, c0⟩ := h
  obtain ⟨p, hp⟩ : ∃ p, d.found [n] n = p := ⟨_, rfl⟩
  rw [hp] at X
  obtain ⟨v, r⟩ := p
  have HF := Aside0.mk hp
  have HC0 := Aside0.mk c0
  have HW2 := Aside0.mk hW2
  clear hp hW1 hW2 c0
  by_cases h0 : r = 0
  · subst h0
    go_enter Try.func19, Try.ntmps19
    go_wp2_with (go_at_call 36; refine X.mono ?_; rintro e W1 ⟨rfl, hB⟩; clear X; have HB := Aside0.mk (HW2.out.trans (hB.mono HW2.out.size)); have hbb : W1.heap[W.heap.size]? = some (.cells #[.string (S n)] 9 (0, 0)) := (hB.block W.heap.size (by simp; omega)).trans ((Below.heap_alloc _ _ _ (by simp)).trans (heap_alloc_new W _)); have HBB := Aside0.mk hbb; clear hB hbb)
    obtain ⟨hr, x, hx, _⟩ := found_ready (d := d) (ns := [n]) (n := n) (by rw [HF.out])
    have hlen : n.length ≤ 80 := ready_len hr (by simp)
    have HX := Aside0.mk hx
    have HR := Aside0.mk hr
    have X3 := change (HC0.out.wide HB.out) hN (c := .unlink n) (v := .func (.func 40) #[] #[.pointer (some ⟨W.heap.size, 0, none⟩)]) ⟨_, rfl, HBB.out, .inr ⟨by omega, (Array.getElem?_eq_some_iff.1 HBB.out).1⟩, hlen⟩ trivial (by intro n' x' e; cases e)
    have HX3 := Aside0.mk X3
    clear X3 hlen hx hr
    go_wp2_with (go_at_call 34; refine HX3.out.mono ?_; rintro e W6 ⟨rfl, hP⟩; have HP := Aside0.mk hP; clear hP)
    go_ret
    have e : d.unlink n = d.change (.unlink n) := by rw [Disk.unlink, HR.out, if_neg (by omega), HX.out]
    rw [e]
    obtain ⟨T', h1, h2⟩ := HP.out
    exact ⟨rfl, T', h1, (Turn.wide HB.out).trans h2⟩
  · have h0' : (r == 0) = false := by simpa using h0
    have h0'' : (r != 0) = true := by simpa using h0
    go_enter Try.func19, Try.ntmps19
    go_wp2_with (go_at_call 36; refine X.mono ?_; rintro e W1 ⟨rfl, hB⟩; clear X)
    go_ret
    have e : d.unlink n = (r, d) := by
      have h1 := HF.out
      unfold Disk.found at h1
      unfold Disk.unlink
      by_cases h2 : d.ready [n] = 0
      · rw [if_neg (by omega)] at h1 ⊢
        cases hg : get d.now n with
        | none => rw [hg] at h1; cases h1; rfl
        | some x => rw [hg] at h1; cases h1; exact absurd rfl h0
      · rw [if_pos h2] at h1 ⊢
        cases h1
        rfl
    have hB' := HW2.out.trans (hB.mono HW2.out.size)
    rw [e]
    exact ⟨rfl, T, ⟨_, _, _, _, _, (HC0.out.step' hB').le (Nat.le_succ N)⟩, Turn.of_below hB'⟩
theorem names2 {W : World} (n m : Nm) (hn : n.length ≤ 140737488351232) (hm : m.length ≤ 140737488351232) : NamesAt (W.alloc (.cells #[.string (S n), .string (S m)] 9)) (some ⟨W.heap.size, 0, none⟩) [n, m] := by
  intro j hj
  have e : (W.alloc (.cells #[.string (S n), .string (S m)] 9)).heap[W.heap.size]? = some (.cells #[.string (S n), .string (S m)] 9 (0, 0)) := heap_alloc_new W _
  match j, hj with
  | 0, _ =>
    refine ⟨_, rfl, ?_, hn⟩
    show World.cell? _ (Addr.add ⟨W.heap.size, 0, none⟩ 0) = _
    rw [show Addr.add ⟨W.heap.size, 0, none⟩ 0 = ⟨W.heap.size, 0, none⟩ from rfl]
    simp only [World.cell?, e]
    rfl
  | 1, _ =>
    refine ⟨_, rfl, ?_, hm⟩
    show World.cell? _ (Addr.add ⟨W.heap.size, 0, none⟩ 1) = _
    rw [show Addr.add ⟨W.heap.size, 0, none⟩ 1 = ⟨W.heap.size, 1, none⟩ from rfl]
    simp only [World.cell?, e]
    rfl
theorem renameBoxes {W W1 : World} {n m : Nm} (hB : Below (((W.alloc (.cells #[.string (S n)] 9)).alloc (.cells #[.string (S m)] 9)).alloc (.cells #[.string (S n), .string (S m)] 9)).heap.size (((W.alloc (.cells #[.string (S n)] 9)).alloc (.cells #[.string (S m)] 9)).alloc (.cells #[.string (S n), .string (S m)] 9)) W1) :
    W1.heap[W.heap.size]? = some (.cells #[.string (S n)] 9 (0, 0)) ∧ W1.heap[W.heap.size + 1]? = some (.cells #[.string (S m)] 9 (0, 0)) := by
  constructor
  · rw [hB.block W.heap.size (by simp <;> omega), Below.heap_alloc _ _ _ (by simp <;> omega), Below.heap_alloc _ _ _ (by simp <;> omega)]
    exact heap_alloc_new W _
  · rw [hB.block (W.heap.size + 1) (by simp <;> omega), Below.heap_alloc _ _ _ (by simp <;> omega)]
    have := heap_alloc_new (W.alloc (.cells #[.string (S n)] 9)) (.cells #[.string (S m)] 9)
    simpa using this
set_option maxHeartbeats 1000000 in
set_option maxRecDepth 100000 in
theorem rename {w0 W : World} {f : Nat} {d : Disk} {N : Nat} {T : Nat → Prop} (h : FsAt w0 f d N T W) (hN : N ≤ 1000000) (n m : Nm) (hn : n.length ≤ 140737488351232) (hm : m.length ≤ 140737488351232) :
    Calls Try.prog 22 #[.pointer (some ⟨f, 0, none⟩), .string (S n), .string (S m)] W fun e W' => e = .returned (.int .i64 (d.rename n m).1) ∧ ∃ T', FsAt w0 f (d.rename n m).2 (N + 1) T' W' ∧ Turn T W T' W' := by
  have hW1 : Below W.heap.size W (W.alloc (.cells #[.string (S n)] 9)) := below_alloc (Below.refl _ _) _
  have hW2 := below_alloc hW1 (.cells #[.string (S m)] 9)
  have hW3 := below_alloc hW2 (.cells #[.string (S n), .string (S m)] 9)
  have X := found (h.step hW3) (some ⟨W.heap.size + 1 + 1, 0, none⟩) 2 n [m] (by have := names2 (W := (W.alloc (.cells #[.string (S n)] 9)).alloc (.cells #[.string (S m)] 9)) n m hn hm; simpa using this) (by simp) (m := 2) rfl
  obtain ⟨bn, bs, vl, fs, vb, c0⟩ := h
  obtain ⟨p, hp⟩ : ∃ p, d.found [n, m] n = p := ⟨_, rfl⟩
  rw [hp] at X
  obtain ⟨v, r⟩ := p
  have HF := Aside0.mk hp
  have HC0 := Aside0.mk c0
  have HW2 := Aside0.mk hW3
  clear hp hW1 hW2 hW3 c0
  by_cases h0 : r = 0
  · subst h0
    obtain ⟨hr, x, hx, _⟩ := found_ready (d := d) (ns := [n, m]) (n := n) (by rw [HF.out])
    have hlen : n.length ≤ 80 := ready_len hr (by simp)
    have hlen2 : m.length ≤ 80 := ready_len hr (by simp)
    have HX := Aside0.mk hx
    have HR := Aside0.mk hr
    have HLN := Aside0.mk (And.intro hlen hlen2)
    clear hx hr hlen hlen2
    by_cases hnm : n = m
    · subst hnm
      go_enter Try.func22, Try.ntmps22
      go_wp2_with (go_at_call 36; refine X.mono ?_; rintro e W1 ⟨rfl, hB⟩; clear X; have HB := Aside0.mk (HW2.out.trans (hB.mono HW2.out.size)); obtain ⟨hba, hbb⟩ := renameBoxes hB; have HBA := Aside0.mk hba; have HBB := Aside0.mk hbb; have hca := (box_cell hba).1; have hcb := (box_cell hbb).1; clear hB hba hbb)
      have X4 := power (HC0.out.step' HB.out)
      go_wp2_with (go_at_call 37; refine X4.mono ?_; rintro e W6 ⟨rfl, hC, hb⟩; clear X4)
      go_ret
      have e : d.rename n n = d.power := by rw [Disk.rename, HR.out, if_neg (by omega), HX.out]; exact if_pos rfl
      rw [e]
      exact ⟨rfl, T, ⟨_, _, _, _, _, hC.le (Nat.le_succ N)⟩, (Turn.of_below HB.out).trans (hb.turn hC.inF)⟩
    · have hss : (n == m) = false := by simpa using hnm
      go_enter Try.func22, Try.ntmps22
      go_wp2_with (go_at_call 36; refine X.mono ?_; rintro e W1 ⟨rfl, hB⟩; clear X; have HB := Aside0.mk (HW2.out.trans (hB.mono HW2.out.size)); obtain ⟨hba, hbb⟩ := renameBoxes hB; have HBA := Aside0.mk hba; have HBB := Aside0.mk hbb; have hca := (box_cell hba).1; have hcb := (box_cell hbb).1; clear hB hba hbb)
      have X3 := change (HC0.out.wide HB.out) hN (c := .rename n m) (v := .func (.func 41) #[] #[.pointer (some ⟨W.heap.size, 0, none⟩), .pointer (some ⟨W.heap.size + 1, 0, none⟩)]) ⟨_, _, rfl, HBA.out, HBB.out, .inr ⟨by omega, (Array.getElem?_eq_some_iff.1 HBA.out).1⟩, .inr ⟨by omega, (Array.getElem?_eq_some_iff.1 HBB.out).1⟩, HLN.out.1, HLN.out.2⟩ (by simp only [Chg.ok, HX.out]; rfl) (by intro n' x' e; cases e)
      have HX3 := Aside0.mk X3
      clear X3
      go_wp2_with (go_at_call 34; refine HX3.out.mono ?_; rintro e W6 ⟨rfl, hP⟩; have HP := Aside0.mk hP; clear hP)
      go_ret
      have e : d.rename n m = d.change (.rename n m) := by rw [Disk.rename, HR.out, if_neg (by omega), HX.out]; exact if_neg hnm
      rw [e]
      obtain ⟨T', h1, h2⟩ := HP.out
      exact ⟨rfl, T', h1, (Turn.wide HB.out).trans h2⟩
  · have h0' : (r == 0) = false := by simpa using h0
    have h0'' : (r != 0) = true := by simpa using h0
    go_enter Try.func22, Try.ntmps22
    go_wp2_with (go_at_call 36; refine X.mono ?_; rintro e W1 ⟨rfl, hB⟩; clear X)
    go_ret
    have e : d.rename n m = (r, d) := by
      have h1 := HF.out
      unfold Disk.found at h1
      unfold Disk.rename
      by_cases h2 : d.ready [n, m] = 0
      · rw [if_neg (by omega)] at h1 ⊢
        cases hg : get d.now n with
        | none => rw [hg] at h1; cases h1; rfl
        | some x => rw [hg] at h1; cases h1; exact absurd rfl h0
      · rw [if_pos h2] at h1 ⊢
        cases h1
        rfl
    have hB' := HW2.out.trans (hB.mono HW2.out.size)
    rw [e]
    exact ⟨rfl, T, ⟨_, _, _, _, _, (HC0.out.step' hB').le (Nat.le_succ N)⟩, Turn.of_below hB'⟩
end Go.Proofs.Ytibmgcihpbofdaa.Fs
