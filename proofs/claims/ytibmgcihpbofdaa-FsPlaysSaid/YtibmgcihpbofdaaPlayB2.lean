/- ref01: Dir, Has, Used, power. ref01: what a store into the disk's blocks leaves; power. ref01: appends, as steps of the walk. ref01: Crash: what its stores leave. -/
import Derived.Test.YtibmgcihpbofdaaPlayDone
namespace Go.Proofs.Ytibmgcihpbofdaa.Fs
open Go.RowKit Go.Proofs.Ytibmgcihpbofdaa Go.Proofs.Ytibmgcihpbofdaa.Plain Go.Proofs.YtibmgcihpbofdaaW.PrintWords Go.Maps
set_option linter.unusedVariables false
set_option linter.unusedSimpArgs false
theorem mayR_at {l : Dir} {cs : List RChg} (h : mayR l cs) (i : Nat) (hi : i < cs.length) : mayC (dirR l (cs.take i)) cs[i] := by
  have h1 := mayR_take h (i + 1)
  rw [List.take_add_one, List.getElem?_eq_getElem hi, Option.toList_some] at h1
  exact (mayR_snoc.1 h1).2
theorem dirR_at (l : Dir) (cs : List RChg) (i : Nat) (hi : i < cs.length) : dirR l (cs.take (i + 1)) = doneR (dirR l (cs.take i)) cs[i] := by
  rw [List.take_add_one, List.getElem?_eq_getElem hi, Option.toList_some, dir_snoc]
theorem dirR_take_length (l : Dir) (cs : List RChg) (i : Nat) : (dirR l (cs.take i)).length ≤ l.length + cs.length := by
  have := dirR_length (cs.take i) l
  rw [List.length_take] at this
  omega
/-- a row of entries, of the disk or newer -/
structure DRow (w0 W : World) (R : Nat → Prop) (v : Value) (l : Dir) (X : World) : Prop where
  row : X.ownsRow w0.heap.size 88 2 v l.length (entsV l)
  new : ∀ g, v.ownBlock = some g → R g ∨ W.heap.size ≤ g
  below : Below W.heap.size W X
theorem DRow.slice {w0 W X : World} {R : Nat → Prop} {v : Value} {l : Dir} (h : DRow w0 W R v l X) : ∃ A c, v = .slice A l.length c := own_slice h.row
theorem DRow.at_ {w0 W X : World} {R : Nat → Prop} {A : Option Addr} {n c : Nat} {l : Dir} (h : DRow w0 W R (.slice A n c) l X) : EntsAt X A l := entsAt_of h.row
set_option maxHeartbeats 1000000 in
set_option maxRecDepth 100000 in
theorem dirIs {w0 W : World} {r : Nat} {d : RDisk} {R : Nat → Prop} {N : Nat} (h : RAt w0 r d R W) (hok : ROk d N) (hN : N ≤ 1000000) :
    Calls Try.prog 46 #[.pointer (some ⟨r, 0, none⟩)] W fun e W' => ∃ v, e = .returned v ∧ DRow w0 W R v d.dir W' := by
  obtain ⟨vs, vl, vf, fl, c0⟩ := h
  obtain ⟨⟨As, cs, rfl⟩, ⟨Al, cl, rfl⟩, -⟩ := c0.slices
  have HC := Aside0.mk c0
  have HX := Aside0.mk (fun X (hX : Below W.heap.size W X) => (show X.cell? ⟨r, 0, none⟩ = some (.slice As d.sure.length cs) ∧ X.cell? ⟨r, 1, none⟩ = some (.slice Al d.loose.length cl) from ⟨(c0.step hX).cells.1, (c0.step hX).cells.2.1⟩))
  have hll : d.loose.length ≤ 1000000 := by have := hok.many.1; omega
  have HOK := Aside0.mk hok
  obtain ⟨g0, g1⟩ := HX.out W (Below.refl _ _)
  clear c0 hok
  go_enter Try.func46, Try.ntmps46
  go_wp2
  go_loopw [3, 4] (fun v3 v4 wr => ∃ (i : Nat) (D : Dir), i ≤ d.loose.length ∧ v4 = .int .i64 i ∧ Aside0 (D = dirR d.sure (d.loose.take i)) ∧ Aside0 (DRow w0 W R v3 D wr)) (fun _ v4 _ => d.loose.length - (intOf v4).toNat)
  case atStart => exact ⟨0, d.sure, by omega, rfl, ⟨rfl⟩, ⟨HC.out.sure, fun g e => .inl (HC.out.inS g e), Below.refl _ _⟩⟩
  case round =>
    obtain ⟨i, D, hi, rfl, HD, HR⟩ := hrel
    clear g0 g1
    obtain ⟨-, g1⟩ := HX.out _ HR.out.below
    obtain ⟨A, c, rfl⟩ := HR.out.slice
    by_cases hlt : i < d.loose.length
    · obtain ⟨g, c', e, -, k0, k1, k2, k3⟩ := (HC.out.step HR.out.below).chg i hlt
      injection e with e1 e2 e3
      subst e1 e3
      obtain ⟨ch, hch⟩ : ∃ ch, d.loose[i] = ch := ⟨_, rfl⟩
      rw [hch] at k0 k1 k2 k3
      have HN := Aside0.mk (show dirR d.sure (d.loose.take (i + 1)) = doneR D ch by rw [HD.out, ← hch]; exact dirR_at _ _ _ hlt)
      have HK := Aside0.mk (show ch.kind = 1 ∨ ch.kind = 2 ∨ ch.kind = 3 by rw [← hch]; exact HOK.out.kd _ (List.getElem_mem hlt))
      have HM := Aside0.mk (show mayC D ch by rw [HD.out, ← hch]; exact mayR_at HOK.out.ok i hlt)
      have HS := Aside0.mk (show Sorted D by rw [HD.out]; exact dir_sorted HOK.out.srt (mayR_take HOK.out.ok i))
      have HL := Aside0.mk (show D.length ≤ 1000000 by have := dirR_take_length d.sure d.loose i; have := HOK.out.many.1; rw [HD.out]; omega)
      obtain ⟨K, src, dest, fi⟩ := ch
      clear hch HD
      have XD := doneIs D HS.out HL.out A c HR.out.at_ K src dest fi HK.out HM.out
      go_wp2_with (go_at_call 56; refine XD.mono ?_; rintro e W1 ⟨v1, rfl, hE⟩; have HE := Aside0.mk hE; clear hE XD)
      go_roundw
      case rel => exact ⟨i + 1, _, by omega, by go_num, ⟨HN.out.symm⟩, ⟨own_weaken HE.out.row (Nat.le_trans HC.out.below.size HR.out.below.size), fun g e => .inr (Nat.le_trans HR.out.below.size (World.ownsRow.lt HE.out.row g e).1), chain' HR.out.below HE.out.below⟩⟩
      case measure => simp [intOf]; omega
    · go_wp2
      go_ret
      have e : D = d.dir := by rw [HD.out, List.take_of_length_le (by omega)]; rfl
      rw [← e]
      exact ⟨_, rfl, HR.out⟩
set_option maxHeartbeats 1000000 in
set_option maxRecDepth 100000 in
theorem hasIs {w0 W : World} {r : Nat} {d : RDisk} {R : Nat → Prop} {N : Nat} (h : RAt w0 r d R W) (hok : ROk d N) (hN : N ≤ 1000000) (a : Nm) :
    Calls Try.prog 45 #[.pointer (some ⟨r, 0, none⟩), .string (S a)] W fun e W' => e = .returned (.int .i64 (fileI (get d.dir a))) ∧ Below W.heap.size W W' := by
  have XD := dirIs h hok hN
  have hll : d.dir.length ≤ 1000000 := Nat.le_trans hok.dirLen hN
  have HG := Aside0.mk (fun i (hi : i < d.dir.length) => (show get (d.dir.take (i + 1)) a = match get (d.dir.take i) a with | some x => some x | none => if d.dir[i].1 = a then some d.dir[i].2 else none by
    rw [List.take_add_one, List.getElem?_eq_getElem hi, Option.toList_some, get_snoc]; rfl))
  have HM := Aside0.mk (fun i (hi : i < d.dir.length) => sorted_mem hok.sorted (List.getElem_mem hi))
  have HE0 := Aside0.mk (show d.dir = d.dir from rfl)
  obtain ⟨l, hl⟩ : ∃ l, d.dir = l := ⟨_, rfl⟩
  rw [hl] at XD hll HG HM
  rw [hl]
  clear h hok hN hl HE0
  go_enter Try.func45, Try.ntmps45
  go_wp2_with (go_at_call 46; refine XD.mono ?_; rintro e W1 ⟨v1, rfl, hD⟩; have HD := Aside0.mk hD; obtain ⟨A, c, rfl⟩ := hD.slice; clear hD XD)
  go_loopw [6] (fun v6 wr => ∃ i : Nat, i ≤ l.length ∧ v6 = .int .i64 i ∧ Aside0 (get (l.take i) a = none) ∧ Aside0 (wr = W1)) (fun v6 _ => l.length - (intOf v6).toNat)
  case atStart => exact ⟨0, by omega, rfl, ⟨rfl⟩, ⟨rfl⟩⟩
  case round =>
    obtain ⟨i, hi, rfl, HN, HW⟩ := hrel
    obtain rfl := HW.out
    by_cases hlt : i < l.length
    · obtain ⟨g, rfl, -, k0, k1⟩ := HD.out.at_ i hlt
      have hg := HG.out i hlt
      have hm := HM.out i hlt
      obtain ⟨p, hp⟩ : ∃ p, l[i] = p := ⟨_, rfl⟩
      rw [hp] at k0 k1 hg hm
      rw [HN.out] at hg
      obtain ⟨pn, pf⟩ := p
      have HGG := Aside0.mk hg
      have HMM := Aside0.mk hm
      clear hp hg hm
      by_cases he : pn = a
      · subst he
        go_wp2
        go_ret
        have := HMM.out
        rw [this]
        exact ⟨rfl, HD.out.below⟩
      · have hne : (pn == a) = false := by simpa using he
        have HNE := Aside0.mk he
        clear he
        go_wp2
        go_roundw
        case rel => exact ⟨i + 1, by omega, by go_num, ⟨by have := HGG.out; simp only [if_neg HNE.out] at this; exact this⟩, ⟨trivial⟩⟩
        case measure => simp [intOf]; omega
    · go_wp2
      go_ret
      have e := HN.out
      rw [List.take_of_length_le (by omega)] at e
      rw [e]
      exact ⟨rfl, HD.out.below⟩
set_option maxHeartbeats 1000000 in
set_option maxRecDepth 100000 in
theorem usedR {w0 W : World} {r : Nat} {d : RDisk} {R : Nat → Prop} {N : Nat} (h : RAt w0 r d R W) (hok : ROk d N) (hN : N ≤ 1000000) :
    Calls Try.prog 47 #[.pointer (some ⟨r, 0, none⟩)] W fun e W' => e = .returned (.int .i64 (d.used : Int)) ∧ Below W.heap.size W W' := by
  have XD := dirIs h hok hN
  obtain ⟨vs, vl, vf, fl, c0⟩ := h
  have hll : d.dir.length ≤ 1000000 := Nat.le_trans hok.dirLen hN
  have HC := Aside0.mk c0
  have HT := Aside0.mk (show ∀ p ∈ d.dir, p.2 < fl.length from fun p hp => by rw [← c0.len]; exact hok.there p hp)
  have HB := Aside0.mk (fun i => (bytes_le hok i).1)
  have HU := Aside0.mk (show (d.dir.map fun p => (d.bytes p.2).length).sum = d.used from rfl)
  obtain ⟨l, hl⟩ : ∃ l, d.dir = l := ⟨_, rfl⟩
  rw [hl] at XD hll HU HT
  clear hok hl c0
  go_enter Try.func47, Try.ntmps47
  go_wp2_with (go_at_call 46; refine XD.mono ?_; rintro e W1 ⟨v1, rfl, hD⟩; have HD := Aside0.mk hD; obtain ⟨A, c, rfl⟩ := hD.slice; clear hD XD)
  go_loopw [3, 5] (fun v3 v5 wr => ∃ (i k : Nat), i ≤ l.length ∧ k ≤ i * 1000000 ∧ v3 = .int .i64 k ∧ v5 = .int .i64 i ∧ Aside0 (((l.take i).map fun p => (d.bytes p.2).length).sum = k) ∧ Aside0 (Below W1.heap.size W1 wr)) (fun _ v5 _ => l.length - (intOf v5).toNat)
  case atStart => exact ⟨0, 0, by omega, by omega, rfl, rfl, ⟨rfl⟩, ⟨Below.refl _ _⟩⟩
  case round =>
    obtain ⟨i, k, hi, hk, rfl, rfl, HK, HW⟩ := hrel
    by_cases hlt : i < l.length
    · obtain ⟨g, rfl, -, k0, k1⟩ := (HD.out.at_.below HW.out) i hlt
      have ht := HT.out _ (List.getElem_mem hlt)
      have HS := Aside0.mk (show ((l.take (i + 1)).map fun p => (d.bytes p.2).length).sum = k + (d.bytes l[i].2).length by
        rw [List.take_add_one, List.getElem?_eq_getElem hlt, Option.toList_some, List.map_append, List.sum_append, HK.out]
        simp)
      obtain ⟨p, hp⟩ : ∃ p, l[i] = p := ⟨_, rfl⟩
      simp only [hp] at k0 k1 ht HS
      obtain ⟨pn, pf⟩ := p
      clear hp
      have hc := HC.out.step (chain' HD.out.below HW.out)
      obtain ⟨gf, cf, e, -, -, f0, -⟩ := hc.file pf ht
      have hc2 := hc.cells.2.2.1
      rw [e] at hc2
      have hby := (hc.bytes pf ht).1
      obtain ⟨q, hfl⟩ : ∃ q, fl[pf] = q := ⟨_, rfl⟩
      obtain ⟨bv, u, s⟩ := q
      rw [hfl] at f0 hby
      have hbb : ∃ A c, bv = .slice A (B u).length c := own_slice (hc.each (bv, u, s) (hfl ▸ List.getElem_mem ht))
      obtain ⟨Ab, cb, rfl⟩ := hbb
      have hul : u.length ≤ 1000000 := by have := HB.out pf; rw [hby] at this; exact Nat.le_trans this hN
      have HS2 := Aside0.mk (show ((l.take (i + 1)).map fun p => (d.bytes p.2).length).sum = k + (B u).length by rw [HS.out, hby, B_length])
      have hbl : (B u).length ≤ 1000000 := by rw [B_length]; exact hul
      obtain ⟨n, hn⟩ : ∃ n, (B u).length = n := ⟨_, rfl⟩
      rw [hn] at HS2 hbl f0
      have hw : IntKind.i64.wrap ((k : Int) + (n : Int)) = (k : Int) + (n : Int) := IntWalk.i64_in _ (by omega)
      clear hn HS hby hfl e hc hul
      go_wp2
      go_quiet (fail)
      go_wp2
      go_roundw
      case rel => exact ⟨i + 1, k + n, by omega, by omega, by go_num, by go_num, HS2, ⟨pw_below_drewN HW.out _⟩⟩
      case measure => simp [intOf]; omega
    · go_wp2
      go_ret
      have e := HK.out
      rw [List.take_of_length_le (by omega), HU.out] at e
      rw [e]
      exact ⟨rfl, chain' HD.out.below HW.out⟩
end Go.Proofs.Ytibmgcihpbofdaa.Fs
namespace Go.Proofs.Ytibmgcihpbofdaa.Fs
open Go.RowKit Go.Proofs.Ytibmgcihpbofdaa Go.Proofs.Ytibmgcihpbofdaa.Plain Go.Proofs.YtibmgcihpbofdaaW.PrintWords Go.Maps
set_option linter.unusedVariables false
set_option linter.unusedSimpArgs false
def RTurn (w0 : World) (r : Nat) (d' : RDisk) (R : Nat → Prop) (W W' : World) : Prop := ∃ R', RAt w0 r d' R' W' ∧ Turn R W R' W'
theorem RTurn.trans {w0 W W1 W2 : World} {r : Nat} {d2 : RDisk} {R R1 : Nat → Prop} (ht : Turn R W R1 W1) (h : RTurn w0 r d2 R1 W1 W2) : RTurn w0 r d2 R W W2 := by
  obtain ⟨R2, h1, h2⟩ := h
  exact ⟨R2, h1, ht.trans h2⟩
theorem heapSet (W : World) (b o : Nat) (v : Value) (cs : Array Value) (t : TypeId) (h : W.heap[b]? = some (.cells cs t (0, 0))) : (W.setCell ⟨b, o, none⟩ v).heap[b]? = some (.cells (cs.setIfInBounds o v) t (0, 0)) := heap_setCell_same W b o cs t v h
theorem heapOther (W : World) (b o k : Nat) (v : Value) (h : k ≠ b) : (W.setCell ⟨b, o, none⟩ v).heap[k]? = W.heap[k]? := Below.heap_setCell W ⟨b, o, none⟩ v k h
/-- stores into the head alone -/
theorem RCore.headTurn {w0 W X : World} {r : Nat} {d d' : RDisk} {R : Nat → Prop} {vs vl vf : Value} {fl : List RFile} (h : RCore w0 W r d R vs vl vf fl)
    (hk : ∀ k, k ≠ r → X.heap[k]? = W.heap[k]?) (hs : X.heap.size = W.heap.size) (hb : Below w0.heap.size w0 X)
    (head : X.heap[r]? = some (.cells #[vs, vl, vf, .int .i64 d'.room, .int .i64 d'.fuse, .bool d'.off] 55 (0, 0)))
    (e1 : d'.sure = d.sure) (e2 : d'.loose = d.loose) (e3 : d'.files = d.files) : RTurn w0 r d' R W X := by
  obtain ⟨n1, n2, n3, n4⟩ := h.ne
  obtain ⟨q1, q2⟩ := h.turn (d' := d') (fun k hlt hr _ _ => hk k hr) (Nat.le_of_eq hs.symm) hb head (.inl ⟨rfl, e1⟩)
    (by rw [e2]; exact own_move h.loose (fun k e => hk k (n2 k e).1)) (fun g e => .inl (h.inL g e))
    (own_move h.files (fun k e => hk k (n3 k e).1)) (fun g e => .inl (h.inF g e)) (by rw [e3]; exact h.eq) (fun p hp => .inl hp)
  exact ⟨_, ⟨_, _, _, _, q1⟩, q2⟩
theorem RCore.setBelow {w0 W X : World} {r : Nat} {d : RDisk} {R : Nat → Prop} {vs vl vf : Value} {fl : List RFile} (h : RCore w0 W r d R vs vl vf fl) (hX : Below w0.heap.size w0 X) (o : Nat) (v : Value) : Below w0.heap.size w0 (X.setCell ⟨r, o, none⟩ v) := hX.setCell (h.mine r h.inR).1 v
set_option maxHeartbeats 1000000 in
theorem powerR {w0 W : World} {r : Nat} {d : RDisk} {R : Nat → Prop} (h : RAt w0 r d R W) (hfb : -1 ≤ d.fuse ∧ d.fuse ≤ 9223372036854775807) :
    Calls Try.prog 48 #[.pointer (some ⟨r, 0, none⟩)] W fun e W' => e = .returned (.bool d.power.1) ∧ RTurn w0 r d.power.2 R W W' := by
  obtain ⟨vs, vl, vf, fl, h⟩ := h
  obtain ⟨_, _, _, _, c4, _⟩ := h.cells
  have f4 := h.frozen 4
  have f5 := h.frozen 5
  have HC := Aside0.mk h
  have HS := Aside0.mk (fun (o : Nat) (v : Value) (d' : RDisk) (head : (W.setCell ⟨r, o, none⟩ v).heap[r]? = some (.cells #[vs, vl, vf, .int .i64 d'.room, .int .i64 d'.fuse, .bool d'.off] 55 (0, 0))) (e1 : d'.sure = d.sure) (e2 : d'.loose = d.loose) (e3 : d'.files = d.files) => (show RTurn w0 r d' R W (W.setCell ⟨r, o, none⟩ v) from h.headTurn (fun k hk => heapOther W r o k v hk) (by simp [World.setCell]) (h.setBelow h.below o v) head e1 e2 e3))
  have HH := Aside0.mk h.head
  obtain ⟨fu, hfu⟩ : ∃ fu, d.fuse = fu := ⟨_, rfl⟩
  rw [hfu] at c4 hfb
  have HF := Aside0.mk hfu
  clear h hfu
  obtain ⟨hf1, hf2⟩ := hfb
  by_cases h0 : fu = 0
  · subst h0
    go_enter Try.func48, Try.ntmps48
    go_wp2
    go_ret
    have e : d.power = (false, { d with off := true }) := by simp [RDisk.power, HF.out]
    rw [e]
    exact ⟨rfl, HS.out 5 _ _ (heapSet _ _ _ _ _ _ HH.out) rfl rfl rfl⟩
  · by_cases h1 : 0 < fu
    · have h0' : (fu == 0) = false := by simpa using h0
      go_enter Try.func48, Try.ntmps48
      go_wp2
      go_ret
      have e : d.power = (true, { d with fuse := fu - 1 }) := by simp [RDisk.power, HF.out, h0, h1]
      rw [e]
      exact ⟨rfl, HS.out 4 _ _ (heapSet _ _ _ _ _ _ HH.out) rfl rfl rfl⟩
    · have h0' : (fu == 0) = false := by simpa using h0
      go_enter Try.func48, Try.ntmps48
      go_wp2
      go_ret
      have e : d.power = (true, d) := by rw [RDisk.power, HF.out, if_neg h0, if_neg (by omega)]
      rw [e]
      exact ⟨rfl, R, ⟨_, _, _, _, HC.out⟩, Turn.refl _ _⟩
/-- a change more -/
theorem pushEnd {w0 W X w1 : World} {r : Nat} {p : RDisk} {R : Nat → Prop} {vs vl vf v1 : Value} {fl : List RFile} (h : RCore w0 W r p R vs vl vf fl) (c : RChg) (hX : Below W.heap.size W X)
    (hrow : w1.ownsRow w0.heap.size 86 4 v1 (p.loose ++ [c]).length (chgsV (p.loose ++ [c]))) (hg : X.grownBy w1 vl.ownBlock) (hat : v1.ownBlock = vl.ownBlock ∨ v1.ownBlock = some X.heap.size) : RTurn w0 r (p.push c) R W (w1.setCell ⟨r, 1, none⟩ v1) := by
  obtain ⟨n1, n2, n3, n4⟩ := h.ne
  have hlt := (h.mine r h.inR).2
  have hw1 : ∀ k, k < W.heap.size → vl.ownBlock ≠ some k → w1.heap[k]? = W.heap[k]? := fun k hk hne => (hg.block k (Nat.lt_of_lt_of_le hk hX.size) (fun e => hne e.symm)).trans (hX.block k hk)
  have hr : vl.ownBlock ≠ some r := fun e => (n2 r e).1 rfl
  have hF : ∀ k, k < W.heap.size → k ≠ r → vl.ownBlock ≠ some k → (w1.setCell ⟨r, 1, none⟩ v1).heap[k]? = W.heap[k]? := fun k hk h1 h2 => (heapOther w1 r 1 k v1 h1).trans (hw1 k hk h2)
  have hb1 : Below w0.heap.size w0 w1 := ((h.below.trans (hX.mono h.below.size)).grown hg (Nat.le_trans h.below.size hX.size) (fun k e => (World.ownsRow.lt h.loose k e).1))
  have hs : W.heap.size ≤ (w1.setCell ⟨r, 1, none⟩ v1).heap.size := by
    have := hg.size
    have := hX.size
    simp [World.setCell]; omega
  have hv1 : ∀ g, v1.ownBlock = some g → g ≠ r ∧ (R g ∨ W.heap.size ≤ g) := fun g e => by
    rcases hat with h1 | h1
    · rw [h1] at e; exact ⟨(n2 g e).1, .inl (h.inL g e)⟩
    · rw [h1] at e
      cases e
      have := hX.size
      exact ⟨by omega, .inr hX.size⟩
  obtain ⟨q1, q2⟩ := h.turn (d' := p.push c) (vs' := vs) (vl' := v1) (vf' := vf) (fl' := fl) (fun k hk h1 h2 _ => hF k hk h1 h2) hs (h.setBelow hb1 1 v1) (heapSet w1 r 1 v1 _ _ ((hw1 r hlt hr).trans h.head)) (.inl ⟨rfl, rfl⟩)
    (own_move hrow (fun k e => heapOther w1 r 1 k v1 (hv1 k e).1)) (fun g e => (hv1 g e).2)
    (own_move h.files (fun k e => hF k (World.ownsRow.lt h.files k e).2 (n3 k e).1 (fun e2 => (n3 k e).2 e2))) (fun g e => .inl (h.inF g e)) h.eq (fun q hq => .inl hq)
  exact ⟨_, ⟨_, _, _, _, q1⟩, q2⟩
/-- a file more -/
theorem fileEnd {w0 W X w1 : World} {r : Nat} {p : RDisk} {R : Nat → Prop} {vs vl vf v1 : Value} {fl : List RFile} (h : RCore w0 W r p R vs vl vf fl) (hX : Below W.heap.size W X)
    (hrow : w1.ownsRow w0.heap.size 84 2 v1 (fl ++ [(Value.slice none 0 0, [], 0)]).length (fsV (fl ++ [(Value.slice none 0 0, [], 0)]))) (hg : X.grownBy w1 vf.ownBlock) (hat : v1.ownBlock = vf.ownBlock ∨ v1.ownBlock = some X.heap.size) :
    ∃ R', RCore w0 (w1.setCell ⟨r, 2, none⟩ v1) r { p with files := p.files ++ [([], 0)] } R' vs vl v1 (fl ++ [(Value.slice none 0 0, [], 0)]) ∧ Turn R W R' (w1.setCell ⟨r, 2, none⟩ v1) := by
  obtain ⟨n1, n2, n3, n4⟩ := h.ne
  have hlt := (h.mine r h.inR).2
  have hw1 : ∀ k, k < W.heap.size → vf.ownBlock ≠ some k → w1.heap[k]? = W.heap[k]? := fun k hk hne => (hg.block k (Nat.lt_of_lt_of_le hk hX.size) (fun e => hne e.symm)).trans (hX.block k hk)
  have hr : vf.ownBlock ≠ some r := fun e => (n3 r e).1 rfl
  have hF : ∀ k, k < W.heap.size → k ≠ r → vf.ownBlock ≠ some k → (w1.setCell ⟨r, 2, none⟩ v1).heap[k]? = W.heap[k]? := fun k hk h1 h2 => (heapOther w1 r 2 k v1 h1).trans (hw1 k hk h2)
  have hb1 : Below w0.heap.size w0 w1 := ((h.below.trans (hX.mono h.below.size)).grown hg (Nat.le_trans h.below.size hX.size) (fun k e => (World.ownsRow.lt h.files k e).1))
  have hs : W.heap.size ≤ (w1.setCell ⟨r, 2, none⟩ v1).heap.size := by
    have := hg.size
    have := hX.size
    simp [World.setCell]; omega
  have hv1 : ∀ g, v1.ownBlock = some g → g ≠ r ∧ (R g ∨ W.heap.size ≤ g) := fun g e => by
    rcases hat with h1 | h1
    · rw [h1] at e; exact ⟨(n3 g e).1, .inl (h.inF g e)⟩
    · rw [h1] at e
      cases e
      have := hX.size
      exact ⟨by omega, .inr hX.size⟩
  obtain ⟨q1, q2⟩ := h.turn (d' := { p with files := p.files ++ [([], 0)] }) (vs' := vs) (vl' := vl) (vf' := v1) (fl' := fl ++ [(Value.slice none 0 0, [], 0)]) (fun k hk h1 _ h2 => hF k hk h1 h2) hs (h.setBelow hb1 2 v1) (heapSet w1 r 2 v1 _ _ ((hw1 r hlt hr).trans h.head)) (.inl ⟨rfl, rfl⟩)
    (own_move h.loose (fun k e => hF k (World.ownsRow.lt h.loose k e).2 (n2 k e).1 (fun e2 => (n2 k e).2 e2))) (fun g e => .inl (h.inL g e))
    (own_move hrow (fun k e => heapOther w1 r 2 k v1 (hv1 k e).1)) (fun g e => (hv1 g e).2) (by show p.files ++ _ = _; rw [h.eq, List.map_append]; rfl)
    (fun q hq => (List.mem_append.1 hq).elim .inl (fun h1 => .inr (by rw [List.mem_singleton.1 h1]; exact ⟨own_nil _ _ _ _, fun g e => by cases e⟩)))
  exact ⟨_, q1, q2⟩
/-- a file's cells are stored into -/
theorem writeEnd {w0 W X F : World} {r : Nat} {p : RDisk} {R : Nat → Prop} {vs vl vf : Value} {fl : List RFile} (h : RCore w0 W r p R vs vl vf fl) (i : Nat) (q : RFile) (hX : Below W.heap.size W X)
    (hF : ∀ k, vf.ownBlock ≠ some k → F.heap[k]? = X.heap[k]?) (hsz : F.heap.size = X.heap.size) (hbF : Below w0.heap.size w0 F) (hrow : F.ownsRow w0.heap.size 84 2 vf fl.length (fsV (fl.set i q)))
    (hq : (∃ p ∈ fl, p.1 = q.1 ∧ p.2.1 = q.2.1) ∨ BytesIs X W.heap.size q.1 q.2.1) :
    ∃ R', RCore w0 F r (p.write i q.2.1 q.2.2) R' vs vl vf (fl.set i q) ∧ Turn R W R' F := by
  obtain ⟨n1, n2, n3, n4⟩ := h.ne
  have hlt := (h.mine r h.inR).2
  have hFW : ∀ k, k < W.heap.size → vf.ownBlock ≠ some k → F.heap[k]? = W.heap[k]? := fun k hk hne => (hF k hne).trans (hX.block k hk)
  have hr : vf.ownBlock ≠ some r := fun e => (n3 r e).1 rfl
  have hnew : ∀ k, W.heap.size ≤ k → vf.ownBlock ≠ some k := fun k hk e => by have := (World.ownsRow.lt h.files k e).2; omega
  obtain ⟨q1, q2⟩ := h.turn (d' := p.write i q.2.1 q.2.2) (vs' := vs) (vl' := vl) (vf' := vf) (fl' := fl.set i q) (fun k hk _ _ h2 => hFW k hk h2) (by rw [hsz]; exact hX.size) hbF ((hFW r hlt hr).trans h.head) (.inl ⟨rfl, rfl⟩)
    (own_move h.loose (fun k e => hFW k (World.ownsRow.lt h.loose k e).2 (n2 k e).2)) (fun g e => .inl (h.inL g e))
    (by rw [List.length_set]; exact hrow) (fun g e => .inl (h.inF g e)) (by show p.files.set i (q.2.1, q.2.2) = _; rw [h.eq, List.map_set])
    (fun x hx => by
      rcases List.mem_or_eq_of_mem_set hx with h1 | rfl
      · exact .inl h1
      · refine .inr ?_
        rcases hq with ⟨y, hy, e1, e2⟩ | hq
        · rw [← e1, ← e2]
          exact ⟨own_move (h.each y hy) (fun k e => hFW k (World.ownsRow.lt (h.each y hy) k e).2 (n4 y hy k e).2.2), fun g e => .inl (h.inX y hy g e)⟩
        · have hge : ∀ g, x.1.ownBlock = some g → W.heap.size ≤ g := fun g e => (World.ownsRow.lt hq g e).1
          exact ⟨own_weaken (own_move hq (fun k e => hF k (hnew k (hge k e)))) h.below.size, fun g e => .inr (hge g e)⟩)
  exact ⟨_, q1, q2⟩
theorem fsV_set0 : ∀ (fl : List RFile) (i : Nat) (hi : i < fl.length) (v : Value) (b : List UInt8), (fsV fl).set (i * 2) v = fsV (fl.set i (v, b, fl[i].2.2))
  | a :: fl, 0, _, v, b => rfl
  | a :: fl, i + 1, hi, v, b => by
    have hi' : i < fl.length := by simpa using hi
    have h := fsV_set0 fl i (by simpa using hi) v b
    show (a.1 :: Value.int .i64 (a.2.2 : Int) :: fsV fl).set ((i + 1) * 2) v = a.1 :: Value.int .i64 (a.2.2 : Int) :: fsV (fl.set i (v, b, fl[i].2.2))
    rw [← h, show (i + 1) * 2 = i * 2 + 1 + 1 by omega]
    rfl
theorem fsV_set1 : ∀ (fl : List RFile) (i : Nat) (hi : i < fl.length) (s : Nat), (fsV fl).set (i * 2 + 1) (.int .i64 (s : Int)) = fsV (fl.set i (fl[i].1, fl[i].2.1, s))
  | a :: fl, 0, _, s => rfl
  | a :: fl, i + 1, hi, s => by
    have hi' : i < fl.length := by simpa using hi
    have h := fsV_set1 fl i (by simpa using hi) s
    show (a.1 :: Value.int .i64 (a.2.2 : Int) :: fsV fl).set ((i + 1) * 2 + 1) _ = a.1 :: Value.int .i64 (a.2.2 : Int) :: fsV (fl.set i (fl[i].1, fl[i].2.1, s))
    rw [← h, show (i + 1) * 2 + 1 = i * 2 + 1 + 1 + 1 by omega]
    rfl
/-- the directory is made sure -/
theorem firmEnd {w0 W X : World} {r : Nat} {p p' : RDisk} {R : Nat → Prop} {vs vl vf v1 : Value} {fl : List RFile} (h : RCore w0 W r p R vs vl vf fl) {l : Dir} (hD : DRow w0 W R v1 l X) (hp : p' = { p with sure := l, loose := [] }) :
    ∃ R', RCore w0 ((X.setCell ⟨r, 0, none⟩ v1).setCell ⟨r, 1, none⟩ (.slice none 0 0)) r p' R' v1 (.slice none 0 0) vf fl ∧ Turn R W R' ((X.setCell ⟨r, 0, none⟩ v1).setCell ⟨r, 1, none⟩ (.slice none 0 0)) := by
  subst hp
  obtain ⟨n1, n2, n3, n4⟩ := h.ne
  have hlt := (h.mine r h.inR).2
  have hX := hD.below
  have hF : ∀ k, k ≠ r → ((X.setCell ⟨r, 0, none⟩ v1).setCell ⟨r, 1, none⟩ (.slice none 0 0)).heap[k]? = X.heap[k]? := fun k hk => (heapOther _ r 1 k _ hk).trans (heapOther X r 0 k v1 hk)
  have hs : ((X.setCell ⟨r, 0, none⟩ v1).setCell ⟨r, 1, none⟩ (.slice none 0 0)).heap.size = X.heap.size := by simp [World.setCell]
  have hv1 : ∀ g, v1.ownBlock = some g → g ≠ r := fun g e => by
    obtain ⟨c, hc⟩ := own_cells hD.row e
    exact ne_of_obj hc ((hX.block r hlt).trans h.head) (by simp)
  obtain ⟨q1, q2⟩ := h.turn (X := (X.setCell ⟨r, 0, none⟩ v1).setCell ⟨r, 1, none⟩ (.slice none 0 0)) (d' := { p with sure := l, loose := [] }) (vs' := v1) (vl' := .slice none 0 0) (vf' := vf) (fl' := fl) (fun k hk h1 _ _ => (hF k h1).trans (hX.block k hk)) (by rw [hs]; exact hX.size)
    (h.setBelow (h.setBelow (h.below.trans (hX.mono h.below.size)) 0 v1) 1 _) (heapSet _ r 1 _ _ _ (heapSet X r 0 v1 _ _ ((hX.block r hlt).trans h.head))) (.inr ⟨own_move hD.row (fun k e => hF k (hv1 k e)), hD.new⟩)
    (own_nil _ _ _ _) (fun g e => by cases e)
    (own_move h.files (fun k e => (hF k (n3 k e).1).trans (hX.block k (World.ownsRow.lt h.files k e).2))) (fun g e => .inl (h.inF g e)) h.eq (fun q hq => .inl hq)
  exact ⟨_, q1, q2⟩
end Go.Proofs.Ytibmgcihpbofdaa.Fs
namespace Go.Proofs.Ytibmgcihpbofdaa.Fs
open Go.RowKit Go.Proofs.Ytibmgcihpbofdaa Go.Proofs.Ytibmgcihpbofdaa.Plain Go.Proofs.YtibmgcihpbofdaaW.PrintWords Go.Maps
set_option linter.unusedVariables false
set_option linter.unusedSimpArgs false
theorem chgsV_one (l : List RChg) : ∀ u ∈ chgsV l, u.oneCell' = true := by
  intro u hu
  obtain ⟨p, _, hp⟩ := List.mem_flatMap.1 hu
  simp only [chgV, List.mem_cons, List.not_mem_nil, or_false] at hp
  rcases hp with rfl | rfl | rfl | rfl <;> rfl
theorem chgsOne (c : RChg) : chgsV [c] = chgV c := by simp [chgsV]
/-- 'append(f.Loose, c)' -/
theorem appendC {base : Nat} {X : World} {v : Value} {l : List RChg} (h : X.ownsRow base 86 4 v l.length (chgsV l)) (hb : base ≤ X.heap.size) (c : RChg) (hn : l.length ≤ 2000000) {ops : Array Oper} {rest : List Oper} {o : Oper} {a : Act} {Q : Exit → Act → World → Prop} (hgd : o.guard = none) (x y : Operand)
    (ho : o.op = .call { callee := .builtin .append, args := #[x, y], argTypes := #[52, 52] }) (hx : a.eval x = v) (ad : Addr) (cc : Nat) (hy : a.eval y = .slice (some ad) 1 cc)
    (hc : ∀ j u, (chgV c)[j]? = some u → X.cell? (ad.add j) = some u)
    (hK : ∀ v1 w1, w1.ownsRow base 86 4 v1 (l ++ [c]).length (chgsV (l ++ [c])) → X.grownBy w1 v.ownBlock → (v1.ownBlock = v.ownBlock ∨ v1.ownBlock = some X.heap.size) → wpList Try.prog ops Q rest (a.put o.dst v1) w1) : wpList Try.prog ops Q (o :: rest) a X := by
  obtain ⟨i0, hi, hzz⟩ := Option.map_eq_some_iff.1 infoChg
  simp only [Prod.mk.injEq] at hzz
  obtain ⟨hz0, hz1, hz2⟩ := hzz
  refine wpList_append_own_at (P := Try.prog) _ hgd x y 52 ho base 86 i0 _ 4 48 Try.underlying52 hi hz0 hz1 hz2 rfl (by decide) v l.length (chgsV l) hx h ad 1 cc (chgV c) hy rfl hc (by rw [← chgsOne]; exact chgsV_one _) (by simp only [maxLen]; omega) (by omega) hb ?_
  intro v1 w1 h1 h2 _ h4
  refine hK v1 w1 ?_ h2 h4
  rw [List.length_append, chgsV_append, chgsOne]
  exact h1
theorem stepC {base : Nat} {w : World} {v : Value} {l : List RChg} (h : w.ownsRow base 86 4 v l.length (chgsV l)) (hb : base ≤ w.heap.size) (c : RChg) (hn : l.length ≤ 2000000) {ops : Array Oper} {o : Oper} {a : Act} {K : Act → World → Prop} {Q : Exit → Act → World → Prop} {E : Prop} (hgd : o.guard = none) (x y : Operand)
    (ho : o.op = .call { callee := .builtin .append, args := #[x, y], argTypes := #[52, 52] }) (hx : a.eval x = v) (ad : Addr) (cc : Nat) (hy : a.eval y = .slice (some ad) 1 cc)
    (hc : ∀ j u, (chgV c)[j]? = some u → w.cell? (ad.add j) = some u)
    (hK : ∀ v1 w1, w1.ownsRow base 86 4 v1 (l ++ [c]).length (chgsV (l ++ [c])) → w.grownBy w1 v.ownBlock → (v1.ownBlock = v.ownBlock ∨ v1.ownBlock = some w.heap.size) → K (a.put o.dst v1) w1) :
    if Region.wanted o (yielded ops a.tmps) = true then Oper.wp Try.prog o a w K Q else E := by
  obtain ⟨i0, hi, hzz⟩ := Option.map_eq_some_iff.1 infoChg
  simp only [Prod.mk.injEq] at hzz
  obtain ⟨hz0, hz1, hz2⟩ := hzz
  refine step_append_any hgd x y 52 ho base 86 i0 _ 4 48 Try.underlying52 hi hz0 hz1 hz2 rfl (by decide) v l.length (chgsV l) hx h (some ad) 1 cc (chgV c) hy (fun h => by cases h) rfl (fun ad' e => by cases e; exact hc) (by rw [← chgsOne]; exact chgsV_one _) (by simp only [maxLen]; omega) (by omega) hb ?_
  intro v1 w1 h1 h2 h4
  refine hK v1 w1 ?_ h2 h4
  rw [List.length_append, chgsV_append, chgsOne]
  exact h1
theorem chgNew {w : World} {cs : Array Value} {t b : Nat} (c : RChg) (hX : w.heap[b]? = some (.cells cs t (0, 0))) (hcs : cs.toList = chgV c) : ∀ j u, (chgV c)[j]? = some u → w.cell? ((⟨b, 0, none⟩ : Addr).add j) = some u := by
  rw [← hcs]
  exact World.news_of_block hX
/-- 'append(f.Files, File{})' -/
theorem appendFl {base : Nat} {X : World} {v : Value} {l : List RFile} (h : X.ownsRow base 84 2 v l.length (fsV l)) (hb : base ≤ X.heap.size) (hn : l.length ≤ 2000000) {ops : Array Oper} {rest : List Oper} {o : Oper} {a : Act} {Q : Exit → Act → World → Prop} (hgd : o.guard = none) (x y : Operand)
    (ho : o.op = .call { callee := .builtin .append, args := #[x, y], argTypes := #[53, 53] }) (hx : a.eval x = v) (b cc : Nat) (hy : a.eval y = .slice (some ⟨b, 0, none⟩) 1 cc) {t : Nat}
    (hc : X.heap[b]? = some (.cells #[.slice none 0 0, .int .i64 0] t (0, 0)))
    (hK : ∀ v1 w1, w1.ownsRow base 84 2 v1 (l ++ [(Value.slice none 0 0, [], 0)]).length (fsV (l ++ [(Value.slice none 0 0, [], 0)])) → X.grownBy w1 v.ownBlock → (v1.ownBlock = v.ownBlock ∨ v1.ownBlock = some X.heap.size) → wpList Try.prog ops Q rest (a.put o.dst v1) w1) : wpList Try.prog ops Q (o :: rest) a X := by
  obtain ⟨i0, hi, hzz⟩ := Option.map_eq_some_iff.1 infoFile
  simp only [Prod.mk.injEq] at hzz
  obtain ⟨hz0, hz1, hz2⟩ := hzz
  refine wpList_append_own_at (P := Try.prog) _ hgd x y 53 ho base 84 i0 _ 2 32 Try.underlying53 hi hz0 hz1 hz2 rfl (by decide) v l.length (fsV l) hx h ⟨b, 0, none⟩ 1 cc [.slice none 0 0, .int .i64 0] hy rfl (World.news_of_block hc) (by intro u hu; simp at hu; rcases hu with rfl | rfl <;> rfl) (by simp only [maxLen]; omega) (by omega) hb ?_
  intro v1 w1 h1 h2 _ h4
  refine hK v1 w1 ?_ h2 h4
  rw [List.length_append, fsV_append]
  exact h1
theorem B_len0 : (B ([] : List UInt8)).length = 0 := by rw [B_length]; rfl
theorem nums_app (u v : List UInt8) : nums .u8 (B u) ++ nums .u8 (B v) = nums .u8 (B (u ++ v)) := by simp [nums, B]
theorem nums_len (u : List UInt8) : (nums .u8 (B u)).length = (B u).length * 1 := by simp [nums]
/-- 'append(s, x...)' of bytes, as a step of a region that draws -/
theorem stepB {base : Nat} {w : World} {v : Value} {s : List UInt8} (h : BytesIs w base v s) (hb : base ≤ w.heap.size) (x : List UInt8) (hn : s.length + x.length ≤ 2000000) {ops : Array Oper} {o : Oper} {a : Act} {K : Act → World → Prop} {Q : Exit → Act → World → Prop} {E : Prop} (hgd : o.guard = none) (p q : Operand)
    (ho : o.op = .call { callee := .builtin .append, args := #[p, q], argTypes := #[22, 22] }) (hx : a.eval p = v) (A : Option Addr) (m cc : Nat) (hy : a.eval q = .slice A m cc) (hm : m = x.length)
    (hr : ReadsInt w .u8 A (B x).length (B x))
    (hK : ∀ v1 w1, BytesIs w1 base v1 (s ++ x) → w.grownBy w1 v.ownBlock → (v1.ownBlock = v.ownBlock ∨ v1.ownBlock = some w.heap.size) → K (a.put o.dst v1) w1) :
    if Region.wanted o (yielded ops a.tmps) = true then Oper.wp Try.prog o a w K Q else E := by
  obtain ⟨i0, hi, hzz⟩ := Option.map_eq_some_iff.1 infoU8
  simp only [Prod.mk.injEq] at hzz
  obtain ⟨hz0, hz1, hz2⟩ := hzz
  have hm' : m = (B x).length := by rw [hm, B_length]
  have hl : (B s).length + (B x).length ≤ 2000000 := by rw [B_length, B_length]; exact hn
  subst hm'
  refine step_append_any hgd p q 22 ho base 5 i0 _ 1 1 Try.underlying22 hi hz0 hz1 hz2 rfl (by decide) v (B s).length (nums .u8 (B s)) hx h A (B x).length cc (nums .u8 (B x)) hy (fun e => ?_) (nums_len x) (fun ad e => ?_) nums_one (by simp only [maxLen]; omega) (by omega) hb ?_
  · rcases Nat.eq_zero_or_pos (B x).length with h0 | h0
    · exact h0
    · obtain ⟨a2, e2, _⟩ := hr.2.2 h0
      rw [e] at e2
      cases e2
  · subst e
    exact numsCells hr
  · intro v1 w1 h1 h2 h4
    refine hK v1 w1 ?_ h2 h4
    have e : (B (s ++ x)).length = (B s).length + (B x).length := by simp [B_length]
    unfold BytesIs
    rw [e, ← nums_app]
    exact h1
theorem bytesEmpty {X : World} {base b : Nat} (hX : X.heap[b]? = some (.cells #[] 5 (0, 0))) (hb : base ≤ b) : BytesIs X base (.slice (some ⟨b, 0, none⟩) 0 0) [] :=
  ⟨by simp [nums, B], .inr ⟨b, 0, #[], by rw [B_len0], hb, hX, by rw [B_len0]; exact Nat.le_refl 0, by simp [maxLen], by simp, by simp [nums, B]⟩⟩
theorem bytesReads {X : World} {base n c : Nat} {A : Option Addr} {u : List UInt8} (h : BytesIs X base (.slice A n c) u) : ReadsInt X .u8 A (B u).length (B u) := by
  obtain ⟨A', c', e⟩ := own_slice h
  injection e with e1 e2 e3
  subst e1 e2 e3
  exact own_reads' h
/-- the head's cells behind a growth elsewhere -/
theorem RCore.after {w0 W X w1 : World} {r : Nat} {p : RDisk} {R : Nat → Prop} {vs vl vf : Value} {fl : List RFile} {row : Option Nat} (h : RCore w0 W r p R vs vl vf fl) (hX : Below W.heap.size W X) (hg : X.grownBy w1 row) (hne : row ≠ some r) :
    w1.heap[r]? = W.heap[r]? ∧ w1.cell? ⟨r, 1, none⟩ = some vl ∧ w1.cell? ⟨r, 2, none⟩ = some vf ∧ w1.frozen? ⟨r, 1, none⟩ = false ∧ w1.frozen? ⟨r, 2, none⟩ = false := by
  have hlt := (h.mine r h.inR).2
  have e : w1.heap[r]? = W.heap[r]? := (hg.block r (Nat.lt_of_lt_of_le hlt hX.size) (fun e => hne e.symm)).trans (hX.block r hlt)
  have e2 := e.trans h.head
  refine ⟨e, ?_, ?_, ?_, ?_⟩ <;> simp [World.cell?, World.frozen?, e2]
theorem RTurn.below {w0 W X Y : World} {r : Nat} {d : RDisk} {R : Nat → Prop} (h : RTurn w0 r d R W X) (hb : Below X.heap.size X Y) : RTurn w0 r d R W Y := by
  obtain ⟨R', h1, h2⟩ := h
  exact ⟨R', h1.step hb, h2.trans (Turn.of_below hb)⟩
theorem setOtherCell (W : World) (g o o' : Nat) (v : Value) (h : o ≠ o') : (W.setCell ⟨g, o, none⟩ v).cell? ⟨g, o', none⟩ = W.cell? ⟨g, o', none⟩ := by
  cases hg : W.heap[g]? with
  | none => simp [World.setCell, World.cell?, hg, Array.getElem?_modify]
  | some x => cases x <;> simp [World.setCell, World.cell?, hg, Array.getElem?_modify, Array.getElem?_setIfInBounds, h]
theorem syncEnd {w0 W : World} {r g cf : Nat} {p : RDisk} {R : Nat → Prop} {vs vl : Value} {fl : List RFile} (h : RCore w0 W r p R vs vl (.slice (some ⟨g, 0, none⟩) fl.length cf) fl) (i : Nat) (q : RFile) (hq : ∃ hi : i < fl.length, fl[i] = q) (m : Nat) :
    RTurn w0 r (p.write i q.2.1 m) R W (W.setCell ⟨g, i * 2 + 1, none⟩ (.int .i64 (m : Int))) := by
  obtain ⟨hi, hq⟩ := hq
  have hg := World.ownsRow.lt h.files g rfl
  have hrow := (World.ownsRow.stored h.files (i * 2 + 1) (.int .i64 (m : Int))).1
  rw [fsV_set1 fl i hi m, hq] at hrow
  obtain ⟨R', q1, q2⟩ := writeEnd h i (q.1, q.2.1, m) (X := W) (Below.refl _ _) (fun k hk => heapOther W g _ k _ (fun e => hk (by rw [e]; rfl))) (by simp [World.setCell]) (h.below.setCell hg.1 _) hrow (.inl ⟨q, hq ▸ List.getElem_mem hi, rfl, rfl⟩)
  exact ⟨R', ⟨_, _, _, _, q1⟩, q2⟩
theorem appEnd {w0 W X : World} {r g cf : Nat} {p : RDisk} {R : Nat → Prop} {vs vl : Value} {fl : List RFile} (h : RCore w0 W r p R vs vl (.slice (some ⟨g, 0, none⟩) fl.length cf) fl) (i : Nat) (q : RFile) (hq : ∃ hi : i < fl.length, fl[i] = q) (hX : Below W.heap.size W X) {v : Value} {b : List UInt8} (hv : BytesIs X W.heap.size v b) :
    RTurn w0 r (p.write i b q.2.2) R W (X.setCell ⟨g, i * 2, none⟩ v) := by
  obtain ⟨hi, hq⟩ := hq
  have hg := World.ownsRow.lt h.files g rfl
  have hrow := (World.ownsRow.stored (own_move h.files (fun k hk => hX.block k (World.ownsRow.lt h.files k hk).2)) (i * 2) v).1
  rw [fsV_set0 fl i hi v b, hq] at hrow
  obtain ⟨R', q1, q2⟩ := writeEnd h i (v, b, q.2.2) (X := X) hX (fun k hk => heapOther X g _ k _ (fun e => hk (by rw [e]; rfl))) (by simp [World.setCell]) ((h.below.trans (hX.mono h.below.size)).setCell hg.1 _) hrow (.inr hv)
  exact ⟨R', ⟨_, _, _, _, q1⟩, q2⟩
theorem usedLe {d : RDisk} {N : Nat} (hok : ROk d N) (hN : N ≤ 900000) : (d.used : Int) ≤ 9000000000000 := by
  have h1 : d.used ≤ d.dir.length * N := by
    unfold RDisk.used
    have h0 := hok.dirLen
    have hb := fun i => (bytes_le hok i).1
    generalize d.dir = l at h0
    clear h0
    induction l with
    | nil => simp
    | cons p l ih =>
      rw [List.map_cons, List.sum_cons, List.length_cons, Nat.add_mul]
      have := hb p.2
      omega
  have h2 : d.dir.length * N ≤ 900000 * 900000 := Nat.mul_le_mul (Nat.le_trans hok.dirLen hN) hN
  omega
theorem looseLe {d : RDisk} {N : Nat} (hok : ROk d N) (hN : N ≤ 900000) : d.power.2.loose.length ≤ 2000000 := by
  have := hok.power.many.1
  omega
theorem own_three {W : World} {base n size : Nat} {v : Value} {e : TypeId} {xs : List Value} (h : W.ownsRow base e size v n xs) : ∃ A n c, v = .slice A n c := by
  obtain ⟨A, c, e⟩ := own_slice h
  exact ⟨A, _, c, e⟩
theorem sizeAlloc (w : World) (o : Obj) : w.heap.size ≤ (w.alloc o).heap.size := by simp
theorem own_four {W : World} {base n size : Nat} {v : Value} {e : TypeId} {xs : List Value} (h : W.ownsRow base e size v n xs) : ∃ A m c, m = n ∧ v = .slice A m c := by
  obtain ⟨A, c, e⟩ := own_slice h
  exact ⟨A, _, c, rfl, e⟩
theorem grownNew {W X w1 : World} {v : Value} {u : List UInt8} (hX : Below W.heap.size W X) (hg : X.grownBy w1 v.ownBlock) (h : BytesIs X W.heap.size v u) : Below W.heap.size W w1 :=
  hX.grown hg hX.size (fun k hk => (World.ownsRow.lt h k hk).1)
theorem fileCell {w0 W X : World} {r g cf : Nat} {p : RDisk} {R : Nat → Prop} {vs vl : Value} {fl : List RFile} (h : RCore w0 W r p R vs vl (.slice (some ⟨g, 0, none⟩) fl.length cf) fl) {i : Nat} {q : RFile} (hq : ∃ hi : i < fl.length, fl[i] = q) (hX : Below W.heap.size W X) :
    X.cell? ⟨g, i * 2, none⟩ = some q.1 ∧ X.frozen? ⟨g, i * 2, none⟩ = false := by
  obtain ⟨hi, hq⟩ := hq
  obtain ⟨g', c', e, _, _, h1, _, h2, _⟩ := (h.step hX).file i hi
  injection e with e _ _
  injection e with e
  injection e with e _ _
  subst e
  rw [hq] at h1
  exact ⟨h1, h2⟩
/-- the same, above a world -/
theorem stepW {Wb w : World} (hW : Below Wb.heap.size Wb w) {ops : Array Oper} {o : Oper} {a : Act} {K : Act → World → Prop} {Q : Exit → Act → World → Prop} {E : Prop} (hgd : o.guard = none) (p q : Operand)
    (ho : o.op = .call { callee := .builtin .append, args := #[p, q], argTypes := #[22, 22] }) {v : Value} (hx : a.eval p = v) {s : List UInt8} (h : BytesIs w Wb.heap.size v s) (x : List UInt8) (hn : s.length + x.length ≤ 2000000) (A : Option Addr) (m cc : Nat) (hy : a.eval q = .slice A m cc) (hm : m = x.length)
    (hr : ReadsInt w .u8 A (B x).length (B x))
    (hK : ∀ v1 w1, BytesIs w1 Wb.heap.size v1 (s ++ x) → Below Wb.heap.size Wb w1 → K (a.put o.dst v1) w1) :
    if Region.wanted o (yielded ops a.tmps) = true then Oper.wp Try.prog o a w K Q else E :=
  stepB h hW.size x hn hgd p q ho hx A m cc hy hm hr (fun v1 w1 h1 g1 _ => hK v1 w1 h1 (grownNew hW g1 h))
theorem rawBytes (d : RDisk) (i : Nat) : d.power.2.bytes i = d.bytes i := by unfold RDisk.bytes; rw [(rpow_raw d).1]
theorem rawFirm (d : RDisk) (i : Nat) : d.power.2.firm i = d.firm i := by unfold RDisk.firm; rw [(rpow_raw d).1]
end Go.Proofs.Ytibmgcihpbofdaa.Fs
namespace Go.Proofs.Ytibmgcihpbofdaa.Fs
open Go.RowKit Go.Proofs.Ytibmgcihpbofdaa Go.Proofs.Ytibmgcihpbofdaa.Plain Go.Proofs.YtibmgcihpbofdaaW.PrintWords Go.Maps
set_option linter.unusedVariables false
set_option linter.unusedSimpArgs false
theorem own_take {W : World} {base n size k c : Nat} {A : Option Addr} {e : TypeId} {xs : List Value} (h : W.ownsRow base e size (.slice A n c) n xs) (hk : k ≤ n) : W.ownsRow base e size (.slice A k c) k (xs.take (k * size)) := by
  have hl : k * size ≤ n * size := Nat.mul_le_mul_right _ hk
  refine ⟨by rw [List.length_take, h.1]; omega, ?_⟩
  rcases h.2 with ⟨e1, rfl⟩ | ⟨g, cap, cur, e1, hb, hg, hn, hm, hs, ht⟩
  · injection e1 with e2 _ e3
    obtain rfl : k = 0 := by omega
    exact .inl ⟨by rw [e2, e3], rfl⟩
  · injection e1 with e2 _ e3
    refine .inr ⟨g, cap, cur, by rw [e2, e3], hb, hg, by omega, hm, hs, ?_⟩
    rw [← ht, List.take_take]
    congr 1
    omega
theorem ROk.cut {r : RDisk} {N : Nat} (h : ROk r N) (k : Nat) : ROk { r with loose := r.loose.take k } N :=
  ⟨h.srt, mayR_take h.ok k, h.rt1, fun c hc => h.rt2 c (List.mem_of_mem_take hc), fun c hc => h.kd c (List.mem_of_mem_take hc), fun i hi => h.live i (hi.elim .inl (fun ⟨c, hc, e⟩ => .inr ⟨c, List.mem_of_mem_take hc, e⟩)), h.firm, ⟨by have h1 := h.many.1; show r.sure.length + (r.loose.take k).length ≤ N; rw [List.length_take]; omega, h.many.2⟩, h.room, h.fuse⟩
/-- the changes are cut -/
theorem cutEnd {w0 W : World} {r : Nat} {d : RDisk} {R : Nat → Prop} {vs vf : Value} {fl : List RFile} {A : Option Addr} {c : Nat} (h : RCore w0 W r d R vs (.slice A d.loose.length c) vf fl) (k : Nat) (hk : k ≤ d.loose.length) :
    ∃ R', RCore w0 (W.setCell ⟨r, 1, none⟩ (.slice A k c)) r { d with loose := d.loose.take k } R' vs (.slice A k c) vf fl ∧ Turn R W R' (W.setCell ⟨r, 1, none⟩ (.slice A k c)) := by
  obtain ⟨n1, n2, n3, n4⟩ := h.ne
  have hF : ∀ j, j ≠ r → (W.setCell ⟨r, 1, none⟩ (.slice A k c)).heap[j]? = W.heap[j]? := fun j hj => heapOther W r 1 j _ hj
  have hown : ∀ g, (Value.slice A k c).ownBlock = some g → (Value.slice A d.loose.length c).ownBlock = some g := fun g e => (by cases A <;> exact e)
  have hrow := own_take h.loose hk
  have e1 : (chgsV d.loose).take (k * 4) = chgsV (d.loose.take k) := (flat_take chgV_len d.loose k).symm
  rw [e1] at hrow
  have e2 : (d.loose.take k).length = k := by rw [List.length_take]; omega
  obtain ⟨q1, q2⟩ := h.turn (X := W.setCell ⟨r, 1, none⟩ (.slice A k c)) (d' := { d with loose := d.loose.take k }) (vs' := vs) (vl' := .slice A k c) (vf' := vf) (fl' := fl) (fun j _ h1 _ _ => hF j h1) (by simp [World.setCell]) (h.setBelow h.below 1 _) (heapSet W r 1 _ _ _ h.head) (.inl ⟨rfl, rfl⟩)
    (by show (W.setCell ⟨r, 1, none⟩ (.slice A k c)).ownsRow _ _ 4 _ (d.loose.take k).length (chgsV (d.loose.take k)); rw [e2]; exact own_move hrow (fun j e => hF j (n2 j (hown j e)).1)) (fun g e => .inl (h.inL g (hown g e)))
    (own_move h.files (fun j e => hF j (n3 j e).1)) (fun g e => .inl (h.inF g e)) h.eq (fun q hq => .inl hq)
  exact ⟨_, q1, q2⟩
theorem fsV_set01 (fl : List RFile) (i : Nat) (hi : i < fl.length) (v : Value) (b : List UInt8) (s : Nat) : ((fsV fl).set (i * 2) v).set (i * 2 + 1) (.int .i64 (s : Int)) = fsV (fl.set i (v, b, s)) := by
  rw [fsV_set0 fl i hi v b, fsV_set1 _ i (by rw [List.length_set]; exact hi) s, List.set_set]
  simp
/-- a file is cut: both cells are stored into -/
theorem fileCut {w0 W X : World} {r g cf : Nat} {p : RDisk} {R : Nat → Prop} {vs vl : Value} {fl : List RFile} (h : RCore w0 W r p R vs vl (.slice (some ⟨g, 0, none⟩) fl.length cf) fl) (i : Nat) (hi : i < fl.length) (hX : Below W.heap.size W X) {v : Value} {b : List UInt8} (hv : BytesIs X W.heap.size v b) (s : Nat) :
    ∃ R', RCore w0 ((X.setCell ⟨g, i * 2, none⟩ v).setCell ⟨g, i * 2 + 1, none⟩ (.int .i64 (s : Int))) r (p.write i b s) R' vs vl (.slice (some ⟨g, 0, none⟩) fl.length cf) (fl.set i (v, b, s)) ∧ Turn R W R' ((X.setCell ⟨g, i * 2, none⟩ v).setCell ⟨g, i * 2 + 1, none⟩ (.int .i64 (s : Int))) := by
  have hg := World.ownsRow.lt h.files g rfl
  have h1 := (World.ownsRow.stored (own_move h.files (fun k hk => hX.block k (World.ownsRow.lt h.files k hk).2)) (i * 2) v).1
  have h2 := (World.ownsRow.stored h1 (i * 2 + 1) (.int .i64 (s : Int))).1
  rw [fsV_set01 fl i hi v b s] at h2
  exact writeEnd h i (v, b, s) (X := X) hX (fun k hk => by
    have hkg : k ≠ g := fun e => hk (by rw [e]; rfl)
    rw [heapOther _ g _ k _ hkg, heapOther _ g _ k _ hkg]) (by simp [World.setCell]) (((h.below.trans (hX.mono h.below.size)).setCell hg.1 _).setCell hg.1 _) h2 (.inr hv)
/-- where the files are cut one by one -/
def mid (d : RDisk) (k : Nat) (M : Int) (i : Nat) : RDisk := { d with sure := dirR d.sure (d.loose.take k), loose := [], files := (d.files.take i).map (cutR M) ++ d.files.drop i }
theorem listSet {α : Type} (f : α → α) : ∀ (l : List α) (i : Nat) (hi : i < l.length), ((l.take i).map f ++ l.drop i).set i (f l[i]) = (l.take (i + 1)).map f ++ l.drop (i + 1)
  | a :: l, 0, _ => rfl
  | a :: l, i + 1, hi => by
    have h := listSet f l i (by simpa using hi)
    show (f a :: ((l.take i).map f ++ l.drop i)).set (i + 1) (f (l[i]'(by simpa using hi))) = f a :: ((l.take (i + 1)).map f ++ l.drop (i + 1))
    rw [List.set_cons_succ, h]
theorem mid_at {d : RDisk} {k : Nat} {M : Int} {i : Nat} (hi : i < d.files.length) : (mid d k M i).files[i]? = some d.files[i] := by
  show ((d.files.take i).map (cutR M) ++ d.files.drop i)[i]? = _
  rw [List.getElem?_append_right (by simp; omega), List.getElem?_drop, show i + (i - ((d.files.take i).map (cutR M)).length) = i by simp; omega, List.getElem?_eq_getElem hi]
theorem mid_len {d : RDisk} {k : Nat} {M : Int} {i : Nat} : (mid d k M i).files.length = d.files.length := by
  show ((d.files.take i).map (cutR M) ++ d.files.drop i).length = _
  simp only [List.length_append, List.length_map, List.length_take, List.length_drop]
  omega
theorem mid_step {d : RDisk} {k : Nat} {M : Int} {i : Nat} (hi : i < d.files.length) {u : List UInt8} {s : Nat} (hq : d.files[i] = (u, s)) {m : Nat} (hm : m = s + min (max M 0).toNat (u.length - s)) : (mid d k M i).write i (u.take m) m = mid d k M (i + 1) := by
  unfold RDisk.write
  have h := listSet (cutR M) d.files i hi
  rw [hq] at h
  have e : cutR M (u, s) = (u.take m, m) := by unfold cutR; rw [hm]
  rw [e] at h
  unfold mid
  rw [← h]
theorem mid_end (d : RDisk) (k : Nat) (M : Int) : { mid d k M d.files.length with fuse := -1, off := false } = ({ sure := dirR d.sure (d.loose.take k), loose := [], files := d.files.map (cutR M), room := d.room, fuse := -1, off := false } : RDisk) := by
  unfold mid
  simp
theorem mid_zero (d : RDisk) (k : Nat) (M : Int) : mid d k M 0 = { ({ d with loose := d.loose.take k } : RDisk) with sure := RDisk.dir { d with loose := d.loose.take k }, loose := [] } := by
  unfold mid RDisk.dir
  simp
theorem rowCap {W : World} {base n size c : Nat} {A : Option Addr} {e : TypeId} {xs : List Value} (h : W.ownsRow base e size (.slice A n c) n xs) : n ≤ c := by
  rcases h.2 with ⟨e1, _⟩ | ⟨g, cap, cur, e1, _, _, hn, _⟩
  · injection e1 with _ e2 e3; omega
  · injection e1 with _ e2 e3; omega
theorem readsTake {X : World} {A : Option Addr} {u : List UInt8} (h : ReadsInt X .u8 A (B u).length (B u)) (k : Nat) : ReadsInt X .u8 A (B (u.take k)).length (B (u.take k)) := by
  have hl : (B (u.take k)).length ≤ (B u).length := by rw [B_length, B_length, List.length_take]; omega
  refine ⟨rfl, Nat.le_trans hl h.2.1, fun h0 => ?_⟩
  obtain ⟨a, e, hc⟩ := h.2.2 (by omega)
  refine ⟨a, e, fun j hj => ?_⟩
  rw [hc j (by omega)]
  have hj2 : j < k := by rw [B_length, List.length_take] at hj; omega
  simp [B, List.getD_eq_getElem?_getD, List.getElem?_take, hj2]
theorem fileCells {w0 W X : World} {r g cf : Nat} {p : RDisk} {R : Nat → Prop} {vs vl : Value} {fl : List RFile} (h : RCore w0 W r p R vs vl (.slice (some ⟨g, 0, none⟩) fl.length cf) fl) {i : Nat} (hi : i < fl.length) (hX : Below W.heap.size W X) :
    X.cell? ⟨g, i * 2, none⟩ = some fl[i].1 ∧ X.cell? ⟨g, i * 2 + 1, none⟩ = some (.int .i64 (fl[i].2.2 : Int)) ∧ X.frozen? ⟨g, i * 2, none⟩ = false ∧ X.frozen? ⟨g, i * 2 + 1, none⟩ = false := by
  obtain ⟨g', c', e, _, _, h1, h2, h3, h4⟩ := (h.step hX).file i hi
  injection e with e _ _
  injection e with e
  injection e with e _ _
  subst e
  exact ⟨h1, h2, h3, h4⟩
theorem crashEndR {w0 W : World} {r : Nat} {p : RDisk} {R : Nat → Prop} {vs vl vf : Value} {fl : List RFile} (h : RCore w0 W r p R vs vl vf fl) : RTurn w0 r { p with fuse := -1, off := false } R W ((W.setCell ⟨r, 5, none⟩ (.bool false)).setCell ⟨r, 4, none⟩ (.int .i64 (-1))) :=
  h.headTurn (fun k hk => (heapOther _ r 4 k _ hk).trans (heapOther W r 5 k _ hk)) (by simp [World.setCell]) (h.setBelow (h.setBelow h.below 5 _) 4 _) (heapSet _ r 4 _ _ _ (heapSet W r 5 _ _ _ h.head)) rfl rfl rfl
end Go.Proofs.Ytibmgcihpbofdaa.Fs
