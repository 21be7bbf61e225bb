/- law04: a list of calls, as it is handed in; n is a number too. law04: alike, whatever the disks are; the start. -/
import Derived.Test.YtibmgcihpbofdaaFsOps
import Derived.Test.YtibmgcihpbofdaaPlayB5
import Derived.Test.YtibmgcihpbofdaaPlayB4
import Derived.Test.YtibmgcihpbofdaaPlayB3
namespace Go.Proofs.Ytibmgcihpbofdaa.Fs
open Go.RowKit Go.Proofs.Ytibmgcihpbofdaa Go.Proofs.Ytibmgcihpbofdaa.Plain Go.Proofs.YtibmgcihpbofdaaW.PrintWords Go.Maps Go.ChangeShapes Go.WideShapes
set_option linter.unusedVariables false
set_option linter.unusedSimpArgs false
def OpsOfN (W : World) (v : Value) : Prop := ∃ (A : Option Addr) (c : Nat) (l : List OpD), v = .slice A l.length c ∧ l.length ≤ 9223372036854775807 ∧
  ∀ j (hj : j < l.length), ∃ ad B' c', A = some ad ∧ (∀ i, i < 6 → W.cell? (ad.add (j * 6 + i)) = (#[Value.int .i64 l[j].kind, .int .i64 l[j].n, .int .i64 l[j].m, .string (S l[j].a), .string (S l[j].b), .slice B' l[j].data.length c'] : Array Value)[i]?) ∧ (Lit.int .i64 l[j].kind).wf = true ∧ (Lit.int .i64 l[j].n).wf = true ∧ (Lit.int .i64 l[j].m).wf = true ∧ l[j].a.length ≤ 140737488351232 ∧ l[j].b.length ≤ 140737488351232 ∧ ReadsInt W .u8 B' (B l[j].data).length (B l[j].data)
set_option maxRecDepth 100000 in
/-- one of them -/
theorem openOpN {H : Type} {enc : TypeId × Value → H} {W : World} {base fuel : Nat} {spare : Nat → Bool} {held : Bool} {cs : List Value} {x : DataW H × List MemPlace} (h : DataW.trod enc Try.prog W base spare held fuel 32 cs = some x) (hw : ∀ q ∈ x.1.weights Try.prog 32, q ≤ reachBytes) :
    ∃ (o : OpD) (B' : Option Addr) (c : Nat), cs = [.int .i64 o.kind, .int .i64 o.n, .int .i64 o.m, .string (S o.a), .string (S o.b), .slice B' o.data.length c] ∧ (Lit.int .i64 o.kind).wf = true ∧ (Lit.int .i64 o.n).wf = true ∧ (Lit.int .i64 o.m).wf = true ∧ o.a.length ≤ 140737488351232 ∧ o.b.length ≤ 140737488351232 ∧ ReadsInt W .u8 B' (B o.data).length (B o.data) := by
  obtain ⟨xs, n, _, hx, hl, hxl, hf⟩ := DataW.trod_struct Try.underlying32 h
  rw [cellsOfOp] at hl
  obtain ⟨c0, c1, c2, c3, c4, c5, rfl⟩ := sixList hl
  obtain ⟨y0, y1, y2, y3, y4, y5, rfl⟩ := sixList (l := xs) (by simpa using hxl)
  have k3 : Try.prog.cellsOf 3 = 1 := by kernel_rfl
  have k9 : Try.prog.cellsOf 9 = 1 := by kernel_rfl
  have k22 : Try.prog.cellsOf 22 = 1 := by kernel_rfl
  have f0 := hf 0 _ rfl
  have f1 := hf 1 _ rfl
  have f2 := hf 2 _ rfl
  have f3 := hf 3 _ rfl
  have f4 := hf 4 _ rfl
  have f5 := hf 5 _ rfl
  simp only [k3, k9, k22, List.drop_succ_cons, List.drop_zero, List.take_succ_cons, List.take_zero, List.getElem?_cons_zero, List.getElem?_cons_succ] at f0 f1 f2 f3 f4 f5
  obtain ⟨m0, e0, -, w0⟩ := DataW.trod_int Try.underlying3 f0
  obtain ⟨m1, e1, -, w1⟩ := DataW.trod_int Try.underlying3 f1
  obtain ⟨m2, e2, -, w2⟩ := DataW.trod_int Try.underlying3 f2
  obtain ⟨s3, e3, q3, -⟩ := DataW.trod_string Try.underlying9 f3
  obtain ⟨s4, e4, q4, -⟩ := DataW.trod_string Try.underlying9 f4
  obtain ⟨u3, rfl⟩ := exS s3
  obtain ⟨u4, rfl⟩ := exS s4
  injection e0 with e0
  injection e1 with e1
  injection e2 with e2
  injection e3 with e3
  injection e4 with e4
  subst e0 e1 e2 e3 e4
  have hlen3 : u3.length ≤ 140737488351232 := by
    have := hw u3.length (by rw [hx]; simp [DataW.weights, Try.underlying32, DataW.weightsEach, q3])
    simpa [reachBytes] using this
  have hlen4 : u4.length ≤ 140737488351232 := by
    have := hw u4.length (by rw [hx]; simp [DataW.weights, Try.underlying32, DataW.weightsEach, q4])
    simpa [reachBytes] using this
  rcases open_ints Try.underlying22 Try.underlying5 (by kernel_rfl) f5 with ⟨e5, _⟩ | ⟨ad, l, cp, zs, e5, _, hl1, hl2, hl3, _, hcell, hwf⟩
  · injection e5 with e5
    subst e5
    exact ⟨⟨m0, m1, m2, u3, u4, []⟩, none, 0, rfl, w0, w1, w2, hlen3, hlen4, ⟨rfl, Nat.zero_le _, fun h => absurd h (Nat.lt_irrefl 0)⟩⟩
  · injection e5 with e5
    subst e5
    have hzl : l ≤ zs.length := by rw [hl3]; split <;> omega
    obtain ⟨u, hu⟩ := exB (zs.take l) (fun z hz => hwf z (List.mem_of_mem_take hz))
    have hul : u.length = l := by have := congrArg List.length hu; rw [B_length, List.length_take] at this; omega
    refine ⟨⟨m0, m1, m2, u3, u4, u⟩, some ad, cp, by rw [← hul], w0, w1, w2, hlen3, hlen4, rfl, by rw [B_length, hul]; simp only [maxLen] at hl2; omega, fun _ => ⟨ad, rfl, fun j hj => ?_⟩⟩
    have hj' : j < l := by rw [B_length, hul] at hj; exact hj
    rw [hcell j (by omega)]
    show some (Value.int .u8 (zs.getD j 0)) = some (Value.int .u8 ((B u).getD j 0))
    rw [← hu]
    simp [List.getD_eq_getElem?_getD, List.getElem?_take, hj']
set_option maxRecDepth 100000 in
/-- all of them -/
theorem opsOfN {H : Type} {enc : TypeId × Value → H} {W : World} {base : Nat} {v : Value} {d : DataW H} {p : List MemPlace} (hv : Value.okWide Try.prog W .any base 23 v) (h : DataW.Trod enc Try.prog W 0 (fun _ => true) true 23 v d p) (hw : ∀ x ∈ d.weights Try.prog 23, x ≤ reachBytes) : OpsOfN W v := by
  obtain ⟨A, n, c, rfl⟩ := okWide_slice Try.underlying23 hv
  obtain ⟨fuel, hf⟩ := h
  rcases Deep.open_slice Try.underlying23 hf with ⟨hcs, _⟩ | ⟨a, len, cap, m, k, D, Pl, hcs, _, hl, hm, hmm, hx, hr⟩
  · simp [Value.cells] at hcs
    obtain ⟨rfl, rfl, rfl⟩ := hcs
    exact ⟨none, 0, [], rfl, by simp, fun j hj => by simp at hj⟩
  · simp [Value.cells] at hcs
    obtain ⟨rfl, rfl, rfl⟩ := hcs
    have hd : d = .slice ((List.range n).map D) ((List.range (m - n)).map fun j => D (n + j)) := (Prod.mk.inj hx).1
    have hop : ∀ j, j < n → ∃ (o : OpD) (B' : Option Addr) (c' : Nat), (∀ i, i < 6 → W.cell? (a.add (j * 6 + i)) = (#[Value.int .i64 o.kind, .int .i64 o.n, .int .i64 o.m, .string (S o.a), .string (S o.b), .slice B' o.data.length c'] : Array Value)[i]?) ∧ (Lit.int .i64 o.kind).wf = true ∧ (Lit.int .i64 o.n).wf = true ∧ (Lit.int .i64 o.m).wf = true ∧ o.a.length ≤ 140737488351232 ∧ o.b.length ≤ 140737488351232 ∧ ReadsInt W .u8 B' (B o.data).length (B o.data) := by
      intro j hj
      obtain ⟨cs', hc, ht⟩ := hr j (by rw [hmm]; split <;> omega)
      obtain ⟨o, B', c', e, r1, r1b, r1c, r2, r3, r4⟩ := openOpN ht (fun q hq => hw q (by
        rw [hd]
        simp only [DataW.weights, Try.underlying23, List.mem_cons, List.mem_append]
        exact .inr (.inl (weightsAll_mem (List.mem_map.2 ⟨j, List.mem_range.2 hj, rfl⟩) q hq))))
      refine ⟨o, B', c', fun i hi => ?_, r1, r1b, r1c, r2, r3, r4⟩
      obtain ⟨_, _, h3⟩ := World.cells?_some hc
      rw [cellsOfOp] at h3
      have h4 := h3 i hi
      rw [e] at h4
      rw [← Addr.add_add, h4]
      simp
    refine ⟨some a, c, (List.range n).map fun j => if hj : j < n then (hop j hj).choose else ⟨0, 0, 0, [], [], []⟩, by simp, by simp only [List.length_map, List.length_range]; simp only [maxLen] at hm; omega, fun j hj => ?_⟩
    have hjn : j < n := by simpa using hj
    obtain ⟨B', c', q⟩ := (hop j hjn).choose_spec
    refine ⟨a, B', c', rfl, ?_⟩
    have e : ((List.range n).map fun j => if hj : j < n then (hop j hj).choose else (⟨0, 0, 0, [], [], []⟩ : OpD))[j] = (hop j hjn).choose := by simp [hjn]
    rw [e]
    exact q
end Go.Proofs.Ytibmgcihpbofdaa.Fs
namespace Go.Proofs.Ytibmgcihpbofdaa.Fs
open Go.RowKit Go.Proofs.Ytibmgcihpbofdaa Go.Proofs.Ytibmgcihpbofdaa.Plain Go.Proofs.YtibmgcihpbofdaaW.PrintWords Go.Maps
set_option linter.unusedVariables false
set_option linter.unusedSimpArgs false
theorem alikeAny {w0 W : World} {f r : Nat} {d : Disk} {rd : RDisk} {N : Nat} {blk : Nat → Nat} (h : BothAny w0 f r d rd N W) (hS : Sim blk d rd) (hok : ROk rd N) (hN : N ≤ 900000) :
    Calls Try.prog 30 #[.pointer (some ⟨f, 0, none⟩), .pointer (some ⟨r, 0, none⟩)] W fun e W' => e = .returned (.bool true) ∧ Below W.heap.size W W' := by
  obtain ⟨T, R, h⟩ := h
  cases hoff : rd.off with
  | false => exact alikeOn h.fs h.ref hS hok hN hoff
  | true =>
    by_cases hl : rd.dir.length = 0
    · exact alikeOff0 h.fs h.ref hS hok hN hoff hl
    · exact alikeOff1 h.fs h.ref hS hok hN hoff (by omega)
theorem BothAny.step {w0 W X : World} {f r : Nat} {d : Disk} {rd : RDisk} {N : Nat} (h : BothAny w0 f r d rd N W) (hb : Below W.heap.size W X) : BothAny w0 f r d rd N X := by
  obtain ⟨T, R, h⟩ := h
  exact ⟨T, R, h.step hb⟩
theorem BothAny.le {w0 W : World} {f r : Nat} {d : Disk} {rd : RDisk} {N N' : Nat} (h : BothAny w0 f r d rd N W) (hN : N ≤ N') : BothAny w0 f r d rd N' W := by
  obtain ⟨T, R, h⟩ := h
  exact ⟨T, R, h.fs.le' hN, h.ref, h.apart⟩
theorem BothAny.below {w0 W : World} {f r : Nat} {d : Disk} {rd : RDisk} {N : Nat} (h : BothAny w0 f r d rd N W) : Below w0.heap.size w0 W := by
  obtain ⟨T, R, h⟩ := h
  exact h.ref.below
theorem refFresh {w0 W : World} (hb : Below w0.heap.size w0 W) (n : Int) : RAt w0 W.heap.size (RDisk.fresh n) (fun k => k = W.heap.size) (W.alloc (.cells #[.slice none 0 0, .slice none 0 0, .slice none 0 0, .int .i64 (min (max n 0) 16777216), .int .i64 (-1), .bool false] 55)) :=
  ⟨.slice none 0 0, .slice none 0 0, .slice none 0 0, [], {
    head := heap_alloc_new W _
    sure := own_nil _ _ _ _
    loose := own_nil _ _ _ _
    files := own_nil _ _ _ _
    eq := rfl
    each := fun p hp => by cases hp
    inR := rfl
    inS := fun g e => by cases e
    inL := fun g e => by cases e
    inF := fun g e => by cases e
    inX := fun p hp => by cases hp
    mine := fun k hk => by subst hk; exact ⟨hb.size, by simp⟩
    below := below_alloc hb _ }⟩
theorem bothFresh {w0 W : World} {f : Nat} {T : Nat → Prop} {n : Int} (h : FsAt w0 f (Disk.fresh n) 0 T W) : BothAny w0 f W.heap.size (Disk.fresh n) (RDisk.fresh n) 0 (W.alloc (.cells #[.slice none 0 0, .slice none 0 0, .slice none 0 0, .int .i64 (min (max n 0) 16777216), .int .i64 (-1), .bool false] 55)) :=
  ⟨T, _, h.step (below_alloc (Below.refl _ _) _), refFresh h.below' n, fun k hT hR => by have := (h.lt k hT).2; omega⟩
/-- one write of both: both answer the same, and stay alike -/
theorem bothAct {blk : Nat → Nat} {d : Disk} {rd : RDisk} {N : Nat} (hS : Sim blk d rd) (hok : ROk rd N) {kind : Int} (hk : 1 ≤ kind ∧ kind ≤ 6) {y : Nat} (hy : kind = 1 → ¬ d.has y) (a b : Nm) (u : List UInt8) :
    (∃ blk', Sim blk' (d.act y kind a b u).2 (rd.act kind a b u).2) ∧ (d.act y kind a b u).1 = (rd.act kind a b u).1 ∧ ROk (rd.act kind a b u).2 (N + u.length + 1) :=
  ⟨(sim_act hS hok hk hy a b u).1, (sim_act hS hok hk hy a b u).2, rok_act hok kind hk a b u⟩
end Go.Proofs.Ytibmgcihpbofdaa.Fs
