/- law04: a list of calls, as it is handed in. -/
import Derived.Test.YtibmgcihpbofdaaFsDo
import Derived.OpenShut
import Derived.Deep.Slices
import Derived.DataReads
import Derived.ChangeArms
namespace Go.Proofs.Ytibmgcihpbofdaa.Fs
open Go.RowKit Go.Proofs.Ytibmgcihpbofdaa Go.Proofs.Ytibmgcihpbofdaa.Plain Go.Proofs.YtibmgcihpbofdaaW.PrintWords Go.Maps Go.ChangeShapes Go.WideShapes
set_option linter.unusedVariables false
set_option linter.unusedSimpArgs false
structure OpD where
  kind : Int
  n : Int
  m : Int
  a : Nm
  b : Nm
  data : List UInt8
def OpsOf (W : World) (v : Value) : Prop := ∃ (A : Option Addr) (c : Nat) (l : List OpD), v = .slice A l.length c ∧ l.length ≤ 9223372036854775807 ∧
  ∀ j (hj : j < l.length), ∃ ad B' c', A = some ad ∧ (∀ i, i < 6 → W.cell? (ad.add (j * 6 + i)) = (#[Value.int .i64 l[j].kind, .int .i64 l[j].n, .int .i64 l[j].m, .string (S l[j].a), .string (S l[j].b), .slice B' l[j].data.length c'] : Array Value)[i]?) ∧ (Lit.int .i64 l[j].kind).wf = true ∧ l[j].a.length ≤ 140737488351232 ∧ l[j].b.length ≤ 140737488351232 ∧ ReadsInt W .u8 B' (B l[j].data).length (B l[j].data)
theorem cellsOfOp : Try.prog.cellsOf 32 = 6 := by kernel_rfl
theorem sixList {α : Type} {l : List α} (h : l.length = 6) : ∃ a b c d e f, l = [a, b, c, d, e, f] := by
  match l, h with
  | [a, b, c, d, e, f], _ => exact ⟨a, b, c, d, e, f, rfl⟩
set_option maxRecDepth 100000 in
/-- one of them -/
theorem openOp {H : Type} {enc : TypeId × Value → H} {W : World} {base fuel : Nat} {spare : Nat → Bool} {held : Bool} {cs : List Value} {x : DataW H × List MemPlace} (h : DataW.trod enc Try.prog W base spare held fuel 32 cs = some x) (hw : ∀ q ∈ x.1.weights Try.prog 32, q ≤ reachBytes) :
    ∃ (o : OpD) (B' : Option Addr) (c : Nat), cs = [.int .i64 o.kind, .int .i64 o.n, .int .i64 o.m, .string (S o.a), .string (S o.b), .slice B' o.data.length c] ∧ (Lit.int .i64 o.kind).wf = true ∧ o.a.length ≤ 140737488351232 ∧ o.b.length ≤ 140737488351232 ∧ ReadsInt W .u8 B' (B o.data).length (B o.data) := by
  obtain ⟨xs, n, _, hx, hl, hxl, hf⟩ := DataW.trod_struct Try.underlying32 h
  rw [cellsOfOp] at hl
  obtain ⟨c0, c1, c2, c3, c4, c5, rfl⟩ := sixList hl
  obtain ⟨y0, y1, y2, y3, y4, y5, rfl⟩ := sixList (l := xs) (by simpa using hxl)
  have k3 : Try.prog.cellsOf 3 = 1 := by kernel_rfl
  have k9 : Try.prog.cellsOf 9 = 1 := by kernel_rfl
  have k22 : Try.prog.cellsOf 22 = 1 := by kernel_rfl
  have f0 := hf 0 _ rfl
  have f1 := hf 1 _ rfl
  have f2 := hf 2 _ rfl
  have f3 := hf 3 _ rfl
  have f4 := hf 4 _ rfl
  have f5 := hf 5 _ rfl
  simp only [k3, k9, k22, List.drop_succ_cons, List.drop_zero, List.take_succ_cons, List.take_zero, List.getElem?_cons_zero, List.getElem?_cons_succ] at f0 f1 f2 f3 f4 f5
  obtain ⟨m0, e0, -, w0⟩ := DataW.trod_int Try.underlying3 f0
  obtain ⟨m1, e1, -, w1⟩ := DataW.trod_int Try.underlying3 f1
  obtain ⟨m2, e2, -, w2⟩ := DataW.trod_int Try.underlying3 f2
  obtain ⟨s3, e3, q3, -⟩ := DataW.trod_string Try.underlying9 f3
  obtain ⟨s4, e4, q4, -⟩ := DataW.trod_string Try.underlying9 f4
  obtain ⟨u3, rfl⟩ := exS s3
  obtain ⟨u4, rfl⟩ := exS s4
  injection e0 with e0
  injection e1 with e1
  injection e2 with e2
  injection e3 with e3
  injection e4 with e4
  subst e0 e1 e2 e3 e4
  have hlen3 : u3.length ≤ 140737488351232 := by
    have := hw u3.length (by rw [hx]; simp [DataW.weights, Try.underlying32, DataW.weightsEach, q3])
    simpa [reachBytes] using this
  have hlen4 : u4.length ≤ 140737488351232 := by
    have := hw u4.length (by rw [hx]; simp [DataW.weights, Try.underlying32, DataW.weightsEach, q4])
    simpa [reachBytes] using this
  rcases open_ints Try.underlying22 Try.underlying5 (by kernel_rfl) f5 with ⟨e5, _⟩ | ⟨ad, l, cp, zs, e5, _, hl1, hl2, hl3, _, hcell, hwf⟩
  · injection e5 with e5
    subst e5
    exact ⟨⟨m0, m1, m2, u3, u4, []⟩, none, 0, rfl, w0, hlen3, hlen4, ⟨rfl, Nat.zero_le _, fun h => absurd h (Nat.lt_irrefl 0)⟩⟩
  · injection e5 with e5
    subst e5
    have hzl : l ≤ zs.length := by rw [hl3]; split <;> omega
    obtain ⟨u, hu⟩ := exB (zs.take l) (fun z hz => hwf z (List.mem_of_mem_take hz))
    have hul : u.length = l := by have := congrArg List.length hu; rw [B_length, List.length_take] at this; omega
    refine ⟨⟨m0, m1, m2, u3, u4, u⟩, some ad, cp, by rw [← hul], w0, hlen3, hlen4, rfl, by rw [B_length, hul]; simp only [maxLen] at hl2; omega, fun _ => ⟨ad, rfl, fun j hj => ?_⟩⟩
    have hj' : j < l := by rw [B_length, hul] at hj; exact hj
    rw [hcell j (by omega)]
    show some (Value.int .u8 (zs.getD j 0)) = some (Value.int .u8 ((B u).getD j 0))
    rw [← hu]
    simp [List.getD_eq_getElem?_getD, List.getElem?_take, hj']
theorem weightsAll_mem {H : Type} {P : Program} {t : TypeId} : ∀ {ds : List (DataW H)} {d : DataW H}, d ∈ ds → ∀ q ∈ d.weights P t, q ∈ DataW.weightsAll P t ds
  | d0 :: ds, d, hd, q, hq => by
    simp only [DataW.weightsAll, List.mem_append]
    rcases List.mem_cons.1 hd with e | e
    · subst e; exact .inl hq
    · exact .inr (weightsAll_mem e q hq)
set_option maxRecDepth 100000 in
/-- all of them -/
theorem opsOf {H : Type} {enc : TypeId × Value → H} {W : World} {base : Nat} {v : Value} {d : DataW H} {p : List MemPlace} (hv : Value.okWide Try.prog W .any base 23 v) (h : DataW.Trod enc Try.prog W 0 (fun _ => true) true 23 v d p) (hw : ∀ x ∈ d.weights Try.prog 23, x ≤ reachBytes) : OpsOf W v := by
  obtain ⟨A, n, c, rfl⟩ := okWide_slice Try.underlying23 hv
  obtain ⟨fuel, hf⟩ := h
  rcases Deep.open_slice Try.underlying23 hf with ⟨hcs, _⟩ | ⟨a, len, cap, m, k, D, Pl, hcs, _, hl, hm, hmm, hx, hr⟩
  · simp [Value.cells] at hcs
    obtain ⟨rfl, rfl, rfl⟩ := hcs
    exact ⟨none, 0, [], rfl, by simp, fun j hj => by simp at hj⟩
  · simp [Value.cells] at hcs
    obtain ⟨rfl, rfl, rfl⟩ := hcs
    have hd : d = .slice ((List.range n).map D) ((List.range (m - n)).map fun j => D (n + j)) := (Prod.mk.inj hx).1
    have hop : ∀ j, j < n → ∃ (o : OpD) (B' : Option Addr) (c' : Nat), (∀ i, i < 6 → W.cell? (a.add (j * 6 + i)) = (#[Value.int .i64 o.kind, .int .i64 o.n, .int .i64 o.m, .string (S o.a), .string (S o.b), .slice B' o.data.length c'] : Array Value)[i]?) ∧ (Lit.int .i64 o.kind).wf = true ∧ o.a.length ≤ 140737488351232 ∧ o.b.length ≤ 140737488351232 ∧ ReadsInt W .u8 B' (B o.data).length (B o.data) := by
      intro j hj
      obtain ⟨cs', hc, ht⟩ := hr j (by rw [hmm]; split <;> omega)
      obtain ⟨o, B', c', e, r1, r2, r3, r4⟩ := openOp ht (fun q hq => hw q (by
        rw [hd]
        simp only [DataW.weights, Try.underlying23, List.mem_cons, List.mem_append]
        exact .inr (.inl (weightsAll_mem (List.mem_map.2 ⟨j, List.mem_range.2 hj, rfl⟩) q hq))))
      refine ⟨o, B', c', fun i hi => ?_, r1, r2, r3, r4⟩
      obtain ⟨_, _, h3⟩ := World.cells?_some hc
      rw [cellsOfOp] at h3
      have h4 := h3 i hi
      rw [e] at h4
      rw [← Addr.add_add, h4]
      simp
    refine ⟨some a, c, (List.range n).map fun j => if hj : j < n then (hop j hj).choose else ⟨0, 0, 0, [], [], []⟩, by simp, by simp only [List.length_map, List.length_range]; simp only [maxLen] at hm; omega, fun j hj => ?_⟩
    have hjn : j < n := by simpa using hj
    obtain ⟨B', c', q⟩ := (hop j hjn).choose_spec
    refine ⟨a, B', c', rfl, ?_⟩
    have e : ((List.range n).map fun j => if hj : j < n then (hop j hj).choose else (⟨0, 0, 0, [], [], []⟩ : OpD))[j] = (hop j hjn).choose := by simp [hjn]
    rw [e]
    exact q
theorem opCells {W X : World} {ad : Addr} {i : Nat} {c0 c1 c2 c3 c4 c5 : Value} (h : ∀ k, k < 6 → W.cell? (ad.add (i * 6 + k)) = (#[c0, c1, c2, c3, c4, c5] : Array Value)[k]?) (hb : Below W.heap.size W X) :
    X.cell? (ad.add (i * 6)) = some c0 ∧ X.cell? ⟨(ad.add (i * 6)).block, (ad.add (i * 6)).off + 1, none⟩ = some c1 ∧ X.cell? ⟨(ad.add (i * 6)).block, (ad.add (i * 6)).off + 2, none⟩ = some c2 ∧ X.cell? ⟨(ad.add (i * 6)).block, (ad.add (i * 6)).off + 3, none⟩ = some c3 ∧ X.cell? ⟨(ad.add (i * 6)).block, (ad.add (i * 6)).off + 4, none⟩ = some c4 ∧ X.cell? ⟨(ad.add (i * 6)).block, (ad.add (i * 6)).off + 5, none⟩ = some c5 := by
  have key : ∀ k v, k < 6 → (#[c0, c1, c2, c3, c4, c5] : Array Value)[k]? = some v → X.cell? ((ad.add (i * 6)).add k) = some v := fun k v hk hv => by
    have h1 := (h k hk).trans hv
    rw [← Addr.add_add] at h1
    exact (World.cell?_of_block (hb.block _ (World.block_lt_of_cell? _ _ h1))).trans h1
  refine ⟨?_, key 1 c1 (by omega) rfl, key 2 c2 (by omega) rfl, key 3 c3 (by omega) rfl, key 4 c4 (by omega) rfl, key 5 c5 (by omega) rfl⟩
  have := key 0 c0 (by omega) rfl
  simpa [Addr.add] using this
end Go.Proofs.Ytibmgcihpbofdaa.Fs
