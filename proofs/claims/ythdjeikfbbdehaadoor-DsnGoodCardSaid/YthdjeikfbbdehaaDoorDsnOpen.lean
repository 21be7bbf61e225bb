/- law23: a mail and fates, opened. -/
import Derived.Test.YthdjeikfbbdehaaDoorStrList
namespace Go.Proofs.YthdjeikfbbdehaaDoor.Fs
open Go.RowKit Go.Proofs.YthdjeikfbbdehaaDoor Go.Proofs.YthdjeikfbbdehaaDoor.Plain Go.Proofs.YthdjeikfbbdehaaDoorW.PrintWords Go.Maps Go.ChangeShapes Go.WideShapes
set_option linter.unusedVariables false
set_option linter.unusedSimpArgs false
structure MailD where
  id : Int
  par : Int
  born : Int
  sender : Nm
  rcpts : List Nm
  body : List UInt8
def MailAt (W : World) (v : Value) (m : MailD) : Prop := ∃ (A : Option Addr) (c : Nat) (Q : Option Addr) (q : Nat), v = .agg #[.int .i64 m.id, .int .i64 m.par, .int .i64 m.born, .string (S m.sender), .slice A m.rcpts.length c, .slice Q m.body.length q] ∧ m.sender.length ≤ 140737488351232 ∧ m.rcpts.length ≤ 9223372036854775807 ∧ NamesAt W A m.rcpts ∧ ReadsInt W .u8 Q (B m.body).length (B m.body)
def MailOf (W : World) (v : Value) : Prop := ∃ m, MailAt W v m ∧ (Lit.int .i64 m.id).wf = true ∧ (Lit.int .i64 m.par).wf = true ∧ (Lit.int .i64 m.born).wf = true
set_option maxRecDepth 100000 in
theorem openStrs {H : Type} {enc : TypeId × Value → H} {W : World} {fuel : Nat} {v : Value} {x : DataW H × List MemPlace} (hf : DataW.trod enc Tryd.prog W 0 (fun _ => true) true fuel 38 [v] = some x) (hw : ∀ q ∈ x.1.weights Tryd.prog 38, q ≤ reachBytes) : ∃ (A : Option Addr) (c : Nat) (l : List Nm), v = .slice A l.length c ∧ l.length ≤ 9223372036854775807 ∧ NamesAt W A l := by
  rcases Deep.open_slice Tryd.underlying38 hf with ⟨hcs, _⟩ | ⟨a, n, c, m, k, D, Pl, hcs, _, hl, hm, hmm, hx, hr⟩
  · injection hcs with hcs
    subst hcs
    exact ⟨none, 0, [], rfl, by simp, fun j hj => by simp at hj⟩
  · injection hcs with hcs
    subst hcs
    have hd : x.1 = .slice ((List.range n).map D) ((List.range (m - n)).map fun j => D (n + j)) := by rw [hx]
    have hop : ∀ j, j < n → ∃ s : Nm, W.cell? (a.add j) = some (.string (S s)) ∧ s.length ≤ 140737488351232 := by
      intro j hj
      obtain ⟨cs', hc, ht⟩ := hr j (by rw [hmm]; split <;> omega)
      obtain ⟨s3, e3, q3, -⟩ := DataW.trod_string Tryd.underlying9 ht
      obtain ⟨u3, rfl⟩ := exS s3
      obtain ⟨_, _, h3⟩ := World.cells?_some hc
      rw [cellsOfStr] at h3
      have h4 := h3 0 (by omega)
      rw [e3] at h4
      have hlen3 : u3.length ≤ 140737488351232 := by
        have := hw u3.length (by
          rw [hd]
          simp only [DataW.weights, Tryd.underlying38, List.mem_cons, List.mem_append]
          refine .inr (.inl (weightsAll_mem' (List.mem_map.2 ⟨j, List.mem_range.2 hj, rfl⟩) _ ?_))
          rw [(Prod.mk.inj q3).1]
          simp [DataW.weights])
        simpa [reachBytes] using this
      refine ⟨u3, ?_, hlen3⟩
      have e5 : (a.add (j * 1)).add 0 = a.add j := by rw [Addr.add_add, Nat.mul_one, Nat.add_zero]
      first
        | exact h4
        | (rw [← e5]; simpa using h4)
        | simpa using h4
    refine ⟨some a, c, (List.range n).map fun j => if hj : j < n then (hop j hj).choose else [], by simp, by simp only [List.length_map, List.length_range]; simp only [maxLen] at hm; omega, fun j hj => ?_⟩
    have hjn : j < n := by simpa using hj
    obtain ⟨q1, q2⟩ := (hop j hjn).choose_spec
    have e : ((List.range n).map fun j => if hj : j < n then (hop j hj).choose else ([] : Nm))[j] = (hop j hjn).choose := by simp [hjn]
    rw [e]
    exact ⟨a, rfl, q1, q2⟩
theorem cellsOfMail : Tryd.prog.cellsOf 40 = 6 := by kernel_rfl
theorem cellsOfFate : Tryd.prog.cellsOf 45 = 5 := by kernel_rfl
theorem six {α : Type} {l : List α} (h : l.length = 6) : ∃ a b c d e f, l = [a, b, c, d, e, f] := by
  match l, h with
  | [a, b, c, d, e, f], _ => exact ⟨a, b, c, d, e, f, rfl⟩
theorem five {α : Type} {l : List α} (h : l.length = 5) : ∃ a b c d e, l = [a, b, c, d, e] := by
  match l, h with
  | [a, b, c, d, e], _ => exact ⟨a, b, c, d, e, rfl⟩
set_option maxRecDepth 100000 in
theorem mailOf {H : Type} {enc : TypeId × Value → H} {W : World} {base : Nat} {v : Value} {d : DataW H} {p : List MemPlace} (hv : Value.okWide Tryd.prog W .any base 40 v) (h : DataW.Trod enc Tryd.prog W 0 (fun _ => true) true 40 v d p) (hw : ∀ x ∈ d.weights Tryd.prog 40, x ≤ reachBytes) : MailOf W v := by
  obtain ⟨cs, rfl, hcs⟩ := okWide_struct Tryd.underlying40 hv
  obtain ⟨fuel, hf⟩ := h
  obtain ⟨xs, n, _, hx, hl, hxl, hf⟩ := DataW.trod_struct Tryd.underlying40 hf
  have hd := (Prod.mk.inj hx).1
  rw [cellsOfMail] at hl
  obtain ⟨c0, c1, c2, c3, c4, c5, he⟩ := six hl
  obtain ⟨y0, y1, y2, y3, y4, y5, rfl⟩ := six (l := xs) (by simpa using hxl)
  have hce : cs = #[c0, c1, c2, c3, c4, c5] := by
    simp only [Value.cells] at he
    exact Array.toList_inj.1 he
  subst hce
  rw [he] at hf
  have k3 : Tryd.prog.cellsOf 3 = 1 := by kernel_rfl
  have k9 : Tryd.prog.cellsOf 9 = 1 := by kernel_rfl
  have k22 : Tryd.prog.cellsOf 24 = 1 := by kernel_rfl
  have k38 : Tryd.prog.cellsOf 38 = 1 := by kernel_rfl
  have f0 := hf 0 _ rfl
  have f1 := hf 1 _ rfl
  have f2 := hf 2 _ rfl
  have f3 := hf 3 _ rfl
  have f4 := hf 4 _ rfl
  have f5 := hf 5 _ rfl
  simp only [k3, k9, k22, k38, List.drop_succ_cons, List.drop_zero, List.take_succ_cons, List.take_zero, List.getElem?_cons_zero, List.getElem?_cons_succ] at f0 f1 f2 f3 f4 f5
  obtain ⟨m0, e0, -, w0⟩ := DataW.trod_int Tryd.underlying3 f0
  obtain ⟨m1, e1, -, w1⟩ := DataW.trod_int Tryd.underlying3 f1
  obtain ⟨m2, e2, -, w2⟩ := DataW.trod_int Tryd.underlying3 f2
  obtain ⟨s3, e3, q3, -⟩ := DataW.trod_string Tryd.underlying9 f3
  obtain ⟨u3, rfl⟩ := exS s3
  injection e0 with e0
  injection e1 with e1
  injection e2 with e2
  injection e3 with e3
  subst e0 e1 e2 e3
  have hlen3 : u3.length ≤ 140737488351232 := by
    have := hw u3.length (by rw [hd]; simp [DataW.weights, Tryd.underlying40, DataW.weightsEach, q3])
    simpa [reachBytes] using this
  obtain ⟨A4, c4'', l4, e4, hl4, hn4⟩ := openStrs f4 (fun q hq => hw q (by rw [hd]; simp only [DataW.weights, Tryd.underlying40]; simp [DataW.weightsEach]; simp_all))
  subst e4
  rcases open_ints Tryd.underlying24 Tryd.underlying5 (by kernel_rfl) f5 with ⟨e5, _⟩ | ⟨ad, l, cp, zs, e5, _, hl1, hl2, hl3, _, hcell, hwf⟩
  · injection e5 with e5
    subst e5
    exact ⟨⟨m0, m1, m2, u3, l4, []⟩, ⟨A4, c4'', none, 0, rfl, hlen3, hl4, hn4, rfl, Nat.zero_le _, fun h => absurd h (Nat.lt_irrefl 0)⟩, w0, w1, w2⟩
  · injection e5 with e5
    subst e5
    have hzl : l ≤ zs.length := by rw [hl3]; split <;> omega
    obtain ⟨u, hu⟩ := exB (zs.take l) (fun z hz => hwf z (List.mem_of_mem_take hz))
    have hul : u.length = l := by have := congrArg List.length hu; rw [B_length, List.length_take] at this; omega
    refine ⟨⟨m0, m1, m2, u3, l4, u⟩, ⟨A4, c4'', some ad, cp, by rw [← hul], hlen3, hl4, hn4, rfl, by rw [B_length, hul]; simp only [maxLen] at hl2; omega, fun _ => ⟨ad, rfl, fun j hj => ?_⟩⟩, w0, w1, w2⟩
    have hj' : j < l := by rw [B_length, hul] at hj; exact hj
    rw [hcell j (by omega)]
    show some (Value.int .u8 (zs.getD j 0)) = some (Value.int .u8 ((B u).getD j 0))
    rw [← hu]
    simp [List.getD_eq_getElem?_getD, List.getElem?_take, hj']
/-- fates: their states -/
def FatesAt (W : World) (A : Option Addr) (l : List Int) : Prop := ∀ j (hj : j < l.length), ∃ (ad : Addr) (a b c : Int) (o : Bool), A = some ad ∧ ∀ i, i < 5 → W.cell? (ad.add (j * 5 + i)) = (#[Value.int .i64 l[j], .int .i64 a, .int .i64 b, .int .i64 c, .bool o] : Array Value)[i]?
def FatesOf (W : World) (v : Value) : Prop := ∃ (A : Option Addr) (c : Nat) (l : List Int), v = .slice A l.length c ∧ l.length ≤ 9223372036854775807 ∧ FatesAt W A l
set_option maxRecDepth 100000 in
theorem openFate {H : Type} {enc : TypeId × Value → H} {W : World} {base fuel : Nat} {spare : Nat → Bool} {held : Bool} {cs : List Value} {x : DataW H × List MemPlace} (h : DataW.trod enc Tryd.prog W base spare held fuel 45 cs = some x) : ∃ (s a b c : Int) (o : Bool), cs = [.int .i64 s, .int .i64 a, .int .i64 b, .int .i64 c, .bool o] := by
  obtain ⟨xs, n, _, hx, hl, hxl, hf⟩ := DataW.trod_struct Tryd.underlying45 h
  rw [cellsOfFate] at hl
  obtain ⟨c0, c1, c2, c3, c4, rfl⟩ := five hl
  obtain ⟨y0, y1, y2, y3, y4, rfl⟩ := five (l := xs) (by simpa using hxl)
  have k3 : Tryd.prog.cellsOf 3 = 1 := by kernel_rfl
  have k4 : Tryd.prog.cellsOf 4 = 1 := by kernel_rfl
  have f0 := hf 0 _ rfl
  have f1 := hf 1 _ rfl
  have f2 := hf 2 _ rfl
  have f3 := hf 3 _ rfl
  have f4 := hf 4 _ rfl
  simp only [k3, k4, List.drop_succ_cons, List.drop_zero, List.take_succ_cons, List.take_zero, List.getElem?_cons_zero, List.getElem?_cons_succ] at f0 f1 f2 f3 f4
  obtain ⟨m0, e0, -, w0⟩ := DataW.trod_int Tryd.underlying3 f0
  obtain ⟨m1, e1, -, w1⟩ := DataW.trod_int Tryd.underlying3 f1
  obtain ⟨m2, e2, -, w2⟩ := DataW.trod_int Tryd.underlying3 f2
  obtain ⟨m3, e3, -, w3⟩ := DataW.trod_int Tryd.underlying3 f3
  obtain ⟨b4, e4, -⟩ := DataW.trod_bool Tryd.underlying4 f4
  injection e0 with e0
  injection e1 with e1
  injection e2 with e2
  injection e3 with e3
  injection e4 with e4
  subst e0 e1 e2 e3 e4
  exact ⟨_, _, _, _, _, rfl⟩
set_option maxRecDepth 100000 in
theorem fatesOf {H : Type} {enc : TypeId × Value → H} {W : World} {base : Nat} {v : Value} {d : DataW H} {p : List MemPlace} (hv : Value.okWide Tryd.prog W .any base 41 v) (h : DataW.Trod enc Tryd.prog W 0 (fun _ => true) true 41 v d p) (hw : ∀ x ∈ d.weights Tryd.prog 41, x ≤ reachBytes) : FatesOf W v := by
  obtain ⟨A, n, c, rfl⟩ := okWide_slice Tryd.underlying41 hv
  obtain ⟨fuel, hf⟩ := h
  rcases Deep.open_slice Tryd.underlying41 hf with ⟨hcs, _⟩ | ⟨a, len, cap, m, k, D, Pl, hcs, _, hl, hm, hmm, hx, hr⟩
  · simp [Value.cells] at hcs
    obtain ⟨rfl, rfl, rfl⟩ := hcs
    exact ⟨none, 0, [], rfl, by simp, fun j hj => by simp at hj⟩
  · simp [Value.cells] at hcs
    obtain ⟨rfl, rfl, rfl⟩ := hcs
    have hop : ∀ j, j < n → ∃ (s x y z : Int) (o : Bool), ∀ i, i < 5 → W.cell? (a.add (j * 5 + i)) = (#[Value.int .i64 s, .int .i64 x, .int .i64 y, .int .i64 z, .bool o] : Array Value)[i]? := by
      intro j hj
      obtain ⟨cs', hc, ht⟩ := hr j (by rw [hmm]; split <;> omega)
      obtain ⟨s, x, y, z, o, e⟩ := openFate ht
      refine ⟨s, x, y, z, o, fun i hi => ?_⟩
      obtain ⟨_, _, h3⟩ := World.cells?_some hc
      rw [cellsOfFate] at h3
      have h4 := h3 i hi
      rw [e] at h4
      rw [← Addr.add_add, h4]
      simp
    refine ⟨some a, c, (List.range n).map fun j => if hj : j < n then (hop j hj).choose else 0, by simp, by simp only [List.length_map, List.length_range]; simp only [maxLen] at hm; omega, fun j hj => ?_⟩
    have hjn : j < n := by simpa using hj
    obtain ⟨x, y, z, o, q⟩ := (hop j hjn).choose_spec
    refine ⟨a, x, y, z, o, rfl, ?_⟩
    have e : ((List.range n).map fun j => if hj : j < n then (hop j hj).choose else (0 : Int))[j] = (hop j hjn).choose := by simp [hjn]
    rw [e]
    exact q
end Go.Proofs.YthdjeikfbbdehaaDoor.Fs
