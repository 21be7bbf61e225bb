/- law27: a setting, opened. -/
import Derived.Test.YtkcdlfkicopmoaaDoorScrOpen
import Derived.Test.YtkcdlfkicopmoaaDoorScrRSame
namespace Go.Proofs.YtkcdlfkicopmoaaDoor.Fs
open Go.RowKit Go.Proofs.YtkcdlfkicopmoaaDoor Go.Proofs.YtkcdlfkicopmoaaDoor.Plain Go.Proofs.YtkcdlfkicopmoaaDoorW.PrintWords Go.Maps Go.ChangeShapes Go.WideShapes
set_option linter.unusedVariables false
set_option linter.unusedSimpArgs false
def ConfOf (W : World) (v : Value) : Prop := ∃ (c : ConfD) (A : Option Addr) (cp : Nat), v = .agg (cellsC A cp c) ∧ NamesAt W A c.locals ∧ (∀ n ∈ c.ints, I64 n) ∧ c.host.length + Lib.lens c.locals + c.locals.length ≤ 1048576
theorem openStrB {H : Type} {enc : TypeId × Value → H} {W : World} {base fuel : Nat} {spare : Nat → Bool} {held : Bool} {cs : List Value} {x : DataW H × List MemPlace} (h : DataW.trod enc Tryd.prog W base spare held fuel 9 cs = some x) : ∃ u : Nm, cs = [.string (S u)] ∧ Rows.uptoBulk x.1 = u.length + 1 := by
  obtain ⟨s3, e3, q3, -⟩ := DataW.trod_string Tryd.underlying9 h
  obtain ⟨u3, rfl⟩ := exS s3
  refine ⟨u3, e3, ?_⟩
  rw [q3]
  rfl
theorem mem_le_sum : ∀ (l : List Nat) (x : Nat), x ∈ l → x ≤ l.sum
  | y :: l, x, h => by
    rw [List.sum_cons]
    rcases List.mem_cons.1 h with rfl | h
    · omega
    · have := mem_le_sum l x h; omega
set_option maxRecDepth 100000 in
theorem openStrsB {H : Type} {enc : TypeId × Value → H} {W : World} {fuel : Nat} {v : Value} {x : DataW H × List MemPlace} (hf : DataW.trod enc Tryd.prog W 0 (fun _ => true) true fuel 30 [v] = some x) (hb : Rows.uptoBulk x.1 ≤ 1048576) : ∃ (A : Option Addr) (c : Nat) (l : List Nm), v = .slice A l.length c ∧ NamesAt W A l ∧ (l.map fun s => s.length + 1).sum ≤ Rows.uptoBulk x.1 := by
  rcases Deep.open_slice Tryd.underlying30 hf with ⟨hcs, _⟩ | ⟨a, n, c, m, k, D, Pl, hcs, _, hl, hm, hmm, hx, hr⟩
  · injection hcs with hcs
    subst hcs
    exact ⟨none, 0, [], rfl, fun j hj => by simp at hj, by simp⟩
  · injection hcs with hcs
    subst hcs
    have hop : ∀ j, j < n → ∃ s : Nm, W.cell? (a.add j) = some (.string (S s)) ∧ Rows.uptoBulk (D j) = s.length + 1 := by
      intro j hj
      obtain ⟨cs', hc, ht⟩ := hr j (by rw [hmm]; split <;> omega)
      obtain ⟨u, e, hbk⟩ := openStrB ht
      refine ⟨u, ?_, hbk⟩
      obtain ⟨_, _, h3⟩ := World.cells?_some hc
      rw [cellsOfStr] at h3
      have h4 := h3 0 (by omega)
      rw [e] at h4
      have e5 : (a.add (j * 1)).add 0 = a.add j := by rw [Addr.add_add, Nat.mul_one, Nat.add_zero]
      first
        | exact h4
        | (rw [← e5]; simpa using h4)
        | simpa using h4
    have hd : x.1 = .slice ((List.range n).map D) ((List.range (m - n)).map fun j => D (n + j)) := by rw [hx]
    rw [hd] at hb ⊢
    simp only [Rows.uptoBulk] at hb ⊢
    have key := bulkAll_map D (fun j => (if hj : j < n then (hop j hj).choose else ([] : Nm)).length + 1) (List.range n) (fun j hj => by
      have hjn : j < n := List.mem_range.1 hj
      simp only [hjn, dif_pos]
      exact Nat.le_of_eq (hop j hjn).choose_spec.2.symm)
    refine ⟨some a, c, (List.range n).map fun j => if hj : j < n then (hop j hj).choose else [], by simp, fun j hj => ?_, ?_⟩
    · have hjn : j < n := by simpa using hj
      obtain ⟨q1, q2⟩ := (hop j hjn).choose_spec
      have e : ((List.range n).map fun j => if hj : j < n then (hop j hj).choose else ([] : Nm))[j] = (hop j hjn).choose := by simp [hjn]
      rw [e]
      have h1 : (hop j hjn).choose.length + 1 ≤ Rows.uptoBulkAll ((List.range n).map D) := by
        refine Nat.le_trans ?_ key
        have hmem : (hop j hjn).choose.length + 1 ∈ ((List.range n).map fun j => (if hj : j < n then (hop j hj).choose else ([] : Nm)).length + 1) := List.mem_map.2 ⟨j, List.mem_range.2 hjn, by simp only [hjn, dif_pos]⟩
        exact mem_le_sum _ _ hmem
      exact ⟨a, rfl, q1, by omega⟩
    · rw [List.map_map]
      refine Nat.le_trans (Nat.le_of_eq ?_) (Nat.le_trans key (by omega))
      rfl
theorem cellsOfConf : Tryd.prog.cellsOf 32 = 12 := by kernel_rfl
theorem twelveE {α : Type} {l : List α} (h : l.length = 12) : ∃ a b c d e f g i j k m n, l = [a, b, c, d, e, f, g, i, j, k, m, n] := by
  match l, h with
  | [a, b, c, d, e, f, g, i, j, k, m, n], _ => exact ⟨a, b, c, d, e, f, g, i, j, k, m, n, rfl⟩
theorem sum_lens (l : List Nm) : (l.map fun s => s.length + 1).sum = Lib.lens l + l.length := by
  induction l with
  | nil => rfl
  | cons a l ih => simp only [Lib.lens, List.map_cons, List.sum_cons, List.length_cons] at ih ⊢; omega
set_option maxRecDepth 100000 in
theorem confOf' {H : Type} {enc : TypeId × Value → H} {W : World} {base : Nat} {v : Value} {d : DataW H} {p : List MemPlace} (hv : Value.okWide Tryd.prog W .any base 32 v) (h : DataW.Trod enc Tryd.prog W 0 (fun _ => true) true 32 v d p) (hb : Rows.uptoBulk d ≤ 1048576) : ConfOf W v := by
  obtain ⟨cs, rfl, hcs⟩ := okWide_struct Tryd.underlying32 hv
  obtain ⟨fuel, hf⟩ := h
  obtain ⟨xs, n, _, hx, hl, hxl, hf⟩ := DataW.trod_struct Tryd.underlying32 hf
  have hd := (Prod.mk.inj hx).1
  rw [cellsOfConf] at hl
  obtain ⟨c0, c1, c2, c3, c4, c5, c6, c7, c8, c9, c10, c11, he⟩ := twelveE hl
  obtain ⟨y0, y1, y2, y3, y4, y5, y6, y7, y8, y9, y10, y11, rfl⟩ := twelveE (l := xs) (by simpa using hxl)
  have hce : cs = #[c0, c1, c2, c3, c4, c5, c6, c7, c8, c9, c10, c11] := by
    simp only [Value.cells] at he
    exact Array.toList_inj.1 he
  subst hce
  rw [he] at hf
  have k3 : Tryd.prog.cellsOf 3 = 1 := by kernel_rfl
  have k9 : Tryd.prog.cellsOf 9 = 1 := by kernel_rfl
  have k38 : Tryd.prog.cellsOf 30 = 1 := by kernel_rfl
  have f0 := hf 0 _ rfl
  have f1 := hf 1 _ rfl
  have f2 := hf 2 _ rfl
  have f3 := hf 3 _ rfl
  have f4 := hf 4 _ rfl
  have f5 := hf 5 _ rfl
  have f6 := hf 6 _ rfl
  have f7 := hf 7 _ rfl
  have f8 := hf 8 _ rfl
  have f9 := hf 9 _ rfl
  have f10 := hf 10 _ rfl
  have f11 := hf 11 _ rfl
  simp only [k3, k9, k38, List.drop_succ_cons, List.drop_zero, List.take_succ_cons, List.take_zero, List.getElem?_cons_zero, List.getElem?_cons_succ] at f0 f1 f2 f3 f4 f5 f6 f7 f8 f9 f10 f11
  have hbk : Rows.uptoBulk y0.1 + Rows.uptoBulk y1.1 ≤ 1048576 := by
    rw [hd] at hb
    simp only [List.map_cons, List.map_nil, Rows.uptoBulk, Rows.uptoBulkAll] at hb
    omega
  obtain ⟨u0, e0, b0⟩ := openStrB f0
  obtain ⟨A, cp, l, e1, hna, b1⟩ := openStrsB f1 (by omega)
  obtain ⟨m2, e2, -, w2⟩ := DataW.trod_int Tryd.underlying3 f2
  obtain ⟨m3, e3, -, w3⟩ := DataW.trod_int Tryd.underlying3 f3
  obtain ⟨m4, e4, -, w4⟩ := DataW.trod_int Tryd.underlying3 f4
  obtain ⟨m5, e5, -, w5⟩ := DataW.trod_int Tryd.underlying3 f5
  obtain ⟨m6, e6, -, w6⟩ := DataW.trod_int Tryd.underlying3 f6
  obtain ⟨m7, e7, -, w7⟩ := DataW.trod_int Tryd.underlying3 f7
  obtain ⟨m8, e8, -, w8⟩ := DataW.trod_int Tryd.underlying3 f8
  obtain ⟨m9, e9, -, w9⟩ := DataW.trod_int Tryd.underlying3 f9
  obtain ⟨m10, e10, -, w10⟩ := DataW.trod_int Tryd.underlying3 f10
  obtain ⟨m11, e11, -, w11⟩ := DataW.trod_int Tryd.underlying3 f11
  injection e0 with e0
  injection e2 with e2
  injection e3 with e3
  injection e4 with e4
  injection e5 with e5
  injection e6 with e6
  injection e7 with e7
  injection e8 with e8
  injection e9 with e9
  injection e10 with e10
  injection e11 with e11
  subst e0 e1 e2 e3 e4 e5 e6 e7 e8 e9 e10 e11
  rw [sum_lens] at b1
  refine ⟨⟨u0, l, m2, m3, m4, m5, m6, m7, m8, m9, m10, m11⟩, A, cp, rfl, hna, ?_, by show u0.length + Lib.lens l + l.length ≤ _; omega⟩
  intro n hn
  simp only [ConfD.ints, List.mem_cons, List.not_mem_nil, or_false] at hn
  rcases hn with rfl | rfl | rfl | rfl | rfl | rfl | rfl | rfl | rfl | rfl <;> exact i64_of (by assumption)
theorem settingL_length (c : ConfD) (h : ∀ n ∈ c.ints, I64 n) (hl : c.locals.length ≤ 1048576) : (settingL c).length ≤ 300 + 2 * c.host.length + 2 * c.locals.length + 2 * Lib.lens c.locals := by
  rw [settingL_parts]
  have h1 := p1L_length c.ints h
  have h2 := p2L_length c.locals
  have h3 := hexL_length c.host
  have h4 := itoa_length (n := (c.locals.length : Int)) ⟨by omega, by omega⟩
  have h5 : c.ints.length = 10 := rfl
  simp only [List.length_append, List.length_cons, List.length_nil]
  omega
end Go.Proofs.YtkcdlfkicopmoaaDoor.Fs
