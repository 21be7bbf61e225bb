/- script: Set. -/
import Derived.Test.YtkcdlfkicopmoaaDoorScrSetting
namespace Go.Proofs.YtkcdlfkicopmoaaDoor.Fs
open Go.RowKit Go.Proofs.YtkcdlfkicopmoaaDoor Go.Proofs.YtkcdlfkicopmoaaDoor.Plain Go.Proofs.YtkcdlfkicopmoaaDoorW.PrintWords Go.Maps
set_option linter.unusedVariables false
set_option linter.unusedSimpArgs false
/-- a text without its end -/
def trimL (s : Nm) : Nm := Lib.trimSuffix s [10]
def confOf : List Nm → Option ConfD
  | p0 :: p1 :: p2 :: p3 :: p4 :: p5 :: p6 :: p7 :: p8 :: p9 :: p10 :: p11 :: qs => some ⟨unhexT p10, qs.map unhexT, atoiVal p0, atoiVal p1, atoiVal p2, atoiVal p3, atoiVal p4, atoiVal p5, atoiVal p6, atoiVal p7, atoiVal p8, atoiVal p9⟩
  | _ => none
def setP (s : Nm) : Option ConfD := match confOf (cuts 32 (trimL s)) with
  | some c => if settingL c = s then some c else none
  | none => none
def zeroC : ConfD := ⟨[], [], 0, 0, 0, 0, 0, 0, 0, 0, 0, 0⟩
def setX (s : Nm) : ConfD := (setP s).getD zeroC
def setO (s : Nm) : Bool := (setP s).isSome
theorem trimL_length (s : Nm) : (trimL s).length ≤ s.length := by
  unfold trimL Lib.trimSuffix
  split
  · rw [List.length_take]; omega
  · exact Nat.le_refl _
theorem trimAny (u : Nm) (hu : u.length ≤ 9223372036854775806) (w : World) : Calls Tryd.prog 29 #[.string (S u), .string ⟨#[10]⟩] w fun e w' => e = .returned (.string (S (trimL u))) ∧ w' = w :=
  Tryd.strings_TrimSuffix (S u) (S [10]) w (by rw [S_size]; omega)
theorem unhexT_length (p : Nm) : (unhexT p).length ≤ p.length := by
  unfold unhexT
  cases h : unhexB p with
  | none => exact Nat.zero_le _
  | some t =>
    have := congrArg List.length (unhexB_iff.1 h)
    rw [List.length_cons, hexL_length] at this
    show t.length ≤ _
    omega
theorem lens_cuts (c : UInt8) (u : Nm) : Lib.lens (cuts c u) ≤ u.length := by
  induction u using split_ind c with
  | h0 u h => rw [cuts_none h, lens_one]; exact Nat.le_refl _
  | h1 a b h ih =>
    rw [cuts_app h]
    unfold Lib.lens at ih ⊢
    simp only [List.map_cons, List.sum_cons, List.length_append, List.length_cons]
    omega
theorem lens_unhex (l : List Nm) : Lib.lens (l.map unhexT) ≤ Lib.lens l := by
  unfold Lib.lens
  induction l with
  | nil => exact Nat.le_refl _
  | cons a l ih =>
    have := unhexT_length a
    simp only [List.map_cons, List.sum_cons] at ih ⊢
    omega
theorem namesDrop {W : World} {b : Nat} {l r : List Nm} (h : NamesAt W (some ⟨b, 0, none⟩) (l ++ r)) (k : Nat) (hk : k = l.length) (hk0 : k ≠ 0) : NamesAt W (some ⟨b, k, none⟩) r := by
  subst hk
  intro j hj
  obtain ⟨ad, e, hc, hl⟩ := h (l.length + j) (by rw [List.length_append]; omega)
  cases e
  have e2 : (l ++ r)[l.length + j]'(by rw [List.length_append]; omega) = r[j] := by rw [List.getElem_append_right (by omega)]; congr 1; omega
  rw [e2] at hc hl
  refine ⟨_, rfl, ?_, hl⟩
  have e3 : (⟨b, 0, none⟩ : Addr).add (l.length + j) = (⟨b, l.length, none⟩ : Addr).add j := by
    unfold Addr.add
    rw [if_neg (by omega)]
    split
    · rename_i h; subst h; simp
    · simp
  rw [← e3]
  exact hc
set_option maxHeartbeats 4000000 in
set_option maxRecDepth 100000 in
/-- ten numbers of many parts -/
theorem nums10 (w X : World) (p0 p1 p2 p3 p4 p5 p6 p7 p8 p9 p10 p11 : Nm) (qs : List Nm) (a0 a1 a2 a3 a4 a5 a6 a7 a8 a9 : Int) (h0 : atoiVal p0 = a0) (h1 : atoiVal p1 = a1) (h2 : atoiVal p2 = a2) (h3 : atoiVal p3 = a3) (h4 : atoiVal p4 = a4) (h5 : atoiVal p5 = a5) (h6 : atoiVal p6 = a6) (h7 : atoiVal p7 = a7) (h8 : atoiVal p8 = a8) (h9 : atoiVal p9 = a9) (n b1 b2 b3 : Nat) (hn : n = (p0 :: p1 :: p2 :: p3 :: p4 :: p5 :: p6 :: p7 :: p8 :: p9 :: p10 :: p11 :: qs).length) (hB : Below w.heap.size w X) (hb0 : w.heap.size ≤ b2) (hb : X.heap[b2]? = some (.cells #[.string ⟨#[]⟩, .slice none 0 0, .int .i64 0, .int .i64 0, .int .i64 0, .int .i64 0, .int .i64 0, .int .i64 0, .int .i64 0, .int .i64 0, .int .i64 0, .int .i64 0] 32 (0, 0)))
    (hA : NamesAt X (some ⟨b1, 0, none⟩) (p0 :: p1 :: p2 :: p3 :: p4 :: p5 :: p6 :: p7 :: p8 :: p9 :: p10 :: p11 :: qs)) (h12 : b1 ≠ b2) (hpl : ∀ p ∈ (p0 :: p1 :: p2 :: p3 :: p4 :: p5 :: p6 :: p7 :: p8 :: p9 :: p10 :: p11 :: qs), p.length ≤ 1099511627776) (hP : PtrsAt X (some ⟨b3, 0, none⟩) b2 2 10) (h32 : b3 ≠ b2) (hG : GI w) :
    Calls Tryd.prog 31 #[.slice (some ⟨b1, 0, none⟩) n n, .slice (some ⟨b3, 0, none⟩) 10 10] X fun e W' => e = .returned (.tuple #[]) ∧ Below w.heap.size w W' ∧ Apart b2 X W' ∧ W'.heap[b2]? = some (.cells #[.string ⟨#[]⟩, .slice none 0 0, .int .i64 a0, .int .i64 a1, .int .i64 a2, .int .i64 a3, .int .i64 a4, .int .i64 a5, .int .i64 a6, .int .i64 a7, .int .i64 a8, .int .i64 a9] 32 (0, 0)) := by
  have h := numbersIs (some ⟨b1, 0, none⟩) n n (p0 :: p1 :: p2 :: p3 :: p4 :: p5 :: p6 :: p7 :: p8 :: p9 :: p10 :: p11 :: qs) hn (some ⟨b3, 0, none⟩) 10 10 w b2 2 _ _ X hB hb0 hb (by simp) (by simp) (by omega) hA (fun a e => (Option.some.inj e) ▸ h12) hpl hP (fun a e => (Option.some.inj e) ▸ h32) hG
  refine h.mono ?_
  rintro e W' ⟨rfl, k1, k2, k3⟩
  refine ⟨rfl, k1, k2, ?_⟩
  rw [k3]
  simp only [List.take_succ_cons, List.take_zero, List.map_cons, List.map_nil, h0, h1, h2, h3, h4, h5, h6, h7, h8, h9, setInts, List.setIfInBounds_toArray, List.set_cons_succ, List.set_cons_zero]
theorem ptrs10 {X : World} {b b2 : Nat} {t : TypeId} {fr : Nat × Nat} (h : X.heap[b]? = some (.cells #[.pointer (some ⟨b2, 2, none⟩), .pointer (some ⟨b2, 3, none⟩), .pointer (some ⟨b2, 4, none⟩), .pointer (some ⟨b2, 5, none⟩), .pointer (some ⟨b2, 6, none⟩), .pointer (some ⟨b2, 7, none⟩), .pointer (some ⟨b2, 8, none⟩), .pointer (some ⟨b2, 9, none⟩), .pointer (some ⟨b2, 10, none⟩), .pointer (some ⟨b2, 11, none⟩)] t fr)) : PtrsAt X (some ⟨b, 0, none⟩) b2 2 10 := by
  intro j hj
  refine ⟨_, rfl, ?_⟩
  have h5 : (⟨b, 0, none⟩ : Addr).add j = ⟨b, j, none⟩ := by unfold Addr.add; split <;> simp_all
  rw [h5]
  unfold World.cell?
  simp only []
  rw [h]
  have : j = 0 ∨ j = 1 ∨ j = 2 ∨ j = 3 ∨ j = 4 ∨ j = 5 ∨ j = 6 ∨ j = 7 ∨ j = 8 ∨ j = 9 := by omega
  rcases this with rfl | rfl | rfl | rfl | rfl | rfl | rfl | rfl | rfl | rfl <;> rfl
theorem infoConf : (Tryd.prog.info? 32).map (fun i => i.size) = some 12 := by kernel_rfl
theorem resConf {fn : Func} {a t : Tmp} (h : fn.results = #[.cell a 32, .tmp t]) (tmps : Array Value) {w : World} {b : Nat} {v0 v1 v2 v3 v4 v5 v6 v7 v8 v9 v10 v11 : Value} (ha : tmps.getD a undef = .pointer (some ⟨b, 0, none⟩))
    (hb : w.heap[b]? = some (.cells #[v0, v1, v2, v3, v4, v5, v6, v7, v8, v9, v10, v11] 32 (0, 0))) :
    (results fn tmps).run Tryd.prog w = .ok (.tuple #[.agg #[v0, v1, v2, v3, v4, v5, v6, v7, v8, v9, v10, v11], tmps.getD t undef]) w := by
  obtain ⟨h0, h1, h2, h3, h4, h5, h6, h7, h8, h9, h10, h11⟩ := confCells hb
  obtain ⟨i, hi, hs⟩ := Option.map_eq_some_iff.1 infoConf
  have hu := run_underlying (P := Tryd.prog) Tryd.underlying32
  have ha' : tmps[a]?.getD undef = .pointer (some ⟨b, 0, none⟩) := by simpa using ha
  simp only [results, h]
  simp [ha', asAddr, loadVar, isAgg, hu, sizeOf, typeInfo, hi, hs, loadCells, loadCellsFrom, h0, h1, h2, h3, h4, h5, h6, h7, h8, h9, h10, h11, go_sem]
theorem twelve {α : Type} (l : List α) (h : 12 ≤ l.length) : ∃ p0 p1 p2 p3 p4 p5 p6 p7 p8 p9 p10 p11 qs, l = (p0 :: p1 :: p2 :: p3 :: p4 :: p5 :: p6 :: p7 :: p8 :: p9 :: p10 :: p11 :: qs) := by
  obtain ⟨p0, l0, rfl⟩ := List.exists_cons_of_length_pos (l := l) (by first | omega | (simp only [List.length_cons] at h; omega))
  obtain ⟨p1, l1, rfl⟩ := List.exists_cons_of_length_pos (l := l0) (by first | omega | (simp only [List.length_cons] at h; omega))
  obtain ⟨p2, l2, rfl⟩ := List.exists_cons_of_length_pos (l := l1) (by first | omega | (simp only [List.length_cons] at h; omega))
  obtain ⟨p3, l3, rfl⟩ := List.exists_cons_of_length_pos (l := l2) (by first | omega | (simp only [List.length_cons] at h; omega))
  obtain ⟨p4, l4, rfl⟩ := List.exists_cons_of_length_pos (l := l3) (by first | omega | (simp only [List.length_cons] at h; omega))
  obtain ⟨p5, l5, rfl⟩ := List.exists_cons_of_length_pos (l := l4) (by first | omega | (simp only [List.length_cons] at h; omega))
  obtain ⟨p6, l6, rfl⟩ := List.exists_cons_of_length_pos (l := l5) (by first | omega | (simp only [List.length_cons] at h; omega))
  obtain ⟨p7, l7, rfl⟩ := List.exists_cons_of_length_pos (l := l6) (by first | omega | (simp only [List.length_cons] at h; omega))
  obtain ⟨p8, l8, rfl⟩ := List.exists_cons_of_length_pos (l := l7) (by first | omega | (simp only [List.length_cons] at h; omega))
  obtain ⟨p9, l9, rfl⟩ := List.exists_cons_of_length_pos (l := l8) (by first | omega | (simp only [List.length_cons] at h; omega))
  obtain ⟨p10, l10, rfl⟩ := List.exists_cons_of_length_pos (l := l9) (by first | omega | (simp only [List.length_cons] at h; omega))
  obtain ⟨p11, l11, rfl⟩ := List.exists_cons_of_length_pos (l := l10) (by first | omega | (simp only [List.length_cons] at h; omega))
  exact ⟨p0, p1, p2, p3, p4, p5, p6, p7, p8, p9, p10, p11, l11, rfl⟩
/-- 'append(l, s)' to a row that is not older than base -/
theorem appendA {X : World} {base : Nat} {v : Value} {l : List Nm} (h : X.ownsRow base 9 1 v l.length (strs l)) (hbase : base ≤ X.heap.size) (s : Nm) (hn : l.length ≤ 8796093022207) {ops : Array Oper} {rest : List Oper} {o : Oper} {a : Act} {Q : Exit → Act → World → Prop} (hgd : o.guard = none) (x y : Operand)
    (ho : o.op = .call { callee := .builtin .append, args := #[x, y], argTypes := #[30, 30] }) (hx : a.eval x = v) (ad : Addr) (c : Nat) (hy : a.eval y = .slice (some ad) 1 c)
    (hc : ∀ j u, [Value.string (S s)][j]? = some u → X.cell? (ad.add j) = some u)
    (hK : ∀ v1 w1, w1.ownsRow base 9 1 v1 (l ++ [s]).length (strs (l ++ [s])) → Below base X w1 → wpList Tryd.prog ops Q rest (a.put o.dst v1) w1) : wpList Tryd.prog ops Q (o :: rest) a X := by
  obtain ⟨i0, hi, hzz⟩ := Option.map_eq_some_iff.1 infoStr
  simp only [Prod.mk.injEq] at hzz
  obtain ⟨hz0, hz1, hz2⟩ := hzz
  refine wpList_append_own_at (P := Tryd.prog) _ hgd x y 30 ho base 9 i0 (.string ByteArray.empty) 1 16 Tryd.underlying30 hi hz0 hz1 hz2 rfl (by decide) v l.length (strs l) hx h ad 1 c [.string (S s)] hy rfl hc (by intro u hu; simp only [List.mem_singleton] at hu; subst hu; rfl) (by simp only [maxLen]; omega) (by omega) hbase ?_
  intro v1 w1 h1 h2 _ _
  refine hK v1 w1 ?_ (Below.grown (Below.refl base X) h2 hbase (fun k hk => ?_))
  · rw [List.length_append, strs_append]
    exact h1
  · rcases h.2 with ⟨rfl, _⟩ | ⟨g, cap, cur, rfl, hg, _⟩
    · cases hk
    · cases hk; exact hg
theorem Apart.base {b : Nat} {W X Y : World} (h : Apart b W X) (hb : Below W.heap.size X Y) : Apart b W Y := ⟨Nat.le_trans h.size hb.size, fun k hk hne => (hb.block k hk).trans (h.block k hk hne)⟩
theorem set12 {X : World} {b : Nat} {u0 u1 u2 u3 u4 u5 u6 u7 u8 u9 u10 u11 v0 v1 v2 v3 v4 v5 v6 v7 v8 v9 v10 v11 : Value} {t : TypeId} (h : X.heap[b]? = some (.cells #[u0, u1, u2, u3, u4, u5, u6, u7, u8, u9, u10, u11] t (0, 0))) : ((((((((((((X.setCell ⟨b, 0, none⟩ v0).setCell ⟨b, 1, none⟩ v1).setCell ⟨b, 2, none⟩ v2).setCell ⟨b, 3, none⟩ v3).setCell ⟨b, 4, none⟩ v4).setCell ⟨b, 5, none⟩ v5).setCell ⟨b, 6, none⟩ v6).setCell ⟨b, 7, none⟩ v7).setCell ⟨b, 8, none⟩ v8).setCell ⟨b, 9, none⟩ v9).setCell ⟨b, 10, none⟩ v10).setCell ⟨b, 11, none⟩ v11).heap[b]? = some (.cells #[v0, v1, v2, v3, v4, v5, v6, v7, v8, v9, v10, v11] t (0, 0)) := by
  have h0 := heap_setCell_same _ b 0 _ _ v0 h
  simp only [List.setIfInBounds_toArray, List.set_cons_succ, List.set_cons_zero] at h0
  have h1 := heap_setCell_same _ b 1 _ _ v1 h0
  simp only [List.setIfInBounds_toArray, List.set_cons_succ, List.set_cons_zero] at h1
  have h2 := heap_setCell_same _ b 2 _ _ v2 h1
  simp only [List.setIfInBounds_toArray, List.set_cons_succ, List.set_cons_zero] at h2
  have h3 := heap_setCell_same _ b 3 _ _ v3 h2
  simp only [List.setIfInBounds_toArray, List.set_cons_succ, List.set_cons_zero] at h3
  have h4 := heap_setCell_same _ b 4 _ _ v4 h3
  simp only [List.setIfInBounds_toArray, List.set_cons_succ, List.set_cons_zero] at h4
  have h5 := heap_setCell_same _ b 5 _ _ v5 h4
  simp only [List.setIfInBounds_toArray, List.set_cons_succ, List.set_cons_zero] at h5
  have h6 := heap_setCell_same _ b 6 _ _ v6 h5
  simp only [List.setIfInBounds_toArray, List.set_cons_succ, List.set_cons_zero] at h6
  have h7 := heap_setCell_same _ b 7 _ _ v7 h6
  simp only [List.setIfInBounds_toArray, List.set_cons_succ, List.set_cons_zero] at h7
  have h8 := heap_setCell_same _ b 8 _ _ v8 h7
  simp only [List.setIfInBounds_toArray, List.set_cons_succ, List.set_cons_zero] at h8
  have h9 := heap_setCell_same _ b 9 _ _ v9 h8
  simp only [List.setIfInBounds_toArray, List.set_cons_succ, List.set_cons_zero] at h9
  have h10 := heap_setCell_same _ b 10 _ _ v10 h9
  simp only [List.setIfInBounds_toArray, List.set_cons_succ, List.set_cons_zero] at h10
  have h11 := heap_setCell_same _ b 11 _ _ v11 h10
  simp only [List.setIfInBounds_toArray, List.set_cons_succ, List.set_cons_zero] at h11
  exact h11
theorem frozen12 {X : World} {b : Nat} {u0 u1 u2 u3 u4 u5 u6 u7 u8 u9 u10 u11 : Value} {t : TypeId} (h : X.heap[b]? = some (.cells #[u0, u1, u2, u3, u4, u5, u6, u7, u8, u9, u10, u11] t (0, 0))) : X.frozen? ⟨b, 0, none⟩ = false ∧ X.frozen? ⟨b, 1, none⟩ = false ∧ X.frozen? ⟨b, 2, none⟩ = false ∧ X.frozen? ⟨b, 3, none⟩ = false ∧ X.frozen? ⟨b, 4, none⟩ = false ∧ X.frozen? ⟨b, 5, none⟩ = false ∧ X.frozen? ⟨b, 6, none⟩ = false ∧ X.frozen? ⟨b, 7, none⟩ = false ∧ X.frozen? ⟨b, 8, none⟩ = false ∧ X.frozen? ⟨b, 9, none⟩ = false ∧ X.frozen? ⟨b, 10, none⟩ = false ∧ X.frozen? ⟨b, 11, none⟩ = false := by
  unfold World.frozen?
  simp only []
  rw [h]
  exact ⟨rfl, rfl, rfl, rfl, rfl, rfl, rfl, rfl, rfl, rfl, rfl, rfl⟩
theorem ownNames {W : World} {base n c : Nat} {A : Option Addr} {l : List Nm} (h : W.ownsRow base 9 1 (.slice A n c) l.length (strs l)) (hl : ∀ s ∈ l, s.length ≤ 140737488351232) : NamesAt W A l ∧ ∀ a, A = some a → base ≤ a.block := by
  rcases h.2 with ⟨e, h0⟩ | ⟨g, cap, cur, e, hg0, hg, _, _, hs, ht⟩
  · injection e with e1 _ _
    subst e1
    exact ⟨fun j hj => by omega, fun a e => by cases e⟩
  · injection e with e1 _ _
    subst e1
    refine ⟨fun j hj => ⟨_, rfl, ?_, hl _ (List.getElem_mem hj)⟩, fun a e => by cases e; exact hg0⟩
    have h5 : (⟨g, 0, none⟩ : Addr).add j = ⟨g, j, none⟩ := by unfold Addr.add; split <;> simp_all
    rw [h5, cell_of_row W g j cur 9 (0, 0) hg]
    have h4 : (cur.toList.take (l.length * 1))[j]? = (strs l)[j]? := by rw [ht]
    rw [List.getElem?_take_of_lt (by omega)] at h4
    simpa [strs, hj] using h4
/-- the parts, behind the numbers -/
theorem partsAt {w W4 : World} {z o3 o4 : Obj} {ps : List Nm} {t : TypeId} (h : Apart (w.heap.size + 1 + 1) ((((w.alloc z).alloc (.cells (strs ps).toArray t)).alloc o3).alloc o4) W4) : W4.heap[w.heap.size + 1]? = some (.cells (strs ps).toArray t) := by
  have h1 : ((((w.alloc z).alloc (.cells (strs ps).toArray t)).alloc o3).alloc o4).heap[w.heap.size + 1]? = some (.cells (strs ps).toArray t) :=
    heapAt (by simp) (below_alloc (below_alloc (Below.refl _ _) _) _)
  exact (h.block (w.heap.size + 1) (Array.getElem?_eq_some_iff.1 h1).1 (by omega)).trans h1
theorem partOf {X : World} {b k : Nat} {ps : List Nm} {t : TypeId} {fr : Nat × Nat} {p : Nm} (h : X.heap[b]? = some (.cells (strs ps).toArray t fr)) (hp : ps[k]? = some p) : X.cell? ⟨b, k, none⟩ = some (.string (S p)) := by
  unfold World.cell?
  simp only []
  rw [h]
  simp [strs, hp]
/-- what Set answers -/
def SetPost (w : World) (r : Option ConfD) (e : Ending) (W' : World) : Prop := Below w.heap.size w W' ∧ ∃ A cp, e = .returned (.tuple #[.agg (confV A cp (r.getD zeroC)), .bool r.isSome]) ∧ NamesAt W' A (r.getD zeroC).locals
set_option maxHeartbeats 4000000 in
set_option maxRecDepth 100000 in
theorem setIs (s : Nm) (hs : s.length ≤ 268435456) (w : World) (hG : GI w) : Calls Tryd.prog 15 #[.string (S s)] w (SetPost w (setP s)) := by
  have HB0 := Aside0.mk (Below.refl w.heap.size w)
  have HG := Aside0.mk hG
  have htl := trimL_length s
  have XT := trimAny s (by omega) (w.alloc (.cells #[.string ⟨#[]⟩, .slice none 0 0, .int .i64 0, .int .i64 0, .int .i64 0, .int .i64 0, .int .i64 0, .int .i64 0, .int .i64 0, .int .i64 0, .int .i64 0, .int .i64 0] 32))
  have XS := splitIs (trimL s) (by omega) (w.alloc (.cells #[.string ⟨#[]⟩, .slice none 0 0, .int .i64 0, .int .i64 0, .int .i64 0, .int .i64 0, .int .i64 0, .int .i64 0, .int .i64 0, .int .i64 0, .int .i64 0, .int .i64 0] 32)) (hG.below (below_alloc (Below.refl _ _) _))
  have HML := Aside0.mk (fun p (hp : p ∈ cuts 32 (trimL s)) => Nat.le_trans (cuts_mem_length hp) (Nat.le_trans htl hs))
  have HLC := Aside0.mk (Nat.le_trans (lens_cuts 32 (trimL s)) (Nat.le_trans htl hs))
  have HCC := Aside0.mk (Nat.le_trans (cuts_length 32 (trimL s)) (Nat.succ_le_succ (Nat.le_trans htl hs)))
  obtain ⟨tr, htr⟩ : ∃ tr, trimL s = tr := ⟨_, rfl⟩
  rw [htr] at XT XS HML HLC HCC
  clear hG htl
  by_cases h12 : (cuts 32 tr).length < 12
  · have e : setP s = none := by
      unfold setP
      rw [htr]
      have : confOf (cuts 32 tr) = none := by
        unfold confOf
        split
        · rename_i h; rw [h] at h12; simp at h12; omega
        · rfl
      rw [this]
    rw [e]
    obtain ⟨ps, hps⟩ : ∃ ps, cuts 32 tr = ps := ⟨_, rfl⟩
    obtain ⟨n, hn⟩ : ∃ n, ps.length = n := ⟨_, rfl⟩
    rw [hps, hn] at XS
    rw [hps, hn] at h12
    clear e hps hn HML HLC HCC htr
    go_enter Tryd.func15, Tryd.ntmps15
    go_wp2_with (first
      | (go_at_call 29; refine XT.mono ?_; rintro e W1 ⟨rfl, rfl⟩)
      | (go_at_call 30; refine XS.mono ?_; rintro e W1 ⟨rfl, rfl⟩))
    refine bodyPost_ret (resConf rfl _ rfl (heapAt rfl (below_alloc (Below.refl _ _) _))) rfl ?_
    exact ⟨below_alloc (below_alloc HB0.out _) _, none, 0, rfl, fun j hj => by cases hj⟩
  · obtain ⟨p0, p1, p2, p3, p4, p5, p6, p7, p8, p9, p10, p11, qs, hps⟩ := twelve (cuts 32 tr) (by omega)
    rw [hps] at XS HML HLC HCC
    have hsp : setP s = if settingL ⟨unhexT p10, qs.map unhexT, atoiVal p0, atoiVal p1, atoiVal p2, atoiVal p3, atoiVal p4, atoiVal p5, atoiVal p6, atoiVal p7, atoiVal p8, atoiVal p9⟩ = s then some ⟨unhexT p10, qs.map unhexT, atoiVal p0, atoiVal p1, atoiVal p2, atoiVal p3, atoiVal p4, atoiVal p5, atoiVal p6, atoiVal p7, atoiVal p8, atoiVal p9⟩ else none := by
      unfold setP
      rw [htr, hps]
      rfl
    have hpl : ∀ p ∈ (p0 :: p1 :: p2 :: p3 :: p4 :: p5 :: p6 :: p7 :: p8 :: p9 :: p10 :: p11 :: qs), p.length ≤ 268435456 := HML.out
    have h10 := hpl p10 (by simp)
    have XU := Aside0.mk (fun X => unhexIs p10 (by omega) X)
    have hH := unhexT_length p10
    have hqs : ∀ p ∈ qs, p.length ≤ 268435456 := fun p hp => hpl p (by simp [hp])
    have hlq : Lib.lens qs ≤ 268435456 := by
      have := HLC.out
      unfold Lib.lens at this ⊢
      simp only [List.map_cons, List.sum_cons] at this
      omega
    have hlq2 := lens_unhex qs
    have hcc := HCC.out
    simp only [List.length_cons] at hcc
    have hok : ConfOk ⟨unhexT p10, qs.map unhexT, atoiVal p0, atoiVal p1, atoiVal p2, atoiVal p3, atoiVal p4, atoiVal p5, atoiVal p6, atoiVal p7, atoiVal p8, atoiVal p9⟩ :=
      ⟨by intro n hn; simp only [ConfD.ints, List.mem_cons, List.not_mem_nil, or_false] at hn; rcases hn with rfl | rfl | rfl | rfl | rfl | rfl | rfl | rfl | rfl | rfl <;> exact atoiVal_I64 _, by show (unhexT p10).length ≤ _; omega, by show (qs.map unhexT).length ≤ _; rw [List.length_map]; omega, by show Lib.lens (qs.map unhexT) ≤ _; omega⟩
    obtain ⟨a0, h0⟩ : ∃ a, atoiVal p0 = a := ⟨_, rfl⟩
    obtain ⟨a1, h1⟩ : ∃ a, atoiVal p1 = a := ⟨_, rfl⟩
    obtain ⟨a2, h2⟩ : ∃ a, atoiVal p2 = a := ⟨_, rfl⟩
    obtain ⟨a3, h3⟩ : ∃ a, atoiVal p3 = a := ⟨_, rfl⟩
    obtain ⟨a4, h4⟩ : ∃ a, atoiVal p4 = a := ⟨_, rfl⟩
    obtain ⟨a5, h5⟩ : ∃ a, atoiVal p5 = a := ⟨_, rfl⟩
    obtain ⟨a6, h6⟩ : ∃ a, atoiVal p6 = a := ⟨_, rfl⟩
    obtain ⟨a7, h7⟩ : ∃ a, atoiVal p7 = a := ⟨_, rfl⟩
    obtain ⟨a8, h8⟩ : ∃ a, atoiVal p8 = a := ⟨_, rfl⟩
    obtain ⟨a9, h9⟩ : ∃ a, atoiVal p9 = a := ⟨_, rfl⟩
    obtain ⟨H, hHH⟩ : ∃ H, unhexT p10 = H := ⟨_, rfl⟩
    obtain ⟨O, hO⟩ : ∃ O, unhexO p10 = O := ⟨_, rfl⟩
    rw [hHH, hO] at XU
    rw [h0, h1, h2, h3, h4, h5, h6, h7, h8, h9, hHH] at hsp hok
    obtain ⟨n, hn⟩ : ∃ n, (p0 :: p1 :: p2 :: p3 :: p4 :: p5 :: p6 :: p7 :: p8 :: p9 :: p10 :: p11 :: qs).length = n := ⟨_, rfl⟩
    rw [hn] at XS
    have hn12 : qs.length + 12 = n := by rw [← hn]; simp only [List.length_cons]
    have HNUM := Aside0.mk (fun (X : World) (b1 b2 b3 : Nat) hB hb0 hb hA h12 hP h32 => nums10 w X p0 p1 p2 p3 p4 p5 p6 p7 p8 p9 p10 p11 qs a0 a1 a2 a3 a4 a5 a6 a7 a8 a9 h0 h1 h2 h3 h4 h5 h6 h7 h8 h9 n b1 b2 b3 hn.symm hB hb0 hb hA h12 (fun p hp => Nat.le_trans (hpl p hp) (by omega)) hP h32 HG.out)
    have HPL := Aside0.mk (fun p (hp : p ∈ (p0 :: p1 :: p2 :: p3 :: p4 :: p5 :: p6 :: p7 :: p8 :: p9 :: p10 :: p11 :: qs)) => Nat.le_trans (hpl p hp) (show 268435456 ≤ 140737488351232 by omega))
    have HQS := Aside0.mk hqs
    have HOK := Aside0.mk hok
    have HSP := Aside0.mk hsp
    have hqb : qs.length ≤ 268435456 := by omega
    obtain ⟨m, hm⟩ : ∃ m, qs.length = m := ⟨_, rfl⟩
    rw [hm] at hn12 hqb
    have HM := Aside0.mk hm
    have HN12 := Aside0.mk hn12
    clear hm
    have hn1 : ¬ (n : Int) < 12 := by omega
    have hn2 : (10 : Int) < (n : Int) := by omega
    have hn3 : n ≤ 268435500 := by omega
    clear hps hsp hpl h10 hH hqs hlq hlq2 hcc hok h0 h1 h2 h3 h4 h5 h6 h7 h8 h9 hHH hO hn HML HLC HCC htr h12 hn12
    go_enter Tryd.func15, Tryd.ntmps15
    go_wp2_with (first
      | (go_at_call 29; refine XT.mono ?_; rintro e W1 ⟨rfl, rfl⟩)
      | (go_at_call 30; refine XS.mono ?_; rintro e W1 ⟨rfl, rfl⟩)
      | (go_at_call 31; refine (HNUM.out _ (w.heap.size + 1) (w.heap.size + 1 + 1) (w.heap.size + 1 + 1 + 1) (below_alloc (below_alloc (below_alloc (below_alloc HB0.out _) _) _) _) (by omega) (heapAt (by simp) (below_alloc (Below.refl _ _) _)) (namesNew (heapAt (by simp) (below_alloc (below_alloc (Below.refl _ _) _) _)) rfl HPL.out) (by omega) (ptrs10 (heapAt (by simp) (Below.refl _ _))) (by omega)).mono ?_; rintro e W4 ⟨rfl, hb4, hap, hc4⟩; have hp4 := partsAt hap; have hp10 := partOf (k := 10) (p := p10) hp4 rfl; have hz4 := zeroAt4 hap; have HB4 := Aside0.mk hb4; have HC4 := Aside0.mk hc4; have HZ4 := Aside0.mk hz4; have HP4 := Aside0.mk hp4; clear hb4 hap hc4 hz4 hp4)
      | (go_at_call 32; refine (XU.out _).mono ?_; rintro e W5 ⟨rfl, hb⟩; have hc5 := carry hb HC4.out; obtain ⟨⟨u0, k0⟩, f0⟩ := cellOfBlock (i := 0) hc5 (Nat.succ_pos 11); have HB5 := Aside0.mk (chain' HB4.out hb); have HC5 := Aside0.mk hc5; have HZ5 := Aside0.mk (carry hb HZ4.out); have HP5 := Aside0.mk (carry hb HP4.out); clear hb hc5))
    all_goals
      have hm12 := HN12.out
      have hnm : n - 12 = m := by omega
    case inl =>
      obtain rfl : m = 0 := by omega
      obtain rfl : qs = [] := List.eq_nil_of_length_eq_zero HM.out
      clear hnm hm12
      obtain ⟨w1, hw1⟩ : ∃ w1, W5.setCell ⟨w.heap.size + 1 + 1, 0, none⟩ (.string (S H)) = w1 := ⟨_, rfl⟩
      have HB1 := Aside0.mk (show Below w.heap.size w w1 by rw [← hw1]; exact Below.setCell HB5.out (by show _ ≤ w.heap.size + 1 + 1; omega) _)
      have HC1 := Aside0.mk (show w1.heap[w.heap.size + 1 + 1]? = some (.cells #[.string (S H), .slice none 0 0, .int .i64 a0, .int .i64 a1, .int .i64 a2, .int .i64 a3, .int .i64 a4, .int .i64 a5, .int .i64 a6, .int .i64 a7, .int .i64 a8, .int .i64 a9] 32 (0, 0)) by rw [← hw1]; exact heap_setCell_same W5 _ 0 _ _ _ HC5.out)
      have HZ1 := Aside0.mk (show w1.heap[w.heap.size]? = some (.cells #[.string ⟨#[]⟩, .slice none 0 0, .int .i64 0, .int .i64 0, .int .i64 0, .int .i64 0, .int .i64 0, .int .i64 0, .int .i64 0, .int .i64 0, .int .i64 0, .int .i64 0] 32) by rw [← hw1]; exact (heap_setCell_other _ _ _ _ (by show w.heap.size ≠ w.heap.size + 1 + 1; omega)).trans HZ5.out)
      have HP1 := Aside0.mk (show w1.heap[w.heap.size + 1]? = some (.cells (strs (p0 :: p1 :: p2 :: p3 :: p4 :: p5 :: p6 :: p7 :: p8 :: p9 :: p10 :: p11 :: [])).toArray 9) by rw [← hw1]; exact (heap_setCell_other _ _ _ _ (by show w.heap.size + 1 ≠ w.heap.size + 1 + 1; omega)).trans HP5.out)
      have HSZ := Aside0.mk ((Array.getElem?_eq_some_iff.1 HC1.out).1)
      rw [hw1]
      clear hw1 k0 f0 hp10
      go_loopw [7, 8, 9, 41] (fun v7 v8 v9 v41 wr => v41 = .int .i64 0 ∧ wr = w1) (fun _ _ _ _ _ => 0)
      case atStart => exact ⟨rfl, rfl⟩
      case round =>
        obtain ⟨rfl, rfl⟩ := hrel
        have HB := HB1
        have HC := HC1
        have hzw := HZ1.out
        have hr : wr.ownsRow wr.heap.size 9 1 (.slice none 0 0) (([] : List Nm).map unhexT).length (strs (([] : List Nm).map unhexT)) := World.ownsRow_nil _ _ _ _
        generalize hvv : (Value.slice none 0 0 : Value) = v at HC hr
        clear hvv
        · skip
          obtain ⟨ls, hlse⟩ : ∃ ls, ([] : List Nm).map unhexT = ls := ⟨_, rfl⟩
          rw [hlse] at hr
          obtain ⟨A9, c9, hv⟩ := own_slice hr
          subst hv
          have hok2 := HOK.out
          have hsp2 := HSP.out
          rw [hlse] at hok2 hsp2
          obtain ⟨hna, hnb⟩ := ownNames hr (fun s hs => by have h1 := lens_mem hs; have h2 : Lib.lens ls ≤ 536870912 := hok2.lens; omega)
          have HNA := Aside0.mk hna
          have HNB := Aside0.mk (fun (a : Addr) (e : A9 = some a) => (show w.heap.size ≠ a.block by have h1 := hnb a e; have h2 := HSZ.out; omega))
          have XSET := settingIs ⟨H, ls, a0, a1, a2, a3, a4, a5, a6, a7, a8, a9⟩ hok2 A9 c9 wr wr (Below.refl _ _) hna (HG.out.below HB.out)
          obtain ⟨L, hL⟩ : ∃ L, settingL ⟨H, ls, a0, a1, a2, a3, a4, a5, a6, a7, a8, a9⟩ = L := ⟨_, rfl⟩
          rw [hL] at XSET hsp2
          have HS2 := Aside0.mk hsp2
          obtain ⟨d0, d1, d2, d3, d4, d5, d6, d7, d8, d9, d10, d11⟩ := confCells HC.out
          have HZW := Aside0.mk hzw
          clear hr hlse hok2 hsp2 hL hna hnb hzw
          by_cases heq : L = s
          · have HX := Aside0.mk (show setP s = some ⟨H, ls, a0, a1, a2, a3, a4, a5, a6, a7, a8, a9⟩ by rw [HS2.out, if_pos heq])
            subst heq
            clear HS2
            go_wp2_with (go_at_call 14; refine XSET.mono ?_; rintro e W8 ⟨rfl, hb⟩; have hc8 := carry hb HC.out; have hz8 := carry hb HZW.out; clear d0 d1 d2 d3 d4 d5 d6 d7 d8 d9 d10 d11; obtain ⟨d0, d1, d2, d3, d4, d5, d6, d7, d8, d9, d10, d11⟩ := confCells hc8; obtain ⟨e0, e1, e2, e3, e4, e5, e6, e7, e8, e9, e10, e11⟩ := confCells hz8; obtain ⟨f0, f1, f2, f3, f4, f5, f6, f7, f8, f9, f10, f11⟩ := frozen12 hz8; have HB8 := Aside0.mk hb; have HZ8 := Aside0.mk hz8; clear hb hc8 hz8 XSET)
            refine bodyPost_ret (resConf rfl _ rfl (set12 HZ8.out)) rfl ?_
            rw [HX.out]
            exact ⟨(Below.setCell (Below.setCell (Below.setCell (Below.setCell (Below.setCell (Below.setCell (Below.setCell (Below.setCell (Below.setCell (Below.setCell (Below.setCell (Below.setCell (chain' HB.out HB8.out) (Nat.le_refl _) _) (Nat.le_refl _) _) (Nat.le_refl _) _) (Nat.le_refl _) _) (Nat.le_refl _) _) (Nat.le_refl _) _) (Nat.le_refl _) _) (Nat.le_refl _) _) (Nat.le_refl _) _) (Nat.le_refl _) _) (Nat.le_refl _) _) (Nat.le_refl _) _), A9, c9, rfl, Apart.names (Apart.set (Apart.set (Apart.set (Apart.set (Apart.set (Apart.set (Apart.set (Apart.set (Apart.set (Apart.set (Apart.set (Apart.set ((Apart.refl w.heap.size wr).below HB8.out) _ _) _ _) _ _) _ _) _ _) _ _) _ _) _ _) _ _) _ _) _ _) _ _) HNA.out (fun a e h => HNB.out a e h.symm)⟩
          · have HX := Aside0.mk (show setP s = none by rw [HS2.out, if_neg heq])
            have hne : (L == s) = false := by simpa using heq
            clear HS2 heq
            go_wp2_with (go_at_call 14; refine XSET.mono ?_; rintro e W8 ⟨rfl, hb⟩; have hz8 := carry hb HZW.out; clear d0 d1 d2 d3 d4 d5 d6 d7 d8 d9 d10 d11; obtain ⟨e0, e1, e2, e3, e4, e5, e6, e7, e8, e9, e10, e11⟩ := confCells hz8; obtain ⟨f0, f1, f2, f3, f4, f5, f6, f7, f8, f9, f10, f11⟩ := frozen12 hz8; have HB8 := Aside0.mk hb; have HZ8 := Aside0.mk hz8; clear hb hz8 XSET)
            refine bodyPost_ret (resConf rfl _ rfl (set12 HZ8.out)) rfl ?_
            rw [HX.out]
            exact ⟨(Below.setCell (Below.setCell (Below.setCell (Below.setCell (Below.setCell (Below.setCell (Below.setCell (Below.setCell (Below.setCell (Below.setCell (Below.setCell (Below.setCell (chain' HB.out HB8.out) (Nat.le_refl _) _) (Nat.le_refl _) _) (Nat.le_refl _) _) (Nat.le_refl _) _) (Nat.le_refl _) _) (Nat.le_refl _) _) (Nat.le_refl _) _) (Nat.le_refl _) _) (Nat.le_refl _) _) (Nat.le_refl _) _) (Nat.le_refl _) _) (Nat.le_refl _) _), none, 0, rfl, fun j hj => by cases hj⟩
    case inr =>
      rw [hnm]
      clear hnm hm12
      obtain ⟨w1, hw1⟩ : ∃ w1, W5.setCell ⟨w.heap.size + 1 + 1, 0, none⟩ (.string (S H)) = w1 := ⟨_, rfl⟩
      have HB1 := Aside0.mk (show Below w.heap.size w w1 by rw [← hw1]; exact Below.setCell HB5.out (by show _ ≤ w.heap.size + 1 + 1; omega) _)
      have HC1 := Aside0.mk (show w1.heap[w.heap.size + 1 + 1]? = some (.cells #[.string (S H), .slice none 0 0, .int .i64 a0, .int .i64 a1, .int .i64 a2, .int .i64 a3, .int .i64 a4, .int .i64 a5, .int .i64 a6, .int .i64 a7, .int .i64 a8, .int .i64 a9] 32 (0, 0)) by rw [← hw1]; exact heap_setCell_same W5 _ 0 _ _ _ HC5.out)
      have HZ1 := Aside0.mk (show w1.heap[w.heap.size]? = some (.cells #[.string ⟨#[]⟩, .slice none 0 0, .int .i64 0, .int .i64 0, .int .i64 0, .int .i64 0, .int .i64 0, .int .i64 0, .int .i64 0, .int .i64 0, .int .i64 0, .int .i64 0] 32) by rw [← hw1]; exact (heap_setCell_other _ _ _ _ (by show w.heap.size ≠ w.heap.size + 1 + 1; omega)).trans HZ5.out)
      have HP1 := Aside0.mk (show w1.heap[w.heap.size + 1]? = some (.cells (strs (p0 :: p1 :: p2 :: p3 :: p4 :: p5 :: p6 :: p7 :: p8 :: p9 :: p10 :: p11 :: qs)).toArray 9) by rw [← hw1]; exact (heap_setCell_other _ _ _ _ (by show w.heap.size + 1 ≠ w.heap.size + 1 + 1; omega)).trans HP5.out)
      have HSZ := Aside0.mk ((Array.getElem?_eq_some_iff.1 HC1.out).1)
      rw [hw1]
      clear hw1 k0 f0 hp10
      go_loopw [7, 8, 9, 41] (fun v7 v8 v9 v41 wr => ∃ (i : Nat) (v : Value), i ≤ m ∧ v41 = .int .i64 i ∧ Aside0 (wr.ownsRow w1.heap.size 9 1 v ((qs.take i).map unhexT).length (strs ((qs.take i).map unhexT))) ∧ Aside0 (Apart (w.heap.size + 1 + 1) w1 wr) ∧ Aside0 (Below w.heap.size w wr) ∧ Aside0 (wr.heap[w.heap.size + 1 + 1]? = some (.cells #[.string (S H), v, .int .i64 a0, .int .i64 a1, .int .i64 a2, .int .i64 a3, .int .i64 a4, .int .i64 a5, .int .i64 a6, .int .i64 a7, .int .i64 a8, .int .i64 a9] 32 (0, 0)))) (fun _ _ _ v41 _ => m - (intOf v41).toNat)
      case atStart => exact ⟨0, .slice none 0 0, by omega, rfl, ⟨World.ownsRow_nil _ _ _ _⟩, ⟨Apart.refl _ _⟩, HB1, HC1⟩
      case round =>
        obtain ⟨i, v, hi, rfl, HR, HAP, HB, HC⟩ := hrel
        by_cases hlt : i < m
        · have hlq : i < qs.length := by rw [HM.out]; exact hlt
          have hpw := (HAP.out.block _ (Array.getElem?_eq_some_iff.1 HP1.out).1 (by omega)).trans HP1.out
          have hcell := partOf (k := 12 + i) (p := qs[i]) hpw (by rw [Nat.add_comm]; simp [hlq])
          have hq := HQS.out _ (List.getElem_mem hlq)
          have HT := Aside0.mk (show (qs.take (i + 1)).map unhexT = (qs.take i).map unhexT ++ [unhexT qs[i]] from map_take_succ _ hlq)
          obtain ⟨q, hq2⟩ : ∃ q, qs[i] = q := ⟨_, rfl⟩
          rw [hq2] at hcell hq HT
          have XV := Aside0.mk (fun X => unhexIs q (by omega) X)
          obtain ⟨z, hz⟩ : ∃ z, unhexT q = z := ⟨_, rfl⟩
          obtain ⟨zo, hzo⟩ : ∃ zo, unhexO q = zo := ⟨_, rfl⟩
          rw [hz, hzo] at XV
          rw [hz] at HT
          have HLE := Aside0.mk (show ((qs.take i).map unhexT).length ≤ 8796093022207 by rw [List.length_map, List.length_take]; omega)
          obtain ⟨l0, hl0⟩ : ∃ l0, (qs.take i).map unhexT = l0 := ⟨_, rfl⟩
          rw [hl0] at HR HT HLE
          clear hq2 hz hzo hl0 hpw hq hlq
          go_wp2_with (first
            | (go_at_call 32; refine (XV.out _).mono ?_; rintro e W6 ⟨rfl, hb⟩; have hc6 := carry hb HC.out; have k1 := (confCells hc6).2.1; have HB6 := Aside0.mk hb; have HC6 := Aside0.mk hc6; clear hb hc6 hcell)
            | (at_builtin; refine appendA (own_move HR.out (fun k hk => (below_alloc HB6.out _).block k (HR.out.lt k hk).2)) (Nat.le_trans (Nat.le_trans HAP.out.size HB6.out.size) (by simp)) z HLE.out rfl _ _ rfl rfl _ 1 rfl (cell_one_new _ _ _) ?_; rintro v1 W7 ho hb7; obtain ⟨n1, hn1⟩ : ∃ n1, (l0 ++ [z]).length = n1 := ⟨_, rfl⟩; rw [hn1] at ho; obtain ⟨A1, cp1, hv1⟩ := own_slice ho; subst hv1; have HN1 := Aside0.mk hn1; clear hn1; have hc7 := (hb7.block _ HSZ.out).trans (carry (below_alloc (Below.refl _ _) _) HC6.out); obtain ⟨⟨u1, g1⟩, f1⟩ := cellOfBlock (i := 1) hc7 (Nat.succ_lt_succ (Nat.succ_pos 10)); have HO7 := Aside0.mk ho; have HB7 := Aside0.mk hb7; have HC7 := Aside0.mk hc7; clear ho hb7 hc7 k1))
          go_roundw
          case rel =>
            refine ⟨i + 1, .slice A1 n1 cp1, by omega, by go_num, ⟨?_⟩, ⟨((HAP.out.below (below_alloc HB6.out _)).base HB7.out).set _ _⟩, ⟨Below.setCell (((chain' HB.out (below_alloc HB6.out _))).trans (HB7.out.mono HB1.out.size)) (by show _ ≤ w.heap.size + 1 + 1; omega) _⟩, ⟨heap_setCell_same W7 _ 1 _ _ _ HC7.out⟩⟩
            rw [HT.out, HN1.out]
            exact own_move HO7.out (fun k hk => heap_setCell_other _ _ _ _ (by have := (HO7.out.lt k hk).1; have := HSZ.out; show k ≠ w.heap.size + 1 + 1; omega))
          case measure => simp [intOf]; omega
        · obtain rfl : i = m := by omega
          have hr := HR.out
          rw [show qs.take i = qs by rw [← HM.out, List.take_length]] at hr
          have hzw := (HAP.out.block _ (Array.getElem?_eq_some_iff.1 HZ1.out).1 (by omega)).trans HZ1.out
          obtain ⟨ls, hlse⟩ : ∃ ls, qs.map unhexT = ls := ⟨_, rfl⟩
          rw [hlse] at hr
          obtain ⟨A9, c9, hv⟩ := own_slice hr
          subst hv
          have hok2 := HOK.out
          have hsp2 := HSP.out
          rw [hlse] at hok2 hsp2
          obtain ⟨hna, hnb⟩ := ownNames hr (fun s hs => by have h1 := lens_mem hs; have h2 : Lib.lens ls ≤ 536870912 := hok2.lens; omega)
          have HNA := Aside0.mk hna
          have HNB := Aside0.mk (fun (a : Addr) (e : A9 = some a) => (show w.heap.size ≠ a.block by have h1 := hnb a e; have h2 := HSZ.out; omega))
          have XSET := settingIs ⟨H, ls, a0, a1, a2, a3, a4, a5, a6, a7, a8, a9⟩ hok2 A9 c9 wr wr (Below.refl _ _) hna (HG.out.below HB.out)
          obtain ⟨L, hL⟩ : ∃ L, settingL ⟨H, ls, a0, a1, a2, a3, a4, a5, a6, a7, a8, a9⟩ = L := ⟨_, rfl⟩
          rw [hL] at XSET hsp2
          have HS2 := Aside0.mk hsp2
          obtain ⟨d0, d1, d2, d3, d4, d5, d6, d7, d8, d9, d10, d11⟩ := confCells HC.out
          have HZW := Aside0.mk hzw
          clear hr hlse hok2 hsp2 hL hna hnb hzw
          by_cases heq : L = s
          · have HX := Aside0.mk (show setP s = some ⟨H, ls, a0, a1, a2, a3, a4, a5, a6, a7, a8, a9⟩ by rw [HS2.out, if_pos heq])
            subst heq
            clear HS2
            go_wp2_with (go_at_call 14; refine XSET.mono ?_; rintro e W8 ⟨rfl, hb⟩; have hc8 := carry hb HC.out; have hz8 := carry hb HZW.out; clear d0 d1 d2 d3 d4 d5 d6 d7 d8 d9 d10 d11; obtain ⟨d0, d1, d2, d3, d4, d5, d6, d7, d8, d9, d10, d11⟩ := confCells hc8; obtain ⟨e0, e1, e2, e3, e4, e5, e6, e7, e8, e9, e10, e11⟩ := confCells hz8; obtain ⟨f0, f1, f2, f3, f4, f5, f6, f7, f8, f9, f10, f11⟩ := frozen12 hz8; have HB8 := Aside0.mk hb; have HZ8 := Aside0.mk hz8; clear hb hc8 hz8 XSET)
            refine bodyPost_ret (resConf rfl _ rfl (set12 HZ8.out)) rfl ?_
            rw [HX.out]
            exact ⟨(Below.setCell (Below.setCell (Below.setCell (Below.setCell (Below.setCell (Below.setCell (Below.setCell (Below.setCell (Below.setCell (Below.setCell (Below.setCell (Below.setCell (chain' HB.out HB8.out) (Nat.le_refl _) _) (Nat.le_refl _) _) (Nat.le_refl _) _) (Nat.le_refl _) _) (Nat.le_refl _) _) (Nat.le_refl _) _) (Nat.le_refl _) _) (Nat.le_refl _) _) (Nat.le_refl _) _) (Nat.le_refl _) _) (Nat.le_refl _) _) (Nat.le_refl _) _), A9, c9, rfl, Apart.names (Apart.set (Apart.set (Apart.set (Apart.set (Apart.set (Apart.set (Apart.set (Apart.set (Apart.set (Apart.set (Apart.set (Apart.set ((Apart.refl w.heap.size wr).below HB8.out) _ _) _ _) _ _) _ _) _ _) _ _) _ _) _ _) _ _) _ _) _ _) _ _) HNA.out (fun a e h => HNB.out a e h.symm)⟩
          · have HX := Aside0.mk (show setP s = none by rw [HS2.out, if_neg heq])
            have hne : (L == s) = false := by simpa using heq
            clear HS2 heq
            go_wp2_with (go_at_call 14; refine XSET.mono ?_; rintro e W8 ⟨rfl, hb⟩; have hz8 := carry hb HZW.out; clear d0 d1 d2 d3 d4 d5 d6 d7 d8 d9 d10 d11; obtain ⟨e0, e1, e2, e3, e4, e5, e6, e7, e8, e9, e10, e11⟩ := confCells hz8; obtain ⟨f0, f1, f2, f3, f4, f5, f6, f7, f8, f9, f10, f11⟩ := frozen12 hz8; have HB8 := Aside0.mk hb; have HZ8 := Aside0.mk hz8; clear hb hz8 XSET)
            refine bodyPost_ret (resConf rfl _ rfl (set12 HZ8.out)) rfl ?_
            rw [HX.out]
            exact ⟨(Below.setCell (Below.setCell (Below.setCell (Below.setCell (Below.setCell (Below.setCell (Below.setCell (Below.setCell (Below.setCell (Below.setCell (Below.setCell (Below.setCell (chain' HB.out HB8.out) (Nat.le_refl _) _) (Nat.le_refl _) _) (Nat.le_refl _) _) (Nat.le_refl _) _) (Nat.le_refl _) _) (Nat.le_refl _) _) (Nat.le_refl _) _) (Nat.le_refl _) _) (Nat.le_refl _) _) (Nat.le_refl _) _) (Nat.le_refl _) _) (Nat.le_refl _) _), none, 0, rfl, fun j hj => by cases hj⟩
end Go.Proofs.YtkcdlfkicopmoaaDoor.Fs
