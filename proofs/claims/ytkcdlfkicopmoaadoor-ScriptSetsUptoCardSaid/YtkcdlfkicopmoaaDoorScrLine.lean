/- script: words, line, step. -/
import Derived.Test.YtkcdlfkicopmoaaDoorScrHex
namespace Go.Proofs.YtkcdlfkicopmoaaDoor.Fs
open Go.RowKit Go.Proofs.YtkcdlfkicopmoaaDoor Go.Proofs.YtkcdlfkicopmoaaDoor.Plain Go.Proofs.YtkcdlfkicopmoaaDoorW.PrintWords Go.Maps
set_option linter.unusedVariables false
set_option linter.unusedSimpArgs false
theorem itoaIs (n : Int) (h0 : -9223372036854775808 ≤ n) (h1 : n ≤ 9223372036854775807) (w : World) (hG : GI w) : Calls Tryd.prog 40 #[.int .i64 n] w fun e w' => e = .returned (.string (S (Lib.itoa n))) ∧ Below w.heap.size w w' := by
  refine (Tryd.strconv_Itoa n h0 h1 w hG.tab).mono ?_
  rintro e w' ⟨rfl, k, os, rfl⟩
  refine ⟨rfl, rfl, rfl, rfl, by simp [Sort.grow, World.drewN], fun i hi => ?_⟩
  simp only [Sort.grow, World.drewN]
  rw [Array.getElem?_append_left hi]
def I64 (n : Int) : Prop := -9223372036854775808 ≤ n ∧ n ≤ 9223372036854775807
theorem dec_length {n k : Nat} (h : n < 10 ^ k) (hk : 1 ≤ k) : (Lib.decDigits n).length ≤ k := by
  induction k generalizing n with
  | zero => omega
  | succ k ih =>
    rw [Lib.decDigits]
    split
    · simp
    · rename_i h10
      have hk1 : 1 ≤ k := by
        rcases Nat.eq_zero_or_pos k with rfl | h1
        · simp at h; omega
        · exact h1
      have := ih (n := n / 10) (by rw [Nat.pow_succ] at h; omega) hk1
      simp only [List.length_append, List.length_singleton]
      omega
theorem itoa_length {n : Int} (h : I64 n) : (Lib.itoa n).length ≤ 20 := by
  obtain ⟨h0, h1⟩ := h
  unfold Lib.itoa
  split
  · have := dec_length (n := n.natAbs) (k := 19) (by show _ < 10000000000000000000; omega) (by omega)
    simp only [List.length_cons]
    omega
  · have := dec_length (n := n.toNat) (k := 19) (by show _ < 10000000000000000000; omega) (by omega)
    omega
theorem map_take_succ {α β : Type} (f : α → β) {l : List α} {i : Nat} (h : i < l.length) : (l.take (i + 1)).map f = (l.take i).map f ++ [f l[i]] := by
  rw [List.take_add_one, List.getElem?_eq_getElem h, List.map_append]
  rfl
theorem lens_mem {l : List Nm} {s : Nm} (h : s ∈ l) : s.length ≤ Lib.lens l := by
  unfold Lib.lens
  induction l with
  | nil => cases h
  | cons a l ih =>
    simp only [List.map_cons, List.sum_cons]
    rcases List.mem_cons.1 h with rfl | h
    · omega
    · have := ih h; omega
theorem lens_hex (ts : List Nm) : Lib.lens (ts.map fun t => 120 :: hexL t) = 2 * Lib.lens ts + ts.length := by
  unfold Lib.lens
  induction ts with
  | nil => rfl
  | cons a r ih =>
    simp only [List.map_cons, List.sum_cons, List.length_cons] at ih ⊢
    rw [hexL_length]
    omega
/-- numbers in a row -/
def IntsAt (W : World) (A : Option Addr) (l : List Int) : Prop := ∀ j (hj : j < l.length), ∃ ad, A = some ad ∧ W.cell? (ad.add j) = some (.int .i64 l[j])
theorem IntsAt.below {w W : World} {A : Option Addr} {l : List Int} (h : IntsAt w A l) (hb : Below w.heap.size w W) : IntsAt W A l := fun j hj => by
  obtain ⟨ad, e, hc⟩ := h j hj
  exact ⟨ad, e, (World.cell?_of_block (hb.block _ (World.block_lt_of_cell? _ _ hc))).trans hc⟩
set_option maxHeartbeats 1000000 in
set_option maxRecDepth 100000 in
theorem wordsInt (A : Option Addr) (c : Nat) (l : List Int) (hI : ∀ n ∈ l, I64 n) (hn : l.length ≤ 1000000) (w : World) (h : IntsAt w A l) (hG : GI w) :
    Calls Tryd.prog 39 #[.slice A l.length c, .func (.func 40) #[] #[]] w fun e W' => ∃ v, e = .returned v ∧ SRow w v (l.map Lib.itoa) W' := by
  have HI := Aside0.mk h
  have HG := Aside0.mk hG
  have HII := Aside0.mk hI
  clear h hG hI
  go_enter Tryd.func39, Tryd.ntmps39
  go_wp2
  go_loopw [5, 7, 10] (fun v5 v7 v10 wr => ∃ i : Nat, i ≤ l.length ∧ v10 = .int .i64 i ∧ Aside0 (SRow w v5 ((l.take i).map Lib.itoa) wr)) (fun _ _ v10 _ => l.length - (intOf v10).toNat)
  case atStart => exact ⟨0, by omega, rfl, ⟨SRow.nil (Below.refl _ _)⟩⟩
  case round =>
    obtain ⟨i, hi, rfl, HR⟩ := hrel
    by_cases hlt : i < l.length
    · obtain ⟨ad, rfl, hcell⟩ := (HI.out.below HR.out.below) i hlt
      have hi64 := HII.out _ (List.getElem_mem hlt)
      have HT := Aside0.mk (show (l.take (i + 1)).map Lib.itoa = (l.take i).map Lib.itoa ++ [Lib.itoa l[i]] from map_take_succ _ hlt)
      obtain ⟨n, hn2⟩ : ∃ n, l[i] = n := ⟨_, rfl⟩
      rw [hn2] at hcell hi64 HT
      have XI := itoaIs n hi64.1 hi64.2 wr (HG.out.below HR.out.below)
      have hle := Aside0.mk (show ((l.take i).map Lib.itoa).length ≤ 8796093022207 by rw [List.length_map, List.length_take]; omega)
      obtain ⟨t, ht⟩ : ∃ t, Lib.itoa n = t := ⟨_, rfl⟩
      rw [ht] at XI HT
      clear ht hn2 hi64
      go_wp2_with (first
        | (go_at_call 40; refine XI.mono ?_; rintro e W3 ⟨rfl, hb⟩; have HB3 := Aside0.mk hb; clear hb XI hcell)
        | (at_builtin; refine appendS ((HR.out.step HB3.out).step (below_alloc (Below.refl _ _) _)) t hle.out rfl _ _ rfl rfl _ _ rfl (cell_one_new _ _ _) ?_; rintro v1 W4 h; have HR4 := Aside0.mk h; clear h))
      go_roundw
      case rel => exact ⟨i + 1, by omega, by go_num, ⟨by rw [HT.out]; exact HR4.out⟩⟩
      case measure => simp [intOf]; omega
    · obtain rfl : i = l.length := by omega
      go_wp2
      go_ret
      have := HR.out
      rw [List.take_length] at this
      exact ⟨_, rfl, this⟩
theorem line1 (u : Nm) (hu : u.length ≤ 1073741824) (w : World) : Calls Tryd.prog 42 #[.string (S u)] w fun e W' => e = .returned (.string (S (120 :: hexL u))) ∧ Below w.heap.size w W' := by
  have X := hexIs u hu w
  have hl := hexL_length u
  obtain ⟨t, ht⟩ : ∃ t, hexL u = t := ⟨_, rfl⟩
  have hl2 : t.length ≤ 2147483648 := by rw [← ht]; omega
  have HE := Aside0.mk (show (⟨#[120]⟩ : ByteArray) ++ S t = S (120 :: t) by rw [show (⟨#[120]⟩ : ByteArray) = S [120] from rfl, S_append]; rfl)
  rw [ht] at X ⊢
  clear ht hl
  go_enter Tryd.func42, Tryd.ntmps42
  go_wp2_with (go_at_call 20; refine X.mono ?_; rintro e W3 ⟨rfl, hb⟩; have HB3 := Aside0.mk hb; clear hb X)
  go_ret
  exact ⟨congrArg (fun s => Ending.returned (.string s)) HE.out, HB3.out⟩
set_option maxHeartbeats 1000000 in
set_option maxRecDepth 100000 in
theorem wordsStr (A : Option Addr) (c : Nat) (l : List Nm) (hI : ∀ s ∈ l, s.length ≤ 1073741824) (hn : l.length ≤ 1000000000) (w : World) (h : NamesAt w A l) :
    Calls Tryd.prog 41 #[.slice A l.length c, .func (.func 42) #[] #[]] w fun e W' => ∃ v, e = .returned v ∧ SRow w v (l.map fun s => 120 :: hexL s) W' := by
  have HI := Aside0.mk h
  have HII := Aside0.mk hI
  clear h hI
  go_enter Tryd.func41, Tryd.ntmps41
  go_wp2
  go_loopw [5, 7, 10] (fun v5 v7 v10 wr => ∃ i : Nat, i ≤ l.length ∧ v10 = .int .i64 i ∧ Aside0 (SRow w v5 ((l.take i).map fun s => 120 :: hexL s) wr)) (fun _ _ v10 _ => l.length - (intOf v10).toNat)
  case atStart => exact ⟨0, by omega, rfl, ⟨SRow.nil (Below.refl _ _)⟩⟩
  case round =>
    obtain ⟨i, hi, rfl, HR⟩ := hrel
    by_cases hlt : i < l.length
    · obtain ⟨ad, rfl, hcell, -⟩ := (HI.out.below HR.out.below) i hlt
      have hi64 := HII.out _ (List.getElem_mem hlt)
      have HT := Aside0.mk (show ((l.take (i + 1)).map fun s => 120 :: hexL s) = ((l.take i).map fun s => 120 :: hexL s) ++ [120 :: hexL l[i]] from map_take_succ _ hlt)
      obtain ⟨n, hn2⟩ : ∃ n, l[i] = n := ⟨_, rfl⟩
      rw [hn2] at hcell hi64 HT
      have XI := line1 n hi64 wr
      have hle := Aside0.mk (show ((l.take i).map fun s => 120 :: hexL s).length ≤ 8796093022207 by rw [List.length_map, List.length_take]; omega)
      obtain ⟨t, ht⟩ : ∃ t, (120 :: hexL n : Nm) = t := ⟨_, rfl⟩
      rw [ht] at XI HT
      clear ht hn2 hi64
      go_wp2_with (first
        | (go_at_call 42; refine XI.mono ?_; rintro e W3 ⟨rfl, hb⟩; have HB3 := Aside0.mk hb; clear hb XI hcell)
        | (at_builtin; refine appendS ((HR.out.step HB3.out).step (below_alloc (Below.refl _ _) _)) t hle.out rfl _ _ rfl rfl _ _ rfl (cell_one_new _ _ _) ?_; rintro v1 W4 h; have HR4 := Aside0.mk h; clear h))
      go_roundw
      case rel => exact ⟨i + 1, by omega, by go_num, ⟨by rw [HT.out]; exact HR4.out⟩⟩
      case measure => simp [intOf]; omega
    · obtain rfl : i = l.length := by omega
      go_wp2
      go_ret
      have := HR.out
      rw [List.take_length] at this
      exact ⟨_, rfl, this⟩
set_option maxRecDepth 100000 in
/-- 'append(l, r...)' of two lists -/
theorem SRow.runS {w0 w1 X : World} {v v' : Value} {l r : List Nm} (h : SRow w0 v l X) (h' : SRow w1 v' r X) (hn : l.length + r.length ≤ 8796093022207) (ty : TypeId) :
    ∃ v1 W1, (Builtin.append_ #[30, 30] ty #[v, v']).run Tryd.prog X = .ok v1 W1 ∧ SRow w0 v1 (l ++ r) W1 := by
  obtain ⟨i0, hi, hzz⟩ := Option.map_eq_some_iff.1 infoStr
  simp only [Prod.mk.injEq] at hzz
  obtain ⟨hz0, hz1, hz2⟩ := hzz
  rcases h'.row.2 with ⟨rfl, h0⟩ | ⟨g, cap, cur, rfl, hg0, hg, hcap, hm, hs, ht⟩
  · obtain rfl : r = [] := List.eq_nil_of_length_eq_zero h0
    refine ⟨v, X, ?_, by rw [List.append_nil]; exact h⟩
    rcases h.row.2 with ⟨rfl, h0⟩ | ⟨g, cap, cur, rfl, _, _, hcap, _⟩
    · simp [Builtin.append_, run_underlying Tryd.underlying30, sizeOf, typeInfo, hi, Builtin.lenOf, Builtin.firstCells, storeCells]
    · simp [Builtin.append_, run_underlying Tryd.underlying30, sizeOf, typeInfo, hi, Builtin.lenOf, hcap, Builtin.firstCells, storeCells, Nat.not_lt.2 hcap]
  · obtain ⟨v1, W1, h1, h2, h3, -⟩ := run_append_own_at (P := Tryd.prog) (w := X) w0.heap.size 30 ty 9 i0 (.string ByteArray.empty) 1 16 Tryd.underlying30 hi hz0 hz1 hz2 rfl (by decide) v l.length (strs l) h.row ⟨g, 0, none⟩ r.length cap (strs r) (by rw [strs_length]; omega) (fun j u hu => by
      have hj : j < r.length := by
        rcases Nat.lt_or_ge j r.length with h | h
        · exact h
        · rw [List.getElem?_eq_none (by rw [strs_length]; exact h)] at hu; cases hu
      obtain ⟨g', e, hc, _⟩ := h'.cell j hj
      injection e with e
      injection e with e _ _
      subst e
      have h5 : (⟨g, 0, none⟩ : Addr).add j = ⟨g, j, none⟩ := by unfold Addr.add; split <;> simp_all
      rw [h5, hc]
      simp [strs, hj] at hu
      rw [← hu]) (by intro x hx; simp only [strs, List.mem_map] at hx; obtain ⟨_, _, rfl⟩ := hx; rfl) (by simp only [maxLen]; omega) (by omega) h.below.size
    refine ⟨v1, W1, h1, ?_, h.below.grown h3 h.below.size (fun k hk => ?_)⟩
    · rw [List.length_append, strs_append]
      exact h2
    · rcases h.row.2 with ⟨rfl, _⟩ | ⟨g, cap, cur, rfl, hg, _⟩
      · cases hk
      · cases hk; exact hg
theorem appendSS {w0 w1 X : World} {v v' : Value} {l r : List Nm} (h : SRow w0 v l X) (h' : SRow w1 v' r X) (hn : l.length + r.length ≤ 8796093022207) {ops : Array Oper} {rest : List Oper} {o : Oper} {a : Act} {Q : Exit → Act → World → Prop} (hgd : o.guard = none) (x y : Operand)
    (ho : o.op = .call { callee := .builtin .append, args := #[x, y], argTypes := #[30, 30] }) (hx : a.eval x = v) (hy : a.eval y = v')
    (hK : ∀ v1 w1, SRow w0 v1 (l ++ r) w1 → wpList Tryd.prog ops Q rest (a.put o.dst v1) w1) : wpList Tryd.prog ops Q (o :: rest) a X := by
  obtain ⟨v1, W1, hrun, h1⟩ := h.runS h' hn o.type
  refine wpList_plain hgd fun K hK' => ?_
  unfold Oper.wp execOp
  simp only [ho, resolve, invoke, builtin, Sem.run_bind, Sem.run_pure, Result.andThen_ok, List.map_toArray, List.map_cons, List.map_nil, hx, hy, hrun]
  exact hK' _ _ (hK v1 W1 h1)
theorem lens_sum {l : List Nm} {k : Nat} (h : ∀ s ∈ l, s.length ≤ k) : Lib.lens l ≤ k * l.length := by
  unfold Lib.lens
  induction l with
  | nil => simp
  | cons a l ih =>
    have h1 := h a (by simp)
    have h2 := ih (fun s hs => h s (by simp [hs]))
    simp only [List.map_cons, List.sum_cons, List.length_cons, Nat.mul_add, Nat.mul_one]
    omega
/-- a line's length -/
theorem lineL_length (ns : List Int) (ts : List Nm) (hI : ∀ n ∈ ns, I64 n) : (lineL ns ts).length ≤ 21 * ns.length + 2 * Lib.lens ts + 2 * ts.length + 2 := by
  have key : ∀ (l : List Nm), (Lib.join l [32]).length ≤ Lib.lens l + l.length := by
    intro l
    cases l with
    | nil => simp [Lib.join_nil]
    | cons x r => rw [Lib.join_length]; simp; omega
  have h1 := key (ns.map Lib.itoa ++ ts.map fun t => 120 :: hexL t)
  have h2 : Lib.lens (ns.map Lib.itoa ++ ts.map fun t => 120 :: hexL t) = Lib.lens (ns.map Lib.itoa) + Lib.lens (ts.map fun t => 120 :: hexL t) := by simp [Lib.lens]
  have h3 : Lib.lens (ns.map Lib.itoa) ≤ 20 * ns.length := by
    have := lens_sum (l := ns.map Lib.itoa) (k := 20) (fun s hs => by
      obtain ⟨n, hn, rfl⟩ := List.mem_map.1 hs
      exact itoa_length (hI n hn))
    rwa [List.length_map] at this
  have h4 := lens_hex ts
  unfold lineL
  rw [List.length_append]
  simp only [List.length_append, List.length_map, List.length_cons, List.length_nil] at h1 ⊢
  omega
set_option maxHeartbeats 1000000 in
set_option maxRecDepth 100000 in
theorem lineIs (A : Option Addr) (c : Nat) (ns : List Int) (B : Option Addr) (d : Nat) (ts : List Nm) (hI : ∀ n ∈ ns, I64 n) (hn : ns.length ≤ 1000000) (hm : ts.length ≤ 1000000000) (hl : Lib.lens ts ≤ 1073741824) (w : World) (h : IntsAt w A ns) (h' : NamesAt w B ts) (hG : GI w) :
    Calls Tryd.prog 28 #[.slice A ns.length c, .slice B ts.length d] w fun e W' => e = .returned (.string (S (lineL ns ts))) ∧ Below w.heap.size w W' := by
  have hs : ∀ s ∈ ts, s.length ≤ 1073741824 := by
    intro s hs
    have : s.length ≤ Lib.lens ts := by
      exact lens_mem hs
    omega
  have X1 := wordsInt A c ns hI hn w h hG
  have HX2 := Aside0.mk (fun (X : World) (hX : Below w.heap.size w X) => wordsStr B d ts hs hm X (h'.below hX))
  have hlen := lineL_length ns ts hI
  have HLN := Aside0.mk (show lineL ns ts = Lib.join (ns.map Lib.itoa ++ ts.map fun t => 120 :: hexL t) [32] ++ [10] from rfl)
  have hjl : (Lib.join (ns.map Lib.itoa ++ ts.map fun t => 120 :: hexL t) [32]).length ≤ 140737488355328 := by
    have := HLN.out
    rw [this, List.length_append] at hlen
    simp only [List.length_cons, List.length_nil] at hlen
    omega
  have HJ := Aside0.mk (fun (X : World) v (h : SRow w v (ns.map Lib.itoa ++ ts.map fun t => 120 :: hexL t) X) => joinIs h [32] (by simp; omega) hjl ⟨#[32]⟩ rfl)
  have HN := Aside0.mk (show (ns.map Lib.itoa).length + (ts.map fun t => 120 :: hexL t).length ≤ 8796093022207 by simp; omega)
  obtain ⟨T, hT⟩ : ∃ T, Lib.join (ns.map Lib.itoa ++ ts.map fun t => 120 :: hexL t) [32] = T := ⟨_, rfl⟩
  rw [hT] at HJ HLN hjl
  have HE := Aside0.mk (show S T ++ (⟨#[10]⟩ : ByteArray) = S (T ++ [10]) by rw [show (⟨#[10]⟩ : ByteArray) = S [10] from rfl, S_append])
  have hT2 : T.length ≤ 140737488355328 := hjl
  clear hT h h' hG hI hs hlen hl hjl
  go_enter Tryd.func28, Tryd.ntmps28
  go_wp2_with (first
    | (go_at_call 39; refine X1.mono ?_; rintro e W1 ⟨v1, rfl, hr1⟩; have HR1 := Aside0.mk hr1; clear hr1 X1)
    | (go_at_call 41; refine (HX2.out _ HR1.out.below).mono ?_; rintro e W2 ⟨v2, rfl, hr2⟩; have HR2 := Aside0.mk hr2; clear hr2)
    | (at_builtin; refine appendSS (HR1.out.step HR2.out.below) HR2.out HN.out rfl _ _ rfl rfl rfl ?_; rintro v3 W3 h; have HR3 := Aside0.mk h; clear h)
    | (go_at_call 43; refine (HJ.out _ _ HR3.out).mono ?_; rintro e W4 ⟨rfl, hb⟩; have HB4 := Aside0.mk (chain' HR3.out.below hb); clear hb))
  go_ret
  rw [HLN.out]
  exact ⟨congrArg (fun s => Ending.returned (.string s)) HE.out, HB4.out⟩
theorem intsNew {X : World} {b : Nat} {ns : List Int} {cs : Array Value} {t : TypeId} {fr : Nat × Nat} (h : X.heap[b]? = some (.cells cs t fr)) (hcs : cs = (ns.map fun n => Value.int .i64 n).toArray) : IntsAt X (some ⟨b, 0, none⟩) ns := by
  intro j hj
  refine ⟨_, rfl, ?_⟩
  have h5 : (⟨b, 0, none⟩ : Addr).add j = ⟨b, j, none⟩ := by unfold Addr.add; split <;> simp_all
  rw [h5]
  unfold World.cell?
  simp only []
  rw [h]
  subst hcs
  simp [hj]
theorem namesNew {X : World} {b : Nat} {ts : List Nm} {cs : Array Value} {t : TypeId} {fr : Nat × Nat} (h : X.heap[b]? = some (.cells cs t fr)) (hcs : cs = (strs ts).toArray) (hl : ∀ s ∈ ts, s.length ≤ 140737488351232) : NamesAt X (some ⟨b, 0, none⟩) ts := by
  intro j hj
  refine ⟨_, rfl, ?_, hl _ (List.getElem_mem hj)⟩
  have h5 : (⟨b, 0, none⟩ : Addr).add j = ⟨b, j, none⟩ := by unfold Addr.add; split <;> simp_all
  rw [h5]
  unfold World.cell?
  simp only []
  rw [h]
  subst hcs
  simp [strs, hj]
theorem heapAt {W X : World} {o : Obj} {b : Nat} (hb : W.heap.size = b) (h : Below (W.alloc o).heap.size (W.alloc o) X) : X.heap[b]? = some o := by
  subst hb
  exact (h.block W.heap.size (by simp)).trans (heap_alloc_new W o)
set_option maxHeartbeats 1000000 in
set_option maxRecDepth 100000 in
theorem stepIs (x : StepD) (hk : I64 x.kind) (ha : I64 x.a) (hb : I64 x.b) (ht : x.text.length ≤ 1073741824) (w : World) (hG : GI w) :
    Calls Tryd.prog 23 #[.agg #[.int .i64 x.kind, .int .i64 x.a, .int .i64 x.b, .string (S x.text)]] w fun e W' => e = .returned (.string (S (stepL x))) ∧ Below w.heap.size w W' := by
  have HL := Aside0.mk (fun (X : World) (hX : Below w.heap.size w X) A B h h' => lineIs A 3 [x.kind, x.a, x.b] B 1 [x.text] (by intro n hn; simp at hn; rcases hn with rfl | rfl | rfl <;> assumption) (by simp) (by simp) (by simp [Lib.lens]; exact ht) X h h' (hG.below hX))
  have HB0 := Aside0.mk (Below.refl w.heap.size w)
  have HT := Aside0.mk (show ∀ s ∈ [x.text], s.length ≤ 140737488351232 by intro s hs; simp at hs; subst hs; omega)
  clear hG ht hk ha hb
  go_enter Tryd.func23, Tryd.ntmps23
  go_wp2_with (go_at_call 28; refine (HL.out _ (below_alloc (below_alloc (below_alloc HB0.out _) _) _) _ _ (intsNew (heapAt (by simp) (below_alloc (Below.refl _ _) _)) rfl) (namesNew (heapAt (by simp) (Below.refl _ _)) rfl HT.out)).mono ?_; rintro e W3 ⟨rfl, hb⟩; have HB3 := Aside0.mk (chain' (below_alloc (below_alloc (below_alloc HB0.out _) _) _) hb); clear hb)
  go_ret
  exact ⟨rfl, HB3.out⟩
end Go.Proofs.YtkcdlfkicopmoaaDoor.Fs
