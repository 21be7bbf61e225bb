/- A list, and beside it a slice of bytes of the call's own that is appended to and cut at its front. -/
import Derived.Test.YthdjeikfbbdehaaDoorLineTwo
namespace Go.Proofs.YthdjeikfbbdehaaDoor.LineFns
open Go.RowKit Go.Proofs.YthdjeikfbbdehaaDoor Go.Proofs.YthdjeikfbbdehaaDoor.Plain Go.Proofs.YthdjeikfbbdehaaDoorW.PrintWords
set_option linter.unusedVariables false
set_option linter.unusedSimpArgs false
theorem append_q {P : Program} {W : World} (base : Nat) (t ty e : TypeId) (k : IntKind) (bytes : Nat)
    (ht : P.underlying t = some (.slice e)) (hinfo : (P.info? e).map (fun i => (i.zero, i.size, i.bytes)) = some (some (.int k 0), 1, bytes)) (hb0 : 0 < bytes)
    (v : Value) (xs ys : List Int) (A : Option Addr) (m c : Nat)
    (HO : QRow W base e 1 v xs.length (nums k xs)) (HR : ReadsInt W k A m ys) (hbase : base ≤ W.heap.size) (hl : (xs.length + m) * bytes ≤ 140737488355328) :
    ∃ v1 w1, (Builtin.append_ #[t, t] ty #[v, .slice A m c]).run P W = .ok v1 w1 ∧ QRow w1 base e 1 v1 (xs ++ ys).length (nums k (xs ++ ys)) ∧ W.grownBy w1 v.ownBlock ∧ (v1.ownBlock = v.ownBlock ∨ ∃ b, v1.ownBlock = some b ∧ W.heap.size ≤ b) := by
  obtain ⟨i0, hi, hzz⟩ := Option.map_eq_some_iff.1 hinfo
  simp only [Prod.mk.injEq] at hzz
  obtain ⟨hz0, hz1, hz2⟩ := hzz
  have hm : ys.length = m := HR.1
  have hlen : xs.length + m ≤ 140737488355328 := Nat.le_trans (Nat.le_mul_of_pos_right _ hb0) hl
  rcases Nat.eq_zero_or_pos m with h0 | hpos
  · subst h0
    obtain rfl : ys = [] := List.eq_nil_of_length_eq_zero hm
    refine ⟨v, W, ?_, by simpa using HO, World.grownBy.refl W _, .inl rfl⟩
    obtain ⟨A', c', rfl, hnc⟩ := q_slice HO
    cases A <;> cases A' <;> simp [Builtin.append_, run_underlying ht, sizeOf, typeInfo, hi, Builtin.lenOf, Builtin.firstCells, storeCells, hnc, hz1]
    all_goals simp [loadCells, loadCellsFrom, storeCells, Result.andThen]
  · obtain ⟨ad, rfl, hc⟩ := HR.2.2 hpos
    have hcells : ∀ j u, (nums k ys)[j]? = some u → W.cell? (ad.add j) = some u := by
      intro j u hu
      have hj : j < ys.length := by
        rcases Nat.lt_or_ge j ys.length with h | h
        · exact h
        · simp [nums, List.getElem?_eq_none h] at hu
      have := hc j (by omega)
      simp [nums, List.getElem?_eq_getElem hj] at hu
      subst hu
      rw [this]
      simp [List.getD_eq_getElem?_getD, List.getElem?_eq_getElem hj]
    obtain ⟨v1, w1, hr, h2, h3, h4⟩ := q_append (P := P) W base t ty e i0 (.int k 0) 1 bytes ht hi hz0 hz1 hz2 rfl (by omega) v xs.length (nums k xs) HO ad m c (nums k ys) (by simp [nums, hm]) hcells
      (by intro u hu; simp only [nums, List.mem_map] at hu; obtain ⟨q, _, rfl⟩ := hu; rfl) hpos (by simp only [maxLen]; omega) hl hbase
    refine ⟨v1, w1, hr, ?_, h3, h4⟩
    have e1 : nums k xs ++ nums k ys = nums k (xs ++ ys) := by simp [nums]
    rw [e1] at h2
    rw [List.length_append, hm]
    exact h2
/-- block b holds a list of which u waits; beside it v is a slice of the call's own that reads as u' -/
structure LW (w0 : World) (b : Nat) (u : List UInt8) (v : Value) (u' : List UInt8) (W : World) : Prop where
  both : ∃ vl, Lin W w0.heap.size b vl u ∧ QRow W w0.heap.size 5 1 v (B u').length (nums .u8 (B u')) ∧ v.ownBlock ≠ some b ∧ (∀ g, vl.ownBlock = some g → v.ownBlock ≠ some g)
  below : Below w0.heap.size w0 W
theorem LW.fst {w0 W : World} {b : Nat} {u u' : List UInt8} {v : Value} (h : LW w0 b u v u' W) : Has w0 b u W := by
  obtain ⟨⟨vl, h1, _⟩, h2⟩ := h
  exact ⟨⟨vl, h1⟩, h2⟩
theorem LW.new {w0 W : World} {b : Nat} {u : List UInt8} (h : Has w0 b u W) : LW w0 b u (.slice none 0 0) [] W := by
  obtain ⟨⟨vl, h1⟩, h2⟩ := h
  exact ⟨⟨vl, h1, q_of_own (own_nil _ _ _ _), by simp [Value.ownBlock], by simp [Value.ownBlock]⟩, h2⟩
theorem LW.step {w0 W X : World} {b : Nat} {u u' : List UInt8} {v : Value} (h : LW w0 b u v u' W) (hb : Below W.heap.size W X) : LW w0 b u v u' X := by
  obtain ⟨⟨vl, h1, h3, h4, h5⟩, h2⟩ := h
  exact ⟨⟨vl, h1.below hb, q_move h3 (fun k hk => hb.block k (q_lt h3 k hk)), h4, h5⟩, h2.trans (hb.mono h2.size)⟩
theorem LW.slice {w0 W : World} {b : Nat} {u u' : List UInt8} {v : Value} (h : LW w0 b u v u' W) : ∃ A c, v = .slice A u'.length c ∧ u'.length ≤ c := by
  obtain ⟨⟨vl, h1, h3, h4, h5⟩, h2⟩ := h
  have := q_slice h3
  rw [B_length] at this
  exact this
theorem LW.reads {w0 W : World} {b : Nat} {u u' : List UInt8} {A : Option Addr} {n c : Nat} (h : LW w0 b u (.slice A n c) u' W) : ReadsInt W .u8 A (B u').length (B u') := by
  obtain ⟨⟨vl, h1, h3, h4, h5⟩, h2⟩ := h
  have hm := q_max h3
  obtain ⟨A', c', e, hc⟩ := q_slice h3
  injection e with e1 e2 e3
  subst e1 e2 e3
  refine ⟨rfl, by omega, fun h0 => ?_⟩
  obtain ⟨ad, rfl, hcell⟩ := q_cells h3 h0
  refine ⟨ad, rfl, fun j hj => hcell j _ ?_⟩
  simp [nums, List.getD_eq_getElem?_getD, List.getElem?_eq_getElem hj]
/-- 'wait[k:]' behind a line -/
theorem LW.cut {w0 W : World} {b : Nat} {u a r : List UInt8} {A : Option Addr} {n c : Nat} (h : LW w0 b u (.slice A n c) (a ++ 13 :: 10 :: r) W) : LW w0 b u (.slice (if c = a.length + 2 then A else A.map (·.add (a.length + 2))) r.length (c - (a.length + 2))) r W := by
  obtain ⟨⟨vl, h1, h3, h4, h5⟩, h2⟩ := h
  obtain ⟨A', c', e, hc⟩ := q_slice h3
  injection e with e1 e2 e3
  subst e1 e2 e3
  have h6 := q_drop (k := a.length + 2) h3 (by rw [B_length]; simp only [List.length_append, List.length_cons]; omega)
  have hl : (B (a ++ 13 :: 10 :: r)).length - (a.length + 2) = r.length := by rw [B_length]; simp only [List.length_append, List.length_cons]; omega
  have hd : (nums .u8 (B (a ++ 13 :: 10 :: r))).drop ((a.length + 2) * 1) = nums .u8 (B r) := by
    have e : a ++ 13 :: 10 :: r = (a ++ [13, 10]) ++ r := by simp
    rw [Nat.mul_one, nums, ← List.map_drop, B_drop, e, List.drop_left' (by simp)]
    rfl
  have hb : ∀ X : Option Addr, (Value.slice (if c = a.length + 2 then X else X.map (·.add ((a.length + 2) * 1))) (r.length) (c - (a.length + 2))).ownBlock = (Value.slice X (B (a ++ 13 :: 10 :: r)).length c).ownBlock := by
    intro X
    cases X with
    | none => by_cases e : c = a.length + 2 <;> simp [Value.ownBlock, e]
    | some ad => by_cases e : c = a.length + 2 <;> simp [Value.ownBlock, e, Addr.add]
  rw [hl, hd] at h6
  have hb' := hb A
  simp only [Nat.mul_one] at h6 hb'
  exact ⟨⟨vl, h1, by rw [B_length]; exact h6, by rw [hb']; exact h4, fun g hg => by rw [hb']; exact h5 g hg⟩, h2⟩
theorem feedL {w0 W : World} {b : Nat} {u u' : List UInt8} {v : Value} (x : List UInt8) {A : Option Addr} {n c : Nat} (h : LW w0 b u v u' W) (hn : n = x.length) (hx : ReadsInt W .u8 A (B x).length (B x)) (hz : u.length + x.length ≤ 1000000) :
    Calls Tryd.prog 10 #[.pointer (some ⟨b, 0, none⟩), .slice A n c] W fun e W' => e = .returned (.tuple #[]) ∧ LW w0 b (u ++ x) v u' W' := by
  obtain ⟨⟨vl, h1, h3, h4, h5⟩, h2⟩ := h
  refine (feed' w0.heap.size b vl u x A n c W hn h1 hx h2.size hz).mono ?_
  rintro e W' ⟨rfl, v', hL', ho, hk, hb⟩
  refine ⟨rfl, ⟨v', hL', q_move h3 (fun k hk' => hk k (q_lt h3 k hk') (fun e => h4 (by rw [hk', e])) (fun e => h5 k e.symm hk')), h4, fun g hg e => ?_⟩, h2.trans hb⟩
  rcases ho with e' | ⟨g', e', hg'⟩
  · exact h5 g (e' ▸ hg) e
  · rw [e'] at hg; cases hg; have := q_lt h3 g e; omega
theorem nextNoL {w0 W : World} {b : Nat} {u u' : List UInt8} {v : Value} (hG : Glob w0) (most : Int) (h : LW w0 b u v u' W) (hz : u.length ≤ 1000000) (hi : Lib.index u [13, 10] = -1) :
    Calls Tryd.prog 12 #[.pointer (some ⟨b, 0, none⟩), .int .i64 most] W fun e W' => e = .returned (.tuple #[.string (S []), .bool false, .bool false]) ∧ LW w0 b u v u' W' := by
  have h' := h
  obtain ⟨⟨vl, h1, h3, h4, h5⟩, h2⟩ := h
  refine (nextNone w0.heap.size b vl u most W (hG.below h2) h1 hz hi).mono ?_
  rintro e W' ⟨rfl, n, rfl⟩
  exact ⟨rfl, h'.step (by apply pw_below_drewN; exact Below.refl _ _)⟩
theorem nextYesL {w0 W : World} {b : Nat} {u' : List UInt8} {v : Value} (a r : List UInt8) (hG : Glob w0) (most : Int) (h : LW w0 b (a ++ 13 :: 10 :: r) v u' W) (hz : (a ++ 13 :: 10 :: r).length ≤ 1000000) (hi : Lib.index (a ++ 13 :: 10 :: r) [13, 10] = (a.length : Int)) :
    Calls Tryd.prog 12 #[.pointer (some ⟨b, 0, none⟩), .int .i64 most] W fun e W' => e = .returned (.tuple #[.string (if (a.length : Int) > max most 0 then S [] else S a), .bool (decide ((a.length : Int) > max most 0)), .bool true]) ∧ LW w0 b r v u' W' := by
  obtain ⟨⟨vl, h1, h3, h4, h5⟩, h2⟩ := h
  refine (nextSome w0.heap.size b vl a r most W (hG.below h2) h1 h2.size hz hi).mono ?_
  rintro e W' ⟨rfl, v', hL', hn, hk, hb⟩
  refine ⟨rfl, ⟨v', hL', q_move h3 (fun k hk' => hk k (q_lt h3 k hk') (fun e => h4 (by rw [hk', e]))), h4, fun g hg e => ?_⟩, h2.trans hb⟩
  have := hn g hg
  have := q_lt h3 g e
  omega
/-- 'append(wait, x...)' -/
theorem appendL {w0 W : World} {b : Nat} {u u' : List UInt8} {v : Value} {ops : Array Oper} {rest : List Oper} {o : Oper} {ac : Act} {Q : Exit → Act → World → Prop} (hgd : o.guard = none) (s y : Operand) (ho : o.op = .call { callee := .builtin .append, args := #[s, y], argTypes := #[24, 24] })
    (x : List UInt8) {A : Option Addr} {n c : Nat} (h : LW w0 b u v u' W) (hs : ac.eval s = v) (hy : ac.eval y = .slice A n c) (hn : n = x.length) (hx : ReadsInt W .u8 A (B x).length (B x)) (hz : u'.length + x.length ≤ 1000000)
    (hK : ∀ v1 W1, LW w0 b u v1 (u' ++ x) W1 → wpList Tryd.prog ops Q rest (ac.put o.dst v1) W1) : wpList Tryd.prog ops Q (o :: rest) ac W := by
  obtain ⟨⟨vl, h1, h3, h4, h5⟩, h2⟩ := h
  have hx' := hx
  rw [B_length, ← hn] at hx'
  obtain ⟨v1, w1, hr, hq, hg, hat⟩ := append_q (P := Tryd.prog) w0.heap.size 24 o.type 5 .u8 1 Tryd.underlying24 infoU8 (by decide) v (B u') (B x) A n c h3 hx' h2.size (by rw [B_length, hn]; omega)
  refine wpList_plain hgd fun K hK' => ?_
  unfold Oper.wp execOp
  simp only [ho, resolve, invoke, builtin, Sem.run_bind, Sem.run_pure, Result.andThen_ok, List.map_toArray, List.map_cons, List.map_nil, hs, hy, hr]
  refine hK' _ _ (hK v1 w1 ⟨⟨vl, ?_, by rw [← B_append]; exact hq, ?_, ?_⟩, h2.grown hg h2.size (fun k hk => (q_typed h3 k hk).1)⟩)
  · exact h1.keep (fun k => some k = v.ownBlock) (fun k hk hs => hg.block k hk hs) (fun e => h4 e.symm) (fun g hg' e => h5 g hg' e.symm)
  · rcases hat with e | ⟨g', e, hg'⟩
    · rw [e]; exact h4
    · rw [e]; intro e2; cases e2; have := (Array.getElem?_eq_some_iff.1 h1.at_).1; omega
  · intro g hg' e2
    rcases hat with e | ⟨g', e, hg''⟩
    · rw [e] at e2; exact h5 g hg' e2
    · rw [e] at e2; cases e2; have := own_lt h1.own g hg'; omega
end Go.Proofs.YthdjeikfbbdehaaDoor.LineFns
