/- append of bytes to a slice that the call owns, as one step of a region that draws its order, under a guard or not. -/
import Derived.Test.YtibmgcihpbofdaaFsDo
import Derived.Maps.AppendAt
namespace Go.Proofs.Ytibmgcihpbofdaa.Fs
open Go.RowKit Go.Proofs.Ytibmgcihpbofdaa Go.Proofs.Ytibmgcihpbofdaa.Plain Go.Proofs.YtibmgcihpbofdaaW.PrintWords Go.Maps
set_option linter.unusedVariables false
set_option linter.unusedSimpArgs false
theorem B_append (u v : List UInt8) : B (u ++ v) = B u ++ B v := by simp [B]
theorem nums_append (k : IntKind) (x y : List Int) : nums k (x ++ y) = nums k x ++ nums k y := by simp [nums]
theorem appRun {w : World} {base : Nat} (ty : TypeId) {v : Value} {xs : List UInt8} (hown : w.ownsRow base 5 1 v (B xs).length (nums .u8 (B xs))) (hbase : base ≤ w.heap.size) {A : Option Addr} (c : Nat) {u : List UInt8} (hr : ReadsInt w .u8 A (B u).length (B u)) (hl : xs.length + u.length ≤ 1000000) :
    ∃ v' w', (Builtin.append_ #[22, 22] ty #[v, .slice A u.length c]).run Try.prog w = .ok v' w' ∧ w'.ownsRow base 5 1 v' (B (xs ++ u)).length (nums .u8 (B (xs ++ u))) ∧ w.grownBy w' v.ownBlock := by
  obtain ⟨i0, hi, hzz⟩ := Option.map_eq_some_iff.1 infoU8
  simp only [Prod.mk.injEq] at hzz
  obtain ⟨hz0, hz1, hz2⟩ := hzz
  cases A with
  | some ad =>
    obtain ⟨v', w', h1, h2, h3, -⟩ := run_append_own_at (P := Try.prog) (w := w) base 22 ty 5 i0 (.int .u8 0) 1 1 Try.underlying22 hi hz0 hz1 hz2 rfl (by decide) v (B xs).length (nums .u8 (B xs)) hown ad u.length c (nums .u8 (B u)) (by simp [nums, B]) (numsCells hr) nums_one (by rw [B_length]; simp only [maxLen]; omega) (by rw [B_length]; omega) hbase
    refine ⟨v', w', h1, ?_, h3⟩
    rw [B_append, nums_append, List.length_append]
    rw [B_length u]
    exact h2
  | none =>
    have h0 : u = [] := by
      by_cases h : 0 < (B u).length
      · obtain ⟨ad, e, _⟩ := hr.2.2 h
        cases e
      · rw [B_length] at h
        exact List.eq_nil_of_length_eq_zero (by omega)
    subst h0
    refine ⟨v, w, ?_, by rw [List.append_nil]; exact hown, ⟨rfl, rfl, rfl, Nat.le_refl _, fun _ _ _ => rfl⟩⟩
    rcases hown.2 with ⟨rfl, h0⟩ | ⟨g, cap, cur, rfl, _, _, hcap, _⟩
    · simp [Builtin.append_, run_underlying Try.underlying22, sizeOf, typeInfo, hi, Builtin.lenOf, Builtin.firstCells, storeCells]
    · rw [B_length] at hcap ⊢
      simp [Builtin.append_, run_underlying Try.underlying22, sizeOf, typeInfo, hi, Builtin.lenOf, hcap, Builtin.firstCells, storeCells, Nat.not_lt.2 hcap]
theorem step_append_bytes {ops : Array Oper} {o : Oper} {a : Act} {w : World} {K : Act → World → Prop} {Q : Exit → Act → World → Prop} {E : Prop}
    (hw : Region.wanted o (yielded ops a.tmps) = true) (s x : Operand) (hop : o.op = Op.call { callee := Callee.builtin Builtin.append, args := #[s, x], argTypes := #[22, 22] })
    (base : Nat) (v : Value) (xs : List UInt8) (hs : a.eval s = v) (hown : w.ownsRow base 5 1 v (B xs).length (nums .u8 (B xs))) (hbase : base ≤ w.heap.size)
    (A : Option Addr) (c : Nat) (u : List UInt8) (hx : a.eval x = .slice A u.length c) (hr : ReadsInt w .u8 A (B u).length (B u)) (hl : xs.length + u.length ≤ 1000000)
    (hK : ∀ v' w', w'.ownsRow base 5 1 v' (B (xs ++ u)).length (nums .u8 (B (xs ++ u))) → w.grownBy w' v.ownBlock → K (a.put o.dst v') w') :
    if Region.wanted o (yielded ops a.tmps) = true then Oper.wp Try.prog o a w K Q else E := by
  rw [if_pos hw]
  obtain ⟨v', w', hrun, h2, h3⟩ := appRun o.type hown hbase c hr hl
  unfold Oper.wp execOp
  simp only [hop, resolve, invoke, builtin, Sem.run_bind, Sem.run_pure, Result.andThen_ok, List.map_toArray, List.map_cons, List.map_nil, hs, hx, hrun]
  exact hK v' w' h2 h3
theorem step_convert {P : Program} {ops : Array Oper} {o : Oper} {a : Act} {w : World} {K : Act → World → Prop} {Q : Exit → Act → World → Prop} {E : Prop}
    (hw : Region.wanted o (yielded ops a.tmps) = true) (t1 t2 : TypeId) (x : Operand) (hop : o.op = Op.convert t1 t2 x) (v v' : Value) (hx : a.eval x = v) (hrun : (convert t1 t2 v).run P w = .ok v' w) (hK : K (a.put o.dst v') w) :
    if Region.wanted o (yielded ops a.tmps) = true then Oper.wp P o a w K Q else E := by
  rw [if_pos hw]
  unfold Oper.wp execOp
  simp [hop, hx, hrun, Result.andThen]
  exact hK
/-- a fresh slice of no bytes -/
theorem madeNone {w : World} {base : Nat} (hb : base ≤ w.heap.size) (cs : Array Value) (hc : cs = #[]) : (w.alloc (.cells cs 5)).ownsRow base 5 1 (.slice (some ⟨w.heap.size, 0, none⟩) 0 0) (B []).length (nums .u8 (B [])) := by
  subst hc
  exact World.ownsRow_made w #[] 0 hb (by simp [maxLen]) rfl
theorem sureGrown {W X w' : World} {cs : Array Value} {c1 c2 : Nat} (h : Below W.heap.size W X) (hg : (X.alloc (.cells cs 5)).grownBy w' (Value.slice (some ⟨X.heap.size, 0, none⟩) c1 c2).ownBlock) : Below W.heap.size W w' ∧ X.heap.size ≤ w'.heap.size :=
  ⟨(below_alloc h _).grown hg (below_alloc h _).size (fun k hk => by cases hk; exact h.size), Nat.le_trans (by simp) hg.size⟩
theorem sureGrown2 {W X w' w'' : World} {v : Value} {n : Nat} {xs : List Value} (h : Below W.heap.size W X) (h' : Below W.heap.size W w') (ho : w'.ownsRow X.heap.size 5 1 v n xs) (hg : w'.grownBy w'' v.ownBlock) : Below W.heap.size W w'' :=
  h'.grown hg h'.size (fun k hk => Nat.le_trans h.size (ho.lt k hk).1)
theorem sureConv0 {W X : World} {base : Nat} {v : Value} {r : List UInt8} (h : W.ownsRow base 5 1 v (B r).length (nums .u8 (B r))) (hb : Below W.heap.size W X) : (convert 22 9 v).run Try.prog X = .ok (.string (S r)) X := by
  obtain ⟨A, c, rfl⟩ := own_slice h
  have h' := (own_reads' h).below hb
  exact convAny h' (B_length r)
theorem reads_take {X : World} {A : Option Addr} {u : List UInt8} {k : Nat} (h : ReadsInt X .u8 A (B u).length (B u)) (hk : k ≤ u.length) : ReadsInt X .u8 A (B (u.take k)).length (B (u.take k)) := by
  have e : (B (u.take k)).length = k := by rw [B_length, List.length_take]; omega
  rw [e]
  refine ⟨e, by have := h.2.1; rw [B_length] at this; omega, fun h0 => ?_⟩
  obtain ⟨ad, ea, hc⟩ := h.2.2 (by rw [B_length]; omega)
  refine ⟨ad, ea, fun j hj => ?_⟩
  rw [hc j (by rw [B_length]; omega)]
  congr 2
  simp only [B, List.getD_eq_getElem?_getD, List.getElem?_map]
  rw [List.getElem?_take_of_lt hj]
theorem sureConv {X : World} {base n c k : Nat} {A : Option Addr} {u r : List UInt8} (h : X.ownsRow base 5 1 (.slice A n c) n (nums .u8 (B u))) (hn : n = (B u).length) (hk : k ≤ u.length) (hr : u.take k = r) : (convert 22 9 (.slice A k c)).run Try.prog X = .ok (.string (S r)) X ∧ (0 : Int) ≤ (k : Int) ∧ (k : Int) ≤ (c : Int) := by
  subst hn hr
  have hc := own_cap h
  rw [B_length] at hc
  exact ⟨convAny (reads_take (own_reads' h) hk) (by rw [List.length_take]; omega), by omega, by omega⟩
end Go.Proofs.Ytibmgcihpbofdaa.Fs
