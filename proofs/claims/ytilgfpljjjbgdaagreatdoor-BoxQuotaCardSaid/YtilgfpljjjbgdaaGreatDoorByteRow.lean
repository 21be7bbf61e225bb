/- Bytes that a call owns: what is appended to them, in a region that draws its order or elsewhere; their string. -/
import Derived.Test.YtilgfpljjjbgdaaGreatDoorStrList
import Derived.Maps.OwnSet
import Derived.Maps.AppendAt
namespace Go.Proofs.YtilgfpljjjbgdaaGreatDoor.Fs
open Go.RowKit Go.Proofs.YtilgfpljjjbgdaaGreatDoor Go.Proofs.YtilgfpljjjbgdaaGreatDoor.Plain Go.Proofs.YtilgfpljjjbgdaaGreatDoorW.PrintWords Go.Maps
set_option linter.unusedVariables false
set_option linter.unusedSimpArgs false
theorem infoByte : (Tryz.prog.info? 5).map (fun i => (i.zero, i.size, i.bytes)) = some (some (.int .u8 0), 1, 1) := by kernel_rfl
def byts (l : List UInt8) : List Value := l.map fun b => .int .u8 (b.toNat : Int)
theorem byts_length (l : List UInt8) : (byts l).length = l.length := by simp [byts]
theorem byts_append (l r : List UInt8) : byts (l ++ r) = byts l ++ byts r := by simp [byts]
/-- v holds bytes, in a block that is not older than w0 -/
structure BRow (w0 : World) (v : Value) (l : List UInt8) (W : World) : Prop where
  row : W.ownsRow w0.heap.size 5 1 v l.length (byts l)
  below : Below w0.heap.size w0 W
theorem BRow.step {w0 W X : World} {v : Value} {l : List UInt8} (h : BRow w0 v l W) (hb : Below W.heap.size W X) : BRow w0 v l X :=
  ⟨own_move h.row (fun k hk => hb.block k (h.row.lt k hk).2), h.below.trans (hb.mono h.below.size)⟩
theorem BRow.nil {w0 W : World} (hb : Below w0.heap.size w0 W) : BRow w0 (.slice none 0 0) [] W := ⟨World.ownsRow_nil _ _ _ _, hb⟩
theorem BRow.run {w0 X : World} {v : Value} {l : List UInt8} (h : BRow w0 v l X) (ty : TypeId) (u : List UInt8) (hn : l.length + u.length ≤ 140737488355328) (ad : Addr) (c : Nat) (hc : ∀ j x, (byts u)[j]? = some x → X.cell? (ad.add j) = some x) :
    ∃ v1 w1, (Builtin.append_ #[27, 27] ty #[v, .slice (some ad) u.length c]).run Tryz.prog X = .ok v1 w1 ∧ BRow w0 v1 (l ++ u) w1 := by
  obtain ⟨i0, hi, hzz⟩ := Option.map_eq_some_iff.1 infoByte
  simp only [Prod.mk.injEq] at hzz
  obtain ⟨hz0, hz1, hz2⟩ := hzz
  obtain ⟨v', w', h1, h2, h3, -⟩ := run_append_own_at (P := Tryz.prog) (w := X) w0.heap.size 27 ty 5 i0 (.int .u8 0) 1 1 Tryz.underlying27 hi hz0 hz1 hz2 rfl (by decide) v l.length (byts l) h.row ad u.length c (byts u) (by rw [byts_length]; omega) hc (by intro x hx; simp only [byts, List.mem_map] at hx; obtain ⟨_, _, rfl⟩ := hx; rfl) (by simp only [maxLen]; omega) (by omega) h.below.size
  refine ⟨v', w', h1, ?_, h.below.grown h3 h.below.size (fun k hk => ?_)⟩
  · rw [List.length_append, byts_append]
    exact h2
  · rcases h.row.2 with ⟨rfl, _⟩ | ⟨g, cap, cur, rfl, hg, _⟩
    · cases hk
    · cases hk; exact hg
/-- 'append(l, u...)' -/
theorem appendB {w0 X : World} {v : Value} {l : List UInt8} (h : BRow w0 v l X) (u : List UInt8) (hn : l.length + u.length ≤ 140737488355328) {ops : Array Oper} {rest : List Oper} {o : Oper} {a : Act} {Q : Exit → Act → World → Prop} (hgd : o.guard = none) (x y : Operand)
    (ho : o.op = .call { callee := .builtin .append, args := #[x, y], argTypes := #[27, 27] }) (hx : a.eval x = v) (ad : Addr) (n c : Nat) (hy : a.eval y = .slice (some ad) n c) (hnu : n = u.length)
    (hc : ∀ j z, (byts u)[j]? = some z → X.cell? (ad.add j) = some z)
    (hK : ∀ v1 w1, BRow w0 v1 (l ++ u) w1 → wpList Tryz.prog ops Q rest (a.put o.dst v1) w1) : wpList Tryz.prog ops Q (o :: rest) a X := by
  subst hnu
  obtain ⟨v1, w1, hrun, h1⟩ := h.run o.type u hn ad c hc
  refine wpList_plain hgd fun K hK' => ?_
  unfold Oper.wp execOp
  simp only [ho, resolve, invoke, builtin, Sem.run_bind, Sem.run_pure, Result.andThen_ok, List.map_toArray, List.map_cons, List.map_nil, hx, hy, hrun]
  exact hK' _ _ (hK v1 w1 h1)
/-- the same, as one step of a region that draws its order -/
theorem step_appendB {ops : Array Oper} {o : Oper} {a : Act} {X : World} {K : Act → World → Prop} {Q : Exit → Act → World → Prop} {E : Prop} {w0 : World} {v : Value} {l : List UInt8} (h : BRow w0 v l X) (u : List UInt8) (hn : l.length + u.length ≤ 140737488355328)
    (hw : Region.wanted o (yielded ops a.tmps) = true) (x y : Operand) (ho : o.op = .call { callee := .builtin .append, args := #[x, y], argTypes := #[27, 27] }) (hx : a.eval x = v) (ad : Addr) (n c : Nat) (hy : a.eval y = .slice (some ad) n c) (hnu : n = u.length)
    (hc : ∀ j z, (byts u)[j]? = some z → X.cell? (ad.add j) = some z)
    (hK : ∀ v1 w1, BRow w0 v1 (l ++ u) w1 → K (a.put o.dst v1) w1) :
    if Region.wanted o (yielded ops a.tmps) = true then Oper.wp Tryz.prog o a X K Q else E := by
  subst hnu
  rw [if_pos hw]
  obtain ⟨v1, w1, hrun, h1⟩ := h.run o.type u hn ad c hc
  unfold Oper.wp execOp
  simp only [ho, resolve, invoke, builtin, Sem.run_bind, Sem.run_pure, Result.andThen_ok, List.map_toArray, List.map_cons, List.map_nil, hx, hy, hrun]
  exact hK v1 w1 h1
theorem BRow.slice {w0 W : World} {v : Value} {l : List UInt8} (h : BRow w0 v l W) : ∃ A c, v = .slice A l.length c := own_slice h.row
theorem B_getD (l : List UInt8) (j : Nat) (hj : j < l.length) : (B l).getD j 0 = (l[j].toNat : Int) := by simp [B, List.getD, hj]
theorem BRow.reads {w0 W : World} {A : Option Addr} {n c : Nat} {l : List UInt8} (h : BRow w0 (.slice A n c) l W) (hl : l.length ≤ 9223372036854775807) : ReadsInt W .u8 A (B l).length (B l) ∧ n = l.length := by
  obtain ⟨A', c', e⟩ := own_slice h.row
  injection e with e1 e2 e3
  refine ⟨⟨rfl, by rw [B_length]; exact hl, fun h0 => ?_⟩, e2⟩
  rw [B_length] at h0
  rcases h.row.2 with ⟨_, h00⟩ | ⟨g, cap, cur, e, _, hg, _, _, hs, ht⟩
  · omega
  · injection e with e1 _ _
    refine ⟨_, e1, fun j hj => ?_⟩
    rw [B_length] at hj
    have h5 : (⟨g, 0, none⟩ : Addr).add j = ⟨g, j, none⟩ := by unfold Addr.add; split <;> simp_all
    rw [h5, cell_of_row W g j cur 5 (0, 0) hg, B_getD l j hj]
    have h4 : (cur.toList.take (l.length * 1))[j]? = (byts l)[j]? := by rw [ht]
    rw [List.getElem?_take_of_lt (by omega)] at h4
    simpa [byts, hj] using h4
theorem convB {w : World} {AA : Option Addr} {a : List UInt8} {n c : Nat} (h : ReadsInt w .u8 AA (B a).length (B a)) (hn : n = a.length) : (convert 27 9 (.slice AA n c)).run Tryz.prog w = .ok (.string (S a)) w := by
  subst hn
  have hC : Kd.C (Kd.int .u8) w AA (B a).length (B a) := Kd.C_of_reads (d := (0 : Int)) (h1 := fun _ => rfl) h
  have := Kd.C_string (P := Tryz.prog) (c := c) Tryz.underlying27 Tryz.underlying5 Tryz.underlying9 hC
  rw [B_length, strOfNums_B] at this
  exact this
theorem chain' {W W1 W2 : World} (h : Below W.heap.size W W1) (h' : Below W1.heap.size W1 W2) : Below W.heap.size W W2 := h.trans (h'.mono h.size)
end Go.Proofs.YtilgfpljjjbgdaaGreatDoor.Fs
