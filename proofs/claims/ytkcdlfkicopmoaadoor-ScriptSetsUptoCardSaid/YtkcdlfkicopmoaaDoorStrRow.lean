/- A list of strings that a call owns: what is appended to it, and joined. -/
import Derived.Test.YtkcdlfkicopmoaaDoorStrList
import Derived.Test.YtkcdlfkicopmoaaDoorShelf
import Derived.Maps.OwnSet
namespace Go.Proofs.YtkcdlfkicopmoaaDoor.Fs
open Go.RowKit Go.Proofs.YtkcdlfkicopmoaaDoor Go.Proofs.YtkcdlfkicopmoaaDoor.Plain Go.Proofs.YtkcdlfkicopmoaaDoorW.PrintWords Go.Maps
set_option linter.unusedVariables false
set_option linter.unusedSimpArgs false
theorem infoStr : (Tryd.prog.info? 9).map (fun i => (i.zero, i.size, i.bytes)) = some (some (.string ByteArray.empty), 1, 16) := by kernel_rfl
def strs (l : List Nm) : List Value := l.map fun s => .string (S s)
theorem strs_length (l : List Nm) : (strs l).length = l.length := by simp [strs]
theorem strs_append (l r : List Nm) : strs (l ++ r) = strs l ++ strs r := by simp [strs]
/-- v is a list of strings, in a block that is not older than w0 -/
structure SRow (w0 : World) (v : Value) (l : List Nm) (W : World) : Prop where
  row : W.ownsRow w0.heap.size 9 1 v l.length (strs l)
  below : Below w0.heap.size w0 W
theorem SRow.step {w0 W X : World} {v : Value} {l : List Nm} (h : SRow w0 v l W) (hb : Below W.heap.size W X) : SRow w0 v l X :=
  ⟨own_move h.row (fun k hk => hb.block k (h.row.lt k hk).2), h.below.trans (hb.mono h.below.size)⟩
theorem SRow.nil {w0 W : World} (hb : Below w0.heap.size w0 W) : SRow w0 (.slice none 0 0) [] W := ⟨World.ownsRow_nil _ _ _ _, hb⟩
theorem SRow.lit {w0 W : World} (hb : Below w0.heap.size w0 W) (l : List Nm) (n : Nat) (hn : n = l.length) (hm : n ≤ 1000000) (cs : Array Value) (hcs : cs = (strs l).toArray) : SRow w0 (.slice (some ⟨W.heap.size, 0, none⟩) n n) l (W.alloc (.cells cs 9)) := by
  subst hn hcs
  refine ⟨?_, below_alloc hb _⟩
  have := World.ownsRow_lit (base := w0.heap.size) (e := 9) (size := 1) W (strs l).toArray l.length hb.size (by simp only [maxLen]; omega) (by simp [strs])
  simpa using this
theorem SRow.slice {w0 W : World} {v : Value} {l : List Nm} (h : SRow w0 v l W) : ∃ A c, v = .slice A l.length c := own_slice h.row
theorem SRow.cell {w0 W : World} {A : Option Addr} {n c : Nat} {l : List Nm} (h : SRow w0 (.slice A n c) l W) (j : Nat) (hj : j < l.length) : ∃ g, A = some ⟨g, 0, none⟩ ∧ W.cell? ⟨g, j, none⟩ = some (.string (S l[j])) ∧ g < W.heap.size := by
  rcases h.row.2 with ⟨_, h0⟩ | ⟨g, cap, cur, e, _, hg, _, _, hs, ht⟩
  · omega
  · injection e with e1 _ _
    refine ⟨g, e1, ?_, (Array.getElem?_eq_some_iff.1 hg).1⟩
    rw [cell_of_row W g j cur 9 (0, 0) hg]
    have h4 : (cur.toList.take (l.length * 1))[j]? = (strs l)[j]? := by rw [ht]
    rw [List.getElem?_take_of_lt (by omega)] at h4
    simpa [strs, hj] using h4
theorem SRow.at_ {w0 W : World} {A : Option Addr} {n c : Nat} {l : List Nm} (h : SRow w0 (.slice A n c) l W) (hl : ∀ s ∈ l, s.length ≤ 140737488351232) : NamesAt W A l := by
  intro j hj
  obtain ⟨g, e, hc, _⟩ := h.cell j hj
  refine ⟨_, e, ?_, hl _ (List.getElem_mem _)⟩
  have h5 : (⟨g, 0, none⟩ : Addr).add j = ⟨g, j, none⟩ := by unfold Addr.add; split <;> simp_all
  rw [h5]
  exact hc
/-- 'append(l, s)' -/
theorem appendS {w0 X : World} {v : Value} {l : List Nm} (h : SRow w0 v l X) (s : Nm) (hn : l.length ≤ 8796093022207) {ops : Array Oper} {rest : List Oper} {o : Oper} {a : Act} {Q : Exit → Act → World → Prop} (hgd : o.guard = none) (x y : Operand)
    (ho : o.op = .call { callee := .builtin .append, args := #[x, y], argTypes := #[30, 30] }) (hx : a.eval x = v) (ad : Addr) (c : Nat) (hy : a.eval y = .slice (some ad) 1 c)
    (hc : ∀ j u, [Value.string (S s)][j]? = some u → X.cell? (ad.add j) = some u)
    (hK : ∀ v1 w1, SRow w0 v1 (l ++ [s]) w1 → wpList Tryd.prog ops Q rest (a.put o.dst v1) w1) : wpList Tryd.prog ops Q (o :: rest) a X := by
  obtain ⟨i0, hi, hzz⟩ := Option.map_eq_some_iff.1 infoStr
  simp only [Prod.mk.injEq] at hzz
  obtain ⟨hz0, hz1, hz2⟩ := hzz
  refine wpList_append_own_at (P := Tryd.prog) _ hgd x y 30 ho w0.heap.size 9 i0 (.string ByteArray.empty) 1 16 Tryd.underlying30 hi hz0 hz1 hz2 rfl (by decide) v l.length (strs l) hx h.row ad 1 c [.string (S s)] hy rfl hc (by intro u hu; simp only [List.mem_singleton] at hu; subst hu; rfl) (by simp only [maxLen]; omega) (by omega) h.below.size ?_
  intro v1 w1 h1 h2 _ _
  refine hK v1 w1 ⟨?_, h.below.grown h2 h.below.size (fun k hk => ?_)⟩
  · rw [List.length_append, strs_append]
    exact h1
  · rcases h.row.2 with ⟨rfl, _⟩ | ⟨g, cap, cur, rfl, hg, _⟩
    · cases hk
    · cases hk; exact hg
theorem joinIs {w0 W : World} {v : Value} {l : List Nm} (h : SRow w0 v l W) (sep : Nm) (hn : l.length ≤ 8796093022208) (hlen : (Lib.join l sep).length ≤ 140737488355328) (sp : ByteArray) (hsp : sp = S sep) :
    Calls Tryd.prog 43 #[v, .string sp] W fun e W' => e = .returned (.string (S (Lib.join l sep))) ∧ Below W.heap.size W W' := by
  subst hsp
  rcases h.row.2 with ⟨rfl, h0⟩ | ⟨g, cap, cur, rfl, hg0, hg, hcap, _, hs, ht⟩
  · obtain rfl : l = [] := List.eq_nil_of_length_eq_zero h0
    refine (Tryd.strings_Join_none none 0 (S sep) W).mono ?_
    rintro e W' ⟨rfl, rfl⟩
    exact ⟨rfl, Below.refl _ _⟩
  · have hm : (l.map S).map (·.data.toList) = l := by
      rw [List.map_map]
      conv => rhs; rw [← List.map_id l]
      exact List.map_congr_left (fun x _ => rfl)
    have key := Tryd.strings_Join g 0 cap (l.map S) (S sep) W (fun j x hj => by
      rw [List.getElem?_map] at hj
      obtain ⟨s, hs2, rfl⟩ := Option.map_eq_some_iff.1 hj
      obtain ⟨hjl, rfl⟩ := List.getElem?_eq_some_iff.1 hs2
      obtain ⟨g', e, hc, _⟩ := h.cell j hjl
      injection e with e
      injection e with e _ _
      subst e
      rw [Nat.zero_add]
      exact hc) (Array.getElem?_eq_some_iff.1 hg).1 (by rw [List.length_map]; omega) (by rw [List.length_map]; exact hcap) (by rw [hm]; exact hlen)
    rw [List.length_map, hm] at key
    exact key
end Go.Proofs.YtkcdlfkicopmoaaDoor.Fs
