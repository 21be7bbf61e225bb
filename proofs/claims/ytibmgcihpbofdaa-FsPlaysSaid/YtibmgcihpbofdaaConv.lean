/- '[]byte(s)': a new row of bytes that is only read ('V'). -/
import Derived.Test.YtibmgcihpbofdaaWMore
import Derived.Lib.ConvBytes
import Derived.Lib.SlBytesConst
namespace Go.Proofs.Ytibmgcihpbofdaa.Conv
open Go.RowKit Go.Proofs.YtibmgcihpbofdaaW.PrintWords Go.Proofs.YtibmgcihpbofdaaW.PrintLast Go.Proofs.YtibmgcihpbofdaaW.PrintMore
set_option linter.unusedVariables false
set_option linter.unusedSimpArgs false

theorem C_of_block {W : World} {b : Nat} {C : Array Value} {e : TypeId} {fr : Nat × Nat} (hh : W.heap[b]? = some (.cells C e fr)) (xs : List Int) (hC : ∀ (j : Nat) (p : Int), xs[j]? = some p → C[j]? = some (Value.int .u8 p)) (hl : xs.length ≤ 9223372036854775807) :
    Kd.C (Kd.int .u8) W (some ⟨b, 0, none⟩) xs.length xs := by
  refine ⟨rfl, hl, fun _ => ⟨⟨b, 0, none⟩, rfl, fun j p hj => ⟨[.int .u8 p], rfl, rfl, fun i u hu => ?_⟩⟩⟩
  have hi : i = 0 := by
    have := (List.getElem?_eq_some_iff.1 hu).1
    simp at this
    omega
  subst hi
  have hu' : Value.int .u8 p = u := by simpa using hu
  subst hu'
  have hs : (Kd.int .u8).sz = 1 := rfl
  rw [hs, Nat.mul_one, Nat.add_zero]
  have e1 : (⟨b, 0, none⟩ : Addr).add j = ⟨b, j, none⟩ := by cases j <;> simp [Addr.add]
  rw [e1]
  simp [World.cell?, hh, hC j p hj]

theorem V_of_block {W : World} {b : Nat} {C : Array Value} {e e' : TypeId} {fr : Nat × Nat} {base : Nat} {ok : Nat → Prop} {c : Nat} (hh : W.heap[b]? = some (.cells C e fr)) (hok : ok b) (xs : List Int) (hC : ∀ (j : Nat) (p : Int), xs[j]? = some p → C[j]? = some (Value.int .u8 p)) (hl : xs.length ≤ 9223372036854775807) (hc : xs.length ≤ c) :
    Kd.V (Kd.int .u8) e' W base ok (.slice (some ⟨b, 0, none⟩) xs.length c) xs :=
  Kd.V_mk hc (fun W' hW => C_of_block ((hW b hok (Array.getElem?_eq_some_iff.1 hh).1).trans hh) xs hC hl)

theorem bytesOf_get (s : ByteArray) (j : Nat) (p : Int) (h : (bytesOf s)[j]? = some p) : ∃ x : UInt8, s.data[j]? = some x ∧ p = x.toNat := by
  unfold bytesOf at h
  rw [List.getElem?_map] at h
  cases hx : s.data.toList[j]? with
  | none => rw [hx] at h; cases h
  | some x =>
    rw [hx] at h
    refine ⟨x, ?_, ?_⟩
    · rw [Array.getElem?_toList] at hx
      exact hx
    · simpa using h.symm
theorem bytesOf_length (s : ByteArray) : (bytesOf s).length = s.size := by unfold bytesOf; rw [List.length_map, Array.length_toList]; rfl

variable {P : Program} {ops : Array Oper} {rest : List Oper} {o o2 : Oper} {a : Act} {Q : Exit → Act → World → Prop} {W : World}

/-- '[]byte(s)' of a string that is no constant. -/
theorem conv {N : Tmp} (_hd : o.dst = some N) (hgd : o.guard = none) {src dst e : TypeId} {x : Operand} (hop : o.op = .convert src dst x) (s : ByteArray) (hx : a.eval x = .string s)
    (hs : P.underlying src = some .string) (hd2 : P.underlying dst = some (.slice e)) (he : P.underlying e = some (.int .u8)) (hm : s.size ≤ 9223372036854775807)
    (h : ∀ v1 w1, Kd.V (Kd.int .u8) e w1 W.heap.size (fun k => W.heap.size ≤ k) v1 (bytesOf s) → Below W.heap.size W w1 → True → True → wpList P ops Q rest (a.put o.dst v1) w1) : wpList P ops Q (o :: rest) a W := by
  have hrun : (execOp a.eval o).run P W = .ok (.value (.slice (some ⟨W.heap.size, 0, none⟩) s.size (grownCap W s.size 0 e))) (Lib.bytesWorld W e s) := by
    unfold execOp
    simp only [hop, hx]
    have := Lib.run_convert_string_bytes W src dst e s hs hd2 he
    simp [this, Result.andThen]
  refine Kd.event_run hgd hrun (h _ _ ?_ ?_ trivial trivial)
  · have := V_of_block (e' := e) (base := W.heap.size) (ok := fun k => W.heap.size ≤ k) (c := grownCap W s.size 0 e) (Lib.bytesWorld_at_new W e s) (Nat.le_refl _) (bytesOf s) (fun j p hj => by
      obtain ⟨x, hx, rfl⟩ := bytesOf_get s j p hj
      have hj' := (Array.getElem?_eq_some_iff.1 hx).1
      rw [Lib.bytesCells, Array.getElem?_append_left (by simpa using hj')]
      simp [hx]) (by rw [bytesOf_length]; exact hm) (by rw [bytesOf_length]; exact grownCap_ge _ _ _ _)
    rw [bytesOf_length] at this
    exact this
  · exact ⟨rfl, rfl, rfl, by rw [Lib.bytesWorld_size]; omega, fun k hk => Lib.bytesWorld_at_old W e s k hk⟩

/-- '[]byte("..")' of a constant: a literal, and its mark. -/
theorem litconv {N N2 : Tmp} (_hd : o.dst = some N) (_hd2 : o2.dst = some N2) (hgd : o.guard = none) (hgd2 : o2.guard = none) (e : Nat) {T : TypeId} (hop : o2.op = .convert T T (.tmp N)) {xs : List Int} {inner : List Value}
    (hT : P.underlying T = some (.slice e)) (he : P.underlying e = some (.int .u8))
    (hrun : (execOp a.eval o).run P W = .ok (.value (.slice (some ⟨W.heap.size, 0, none⟩) xs.length xs.length)) (W.alloc (.cells inner.toArray e)))
    (hin : inner = nums .u8 xs) (hev : (a.put o.dst (.slice (some ⟨W.heap.size, 0, none⟩) xs.length xs.length)).eval (.tmp N) = .slice (some ⟨W.heap.size, 0, none⟩) xs.length xs.length) (hm : xs.length ≤ 9223372036854775807)
    (h : ∀ v1 w1, Kd.V (Kd.int .u8) e w1 W.heap.size (fun k => W.heap.size ≤ k) v1 xs → Below W.heap.size W w1 → True → True → wpList P ops Q rest ((a.put o.dst v1).put o2.dst v1) w1) : wpList P ops Q (o :: o2 :: rest) a W := by
  refine Kd.event_run hgd hrun ?_
  have hrun2 : (execOp (a.put o.dst (.slice (some ⟨W.heap.size, 0, none⟩) xs.length xs.length)).eval o2).run P (W.alloc (.cells inner.toArray e)) = .ok (.value (.slice (some ⟨W.heap.size, 0, none⟩) xs.length xs.length)) (W.alloc (.cells inner.toArray e (inner.toArray.size, inner.toArray.size + 1))) := by
    unfold execOp
    simp only [hop, hev]
    have := Lib.run_convert_bytes_const W T e inner.toArray xs.length xs.length hT he
    simp only [Sem.run_bind, this, Result.andThen]
    rfl
  refine Kd.event_run hgd2 hrun2 (h _ _ ?_ ((Below.refl _ W).alloc (Nat.le_refl _) _) trivial trivial)
  refine V_of_block (C := inner.toArray) (e := e) (fr := (inner.toArray.size, inner.toArray.size + 1)) ?_ (Nat.le_refl _) xs (fun j p hj => ?_) hm (Nat.le_refl _)
  · show (W.heap.push _)[W.heap.size]? = _
    simp
  · subst hin
    simp [nums, hj]
end Go.Proofs.Ytibmgcihpbofdaa.Conv
