/- line.Lines: a new one, bytes of a string; what the laws ask of a program that does something ('answers'). -/
import Derived.Test.YthdjeikfbbdehaaDoorLineFns
import Derived.Lib.ConvBytes
import Derived.Lib.SlBytesConst
namespace Go.Proofs.YthdjeikfbbdehaaDoor.LineFns
open Go.RowKit Go.Proofs.YthdjeikfbbdehaaDoor Go.Proofs.YthdjeikfbbdehaaDoor.Plain Go.Proofs.YthdjeikfbbdehaaDoorW.PrintWords
set_option linter.unusedVariables false
set_option linter.unusedSimpArgs false
theorem Lin.new (w : World) (base : Nat) (hb : base ≤ w.heap.size) : Lin (w.alloc (.cells #[.slice none 0 0] 26)) base w.heap.size (.slice none 0 0) [] :=
  ⟨hb, heap_alloc_new w _, own_nil _ _ _ _, by simp [Value.ownBlock]⟩
theorem Lin.below {w X : World} {base b : Nat} {v : Value} {u : List UInt8} (h : Lin w base b v u) (hb : Below w.heap.size w X) : Lin X base b v u := by
  refine ⟨h.le, (hb.block b (Array.getElem?_eq_some_iff.1 h.at_).1).trans h.at_, own_move h.own (fun k hk => hb.block k (own_lt h.own k hk)), h.ne⟩
theorem bytesBelow (w : World) (s : ByteArray) : Below w.heap.size w (Lib.bytesWorld w 5 s) :=
  ⟨rfl, rfl, rfl, by rw [Lib.bytesWorld_size]; omega, fun k hk => Lib.bytesWorld_at_old w _ s k hk⟩
theorem bytesReads (w : World) (u : List UInt8) (hz : u.length ≤ 1000000) : ReadsInt (Lib.bytesWorld w 5 (S u)) .u8 (some ⟨w.heap.size, 0, none⟩) (B u).length (B u) := by
  refine ⟨rfl, by rw [B_length]; omega, fun _ => ⟨_, rfl, fun j hj => ?_⟩⟩
  rw [B_length] at hj
  rw [add_plain, Lib.bytesWorld_cell w _ (S u) j (by simpa using hj), S_data]
  congr 2
  simp [B, List.getD, hj]
theorem convBytes (w : World) (u : List UInt8) : (convert 9 24 (.string (S u))).run Tryd.prog w = .ok (.slice (some ⟨w.heap.size, 0, none⟩) u.length (grownCap w u.length 0 5)) (Lib.bytesWorld w 5 (S u)) := by
  have := Lib.run_convert_string_bytes (P := Tryd.prog) w 9 24 5 (S u) Tryd.underlying9 Tryd.underlying24 Tryd.underlying5
  rw [S_size] at this
  exact this
theorem feed' (base b : Nat) (v : Value) (u x : List UInt8) (A : Option Addr) (n c : Nat) (w : World) (hn : n = x.length) (hL : Lin w base b v u) (hx : ReadsInt w .u8 A (B x).length (B x)) (hbase : base ≤ w.heap.size) (hz : u.length + x.length ≤ 1000000) :
    Calls Tryd.prog 10 #[.pointer (some ⟨b, 0, none⟩), .slice A n c] w fun e w' => e = .returned (.tuple #[]) ∧ ∃ v', Lin w' base b v' (u ++ x) ∧
      (v'.ownBlock = v.ownBlock ∨ ∃ g, v'.ownBlock = some g ∧ w.heap.size ≤ g) ∧ Kept w w' b v ∧ Below base w w' := by
  have := feed base b v u x A c w hL hx hbase hz
  rw [B_length, ← hn] at this
  exact this
theorem litReads (w : World) (u : List UInt8) (fr : Nat × Nat) (hz : u.length ≤ 1000000) : ReadsInt (w.alloc (.cells (nums .u8 (B u)).toArray 5 fr)) .u8 (some ⟨w.heap.size, 0, none⟩) (B u).length (B u) := by
  refine ⟨rfl, by rw [B_length]; omega, fun _ => ⟨_, rfl, fun j hj => ?_⟩⟩
  rw [add_plain]
  have e : (w.alloc (.cells (nums .u8 (B u)).toArray 5 fr)).heap[w.heap.size]? = some (.cells (nums .u8 (B u)).toArray 5 fr) := heap_alloc_new w _
  simp only [World.cell?, e]
  rw [B_length] at hj
  simp [nums, B, List.getD, hj]
theorem litBelow (w : World) (o : Obj) : Below w.heap.size w (w.alloc o) := (Below.refl _ w).alloc (Nat.le_refl _) _
set_option maxHeartbeats 2000000 in
set_option maxRecDepth 100000 in
theorem answers (w : World) (hG : Glob w) : Calls Tryd.prog 9 #[] w fun e w' => e = .returned (.bool true) ∧ Below w.heap.size w w' := by
  obtain ⟨W0, hW0⟩ : ∃ W0, w.alloc (.cells #[.slice none 0 0] 26) = W0 := ⟨_, rfl⟩
  have hS0 : W0.heap.size = w.heap.size + 1 := by rw [← hW0]; simp
  have kc := Lib.run_convert_bytes_const (P := Tryd.prog) W0 24 5 #[.int .u8 97, .int .u8 13, .int .u8 10, .int .u8 98] 4 4 Tryd.underlying24 Tryd.underlying5
  obtain ⟨W1, hW1⟩ : ∃ W1, W0.alloc (.cells #[.int .u8 97, .int .u8 13, .int .u8 10, .int .u8 98] 5 (4, 5)) = W1 := ⟨_, rfl⟩
  have kc' : (convert 24 24 (.slice (some ⟨w.heap.size + 1, 0, none⟩) 4 4)).run Tryd.prog (W0.alloc (.cells #[.int .u8 97, .int .u8 13, .int .u8 10, .int .u8 98] 5)) = .ok (.slice (some ⟨w.heap.size + 1, 0, none⟩) 4 4) W1 := by
    rw [← hS0, ← hW1]; exact kc
  rw [← hW0] at kc'
  clear kc
  have HL := Aside0.mk (show Lin W1 w.heap.size w.heap.size (.slice none 0 0) [] by rw [← hW1]; refine Lin.below ?_ (litBelow W0 _); rw [← hW0]; exact Lin.new w _ (Nat.le_refl _))
  have HR := Aside0.mk (show ReadsInt W1 .u8 (some ⟨w.heap.size + 1, 0, none⟩) (B [97, 13, 10, 98]).length (B [97, 13, 10, 98]) by rw [← hW1, ← hS0]; exact litReads W0 [97, 13, 10, 98] (4, 5) (by decide))
  have HB := Aside0.mk (show Below w.heap.size w W1 by rw [← hW1, ← hW0]; exact below_alloc (below_alloc (Below.refl _ _) _) _)
  have HG := Aside0.mk hG
  clear hW1 hW0 hS0 hG
  go_enter Tryd.func9, Tryd.ntmps9
  go_wp2_with (first
    | (go_at_call 10; go_must (refine (feed' w.heap.size w.heap.size (.slice none 0 0) [] [97, 13, 10, 98] _ 4 4 W1 rfl HL.out HR.out HB.out.size (by decide)).mono ?_; rintro e W2 ⟨rfl, v2, hL2, _, _, hb2⟩; have HL2 := Aside0.mk hL2; have HB2 := Aside0.mk (HB.out.trans hb2); clear hL2 hb2))
    | (go_at_call 12; go_must (refine (nextSome w.heap.size w.heap.size v2 [97] [98] 9 W2 (HG.out.below HB2.out) HL2.out HB2.out.size (by decide) (by decide)).mono ?_; rintro e W3 ⟨rfl, v3, hL3, _, _, hb3⟩; have HL3 := Aside0.mk hL3; have HB3 := Aside0.mk (HB2.out.trans hb3); clear hL3 hb3))
    | (go_at_call 13; go_must (refine (held w.heap.size w.heap.size v3 [98] W3 HL3.out).mono ?_; rintro e W4 ⟨rfl, hw4⟩; subst hw4)))
  all_goals go_ret
  all_goals exact ⟨rfl, HB3.out⟩
end Go.Proofs.YthdjeikfbbdehaaDoor.LineFns
