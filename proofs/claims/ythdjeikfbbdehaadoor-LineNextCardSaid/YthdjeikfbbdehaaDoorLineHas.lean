/- line.Lines in one word: a list that waits, in a world that came of the law's first world. -/
import Derived.Test.YthdjeikfbbdehaaDoorLineAns
namespace Go.Proofs.YthdjeikfbbdehaaDoor.LineFns
open Go.RowKit Go.Proofs.YthdjeikfbbdehaaDoor Go.Proofs.YthdjeikfbbdehaaDoor.Plain Go.Proofs.YthdjeikfbbdehaaDoorW.PrintWords
set_option linter.unusedVariables false
set_option linter.unusedSimpArgs false
/-- block b holds a list of which u waits; all that was before w0 is as it was -/
structure Has (w0 : World) (b : Nat) (u : List UInt8) (W : World) : Prop where
  lin : ∃ v, Lin W w0.heap.size b v u
  below : Below w0.heap.size w0 W
theorem Has.new {w0 W : World} (hb : Below w0.heap.size w0 W) : Has w0 W.heap.size [] (W.alloc (.cells #[.slice none 0 0] 26)) :=
  ⟨⟨_, Lin.new W _ hb.size⟩, below_alloc hb _⟩
theorem Has.step {w0 W X : World} {b : Nat} {u : List UInt8} (h : Has w0 b u W) (hb : Below W.heap.size W X) : Has w0 b u X := by
  obtain ⟨⟨v, hL⟩, h2⟩ := h
  exact ⟨⟨v, hL.below hb⟩, h2.trans (hb.mono h2.size)⟩
theorem Has.alloc {w0 W : World} {b : Nat} {u : List UInt8} (h : Has w0 b u W) (o : Obj) : Has w0 b u (W.alloc o) := h.step (litBelow W o)
theorem Has.drewN {w0 W : World} {b : Nat} {u : List UInt8} (h : Has w0 b u W) (n : Nat) : Has w0 b u (W.drewN n) := h.step (by apply pw_below_drewN; exact Below.refl _ _)
/-- 'Feed' of bytes that can be read -/
theorem feedAny {w0 W : World} {b : Nat} {u : List UInt8} (x : List UInt8) {A : Option Addr} {n c : Nat} (h : Has w0 b u W) (hn : n = x.length) (hx : ReadsInt W .u8 A (B x).length (B x)) (hz : u.length + x.length ≤ 1000000) :
    Calls Tryd.prog 10 #[.pointer (some ⟨b, 0, none⟩), .slice A n c] W fun e W' => e = .returned (.tuple #[]) ∧ Has w0 b (u ++ x) W' := by
  obtain ⟨⟨v, hL⟩, h2⟩ := h
  refine (feed' w0.heap.size b v u x A n c W hn hL hx h2.size hz).mono ?_
  rintro e W' ⟨rfl, v', hL', ho, hk, hb⟩
  exact ⟨rfl, ⟨v', hL'⟩, h2.trans hb⟩
/-- 'Feed' of a literal -/
theorem feedLit {w0 W : World} {b : Nat} {u : List UInt8} (x : List UInt8) {n c N : Nat} {o : Array Value} (hN : N = W.heap.size) (ho : o = (nums .u8 (B x)).toArray) (h : Has w0 b u W) (hn : n = x.length) (hz : u.length + x.length ≤ 1000000) :
    Calls Tryd.prog 10 #[.pointer (some ⟨b, 0, none⟩), .slice (some ⟨N, 0, none⟩) n c] (W.alloc (.cells o 5)) fun e W' => e = .returned (.tuple #[]) ∧ Has w0 b (u ++ x) W' := by
  subst hN ho
  exact feedAny x (h.alloc _) hn (litReads W x (0, 0) (by omega)) hz
theorem nextNo {w0 W : World} {b : Nat} {u : List UInt8} (hG : Glob w0) (most : Int) (h : Has w0 b u W) (hz : u.length ≤ 1000000) (hi : Lib.index u [13, 10] = -1) :
    Calls Tryd.prog 12 #[.pointer (some ⟨b, 0, none⟩), .int .i64 most] W fun e W' => e = .returned (.tuple #[.string (S []), .bool false, .bool false]) ∧ Has w0 b u W' := by
  have h' := h
  obtain ⟨⟨v, hL⟩, h2⟩ := h
  refine (nextNone w0.heap.size b v u most W (hG.below h2) hL hz hi).mono ?_
  rintro e W' ⟨rfl, n, rfl⟩
  exact ⟨rfl, h'.drewN n⟩
theorem nextYes {w0 W : World} {b : Nat} (a r : List UInt8) (hG : Glob w0) (most : Int) (h : Has w0 b (a ++ 13 :: 10 :: r) W) (hz : (a ++ 13 :: 10 :: r).length ≤ 1000000) (hi : Lib.index (a ++ 13 :: 10 :: r) [13, 10] = (a.length : Int)) :
    Calls Tryd.prog 12 #[.pointer (some ⟨b, 0, none⟩), .int .i64 most] W fun e W' => e = .returned (.tuple #[.string (if (a.length : Int) > max most 0 then S [] else S a), .bool (decide ((a.length : Int) > max most 0)), .bool true]) ∧ Has w0 b r W' := by
  obtain ⟨⟨v, hL⟩, h2⟩ := h
  refine (nextSome w0.heap.size b v a r most W (hG.below h2) hL h2.size hz hi).mono ?_
  rintro e W' ⟨rfl, v', hL', _, _, hb⟩
  exact ⟨rfl, ⟨v', hL'⟩, h2.trans hb⟩
theorem heldIs {w0 W : World} {b : Nat} {u : List UInt8} (h : Has w0 b u W) :
    Calls Tryd.prog 13 #[.pointer (some ⟨b, 0, none⟩)] W fun e W' => e = .returned (.int .i64 (u.length : Int)) ∧ W' = W := by
  obtain ⟨⟨v, hL⟩, h2⟩ := h
  exact held w0.heap.size b v u W hL
theorem answersOf {w0 W : World} {b : Nat} {u : List UInt8} (hG : Glob w0) (h : Has w0 b u W) : Calls Tryd.prog 9 #[] W fun e W' => e = .returned (.bool true) ∧ Has w0 b u W' :=
  (answers W (hG.below h.below)).mono fun e W' ⟨he, hb⟩ => ⟨he, h.step hb⟩
end Go.Proofs.YthdjeikfbbdehaaDoor.LineFns
