/- Two lists side by side. -/
import Derived.Test.YthdjeikfbbdehaaDoorLineRef
namespace Go.Proofs.YthdjeikfbbdehaaDoor.LineFns
open Go.RowKit Go.Proofs.YthdjeikfbbdehaaDoor Go.Proofs.YthdjeikfbbdehaaDoor.Plain Go.Proofs.YthdjeikfbbdehaaDoorW.PrintWords
set_option linter.unusedVariables false
set_option linter.unusedSimpArgs false
/-- blocks b1 and b2 hold lists of which u1 and u2 wait; they share nothing -/
structure Two (w0 : World) (b1 : Nat) (u1 : List UInt8) (b2 : Nat) (u2 : List UInt8) (W : World) : Prop where
  both : ∃ v1 v2, Lin W w0.heap.size b1 v1 u1 ∧ Lin W w0.heap.size b2 v2 u2 ∧ v1.ownBlock ≠ some b2 ∧ v2.ownBlock ≠ some b1 ∧ (∀ g, v1.ownBlock = some g → v2.ownBlock ≠ some g)
  ne : b1 ≠ b2
  below : Below w0.heap.size w0 W
theorem Two.swap {w0 W : World} {b1 b2 : Nat} {u1 u2 : List UInt8} (h : Two w0 b1 u1 b2 u2 W) : Two w0 b2 u2 b1 u1 W := by
  obtain ⟨⟨v1, v2, h1, h2, h3, h4, h5⟩, h6, h7⟩ := h
  exact ⟨⟨v2, v1, h2, h1, h4, h3, fun g h h' => h5 g h' h⟩, fun e => h6 e.symm, h7⟩
theorem Two.fst {w0 W : World} {b1 b2 : Nat} {u1 u2 : List UInt8} (h : Two w0 b1 u1 b2 u2 W) : Has w0 b1 u1 W := by
  obtain ⟨⟨v1, v2, h1, h2, h3, h4, h5⟩, h6, h7⟩ := h
  exact ⟨⟨v1, h1⟩, h7⟩
theorem Two.new {w0 W : World} (hb : Below w0.heap.size w0 W) : Two w0 W.heap.size [] (W.heap.size + 1) [] ((W.alloc (.cells #[.slice none 0 0] 26)).alloc (.cells #[.slice none 0 0] 26)) := by
  have hs : (W.alloc (.cells #[.slice none 0 0] 26)).heap.size = W.heap.size + 1 := by simp
  have h2 := Lin.new (W.alloc (.cells #[.slice none 0 0] 26)) w0.heap.size (by have := hb.size; omega)
  rw [hs] at h2
  exact ⟨⟨.slice none 0 0, .slice none 0 0, (Lin.new W _ hb.size).below (litBelow _ _), h2, by simp [Value.ownBlock], by simp [Value.ownBlock], by simp [Value.ownBlock]⟩, by omega, below_alloc (below_alloc hb _) _⟩
theorem Two.step {w0 W X : World} {b1 b2 : Nat} {u1 u2 : List UInt8} (h : Two w0 b1 u1 b2 u2 W) (hb : Below W.heap.size W X) : Two w0 b1 u1 b2 u2 X := by
  obtain ⟨⟨v1, v2, h1, h2, h3, h4, h5⟩, h6, h7⟩ := h
  exact ⟨⟨v1, v2, h1.below hb, h2.below hb, h3, h4, h5⟩, h6, h7.trans (hb.mono h7.size)⟩
/-- what keeps the one list while the other one's blocks are written -/
theorem Lin.keep {W X : World} {base b : Nat} {v : Value} {u : List UInt8} (h : Lin W base b v u) (S : Nat → Prop) (hk : ∀ k, k < W.heap.size → ¬ S k → X.heap[k]? = W.heap[k]?) (h1 : ¬ S b) (h2 : ∀ g, v.ownBlock = some g → ¬ S g) : Lin X base b v u := by
  have hlt := (Array.getElem?_eq_some_iff.1 h.at_).1
  exact ⟨h.le, (hk b hlt h1).trans h.at_, own_move h.own (fun k hk' => hk k (own_lt h.own k hk') (h2 k hk')), h.ne⟩
theorem feed2 {w0 W : World} {b1 b2 : Nat} {u1 u2 : List UInt8} (x : List UInt8) {A : Option Addr} {n c : Nat} (h : Two w0 b1 u1 b2 u2 W) (hn : n = x.length) (hx : ReadsInt W .u8 A (B x).length (B x)) (hz : u2.length + x.length ≤ 1000000) :
    Calls Tryd.prog 10 #[.pointer (some ⟨b2, 0, none⟩), .slice A n c] W fun e W' => e = .returned (.tuple #[]) ∧ Two w0 b1 u1 b2 (u2 ++ x) W' := by
  obtain ⟨⟨v1, v2, h1, h2, h3, h4, h5⟩, h6, h7⟩ := h
  refine (feed' w0.heap.size b2 v2 u2 x A n c W hn h2 hx h7.size hz).mono ?_
  rintro e W' ⟨rfl, v', hL', ho, hk, hb⟩
  have hb1 := (Array.getElem?_eq_some_iff.1 h1.at_).1
  refine ⟨rfl, ⟨v1, v', h1.keep (fun k => k = b2 ∨ some k = v2.ownBlock) (fun k hk1 hs => hk k hk1 (fun e => hs (.inl e)) (fun e => hs (.inr e))) (fun e => e.elim h6 (fun e => h4 e.symm)) (fun g hg e => e.elim (fun e => h3 (by rw [hg, e])) (fun e => h5 g hg e.symm)), hL', h3, ?_, ?_⟩, h6, h7.trans hb⟩
  · rcases ho with e | ⟨g, e, hg⟩
    · rw [e]; exact h4
    · rw [e]; intro e'; cases e'; omega
  · intro g hg
    have := own_lt h1.own g hg
    rcases ho with e | ⟨g', e, hg'⟩
    · rw [e]; exact h5 g hg
    · rw [e]; intro e'; cases e'; omega
theorem nextNo2 {w0 W : World} {b1 b2 : Nat} {u1 u2 : List UInt8} (hG : Glob w0) (most : Int) (h : Two w0 b1 u1 b2 u2 W) (hz : u2.length ≤ 1000000) (hi : Lib.index u2 [13, 10] = -1) :
    Calls Tryd.prog 12 #[.pointer (some ⟨b2, 0, none⟩), .int .i64 most] W fun e W' => e = .returned (.tuple #[.string (S []), .bool false, .bool false]) ∧ Two w0 b1 u1 b2 u2 W' := by
  have h' := h
  obtain ⟨⟨v1, v2, h1, h2, h3, h4, h5⟩, h6, h7⟩ := h
  refine (nextNone w0.heap.size b2 v2 u2 most W (hG.below h7) h2 hz hi).mono ?_
  rintro e W' ⟨rfl, n, rfl⟩
  exact ⟨rfl, h'.step (by apply pw_below_drewN; exact Below.refl _ _)⟩
theorem nextYes2 {w0 W : World} {b1 b2 : Nat} {u1 : List UInt8} (a r : List UInt8) (hG : Glob w0) (most : Int) (h : Two w0 b1 u1 b2 (a ++ 13 :: 10 :: r) W) (hz : (a ++ 13 :: 10 :: r).length ≤ 1000000) (hi : Lib.index (a ++ 13 :: 10 :: r) [13, 10] = (a.length : Int)) :
    Calls Tryd.prog 12 #[.pointer (some ⟨b2, 0, none⟩), .int .i64 most] W fun e W' => e = .returned (.tuple #[.string (if (a.length : Int) > max most 0 then S [] else S a), .bool (decide ((a.length : Int) > max most 0)), .bool true]) ∧ Two w0 b1 u1 b2 r W' := by
  obtain ⟨⟨v1, v2, h1, h2, h3, h4, h5⟩, h6, h7⟩ := h
  refine (nextSome w0.heap.size b2 v2 a r most W (hG.below h7) h2 h7.size hz hi).mono ?_
  rintro e W' ⟨rfl, v', hL', hn, hk, hb⟩
  have hb1 := (Array.getElem?_eq_some_iff.1 h1.at_).1
  refine ⟨rfl, ⟨v1, v', h1.keep (fun k => k = b2) (fun k hk1 hs => hk k hk1 hs) h6 (fun g hg e => h3 (by rw [hg, e])), hL', h3, fun e => by have := hn _ e; omega, fun g hg e => ?_⟩, h6, h7.trans hb⟩
  have := own_lt h1.own g hg
  have := hn _ e
  omega
theorem answersOf2 {w0 W : World} {b1 b2 : Nat} {u1 u2 : List UInt8} (hG : Glob w0) (h : Two w0 b1 u1 b2 u2 W) : Calls Tryd.prog 9 #[] W fun e W' => e = .returned (.bool true) ∧ Two w0 b1 u1 b2 u2 W' :=
  (answers W (hG.below h.below)).mono fun e W' ⟨he, hb⟩ => ⟨he, h.step hb⟩
end Go.Proofs.YthdjeikfbbdehaaDoor.LineFns
