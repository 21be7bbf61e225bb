/- law23: good, answers. -/
import Derived.Test.YthdjeikfbbdehaaDoorDsnSame
namespace Go.Proofs.YthdjeikfbbdehaaDoor.Fs
open Go.RowKit Go.Proofs.YthdjeikfbbdehaaDoor Go.Proofs.YthdjeikfbbdehaaDoor.Plain Go.Proofs.YthdjeikfbbdehaaDoorW.PrintWords Go.Maps
set_option linter.unusedVariables false
set_option linter.unusedSimpArgs false
theorem sender_short {m : MailD} (h : GoodD m) : m.sender.length ≤ 64 := by
  rcases h.from_ with h | h
  · rw [h]; decide
  · exact (boxB_some h).1
theorem good_text {m : MailD} {l : List Int} (h : GoodD m) (hl : l.length = m.rcpts.length) : TextOk m l :=
  ⟨by have := h.id1; omega, h.id2, sender_short h, fun r hr => (boxB_some (h.box r hr)).1, hl, by have := h.rc2; omega⟩
set_option maxHeartbeats 1000000 in
set_option maxRecDepth 100000 in
theorem goodLaw {w : World} {v : Value} (m : MailD) (h : MailAt w v m) (F : Option Addr) (c : Nat) (l : List Int) (W : World) (hW : Below w.heap.size w W) :
    Calls Tryd.prog 14 #[v, .slice F l.length c] W fun e W' => e = .returned (.bool (goodB m && (l.length == m.rcpts.length))) ∧ Below W.heap.size W W' := by
  have HB0 := Aside0.mk (Below.refl W.heap.size W)
  have HX := Aside0.mk (fun X (hX : Below W.heap.size W X) => goodIs m h X (chain' hW hX))
  obtain ⟨A, cc, Q, q, rfl, hs, hr, hN, hB⟩ := h
  clear hN hB hW
  obtain ⟨g, hg⟩ : ∃ g, goodB m = g := ⟨_, rfl⟩
  rw [hg] at HX ⊢
  clear hg
  obtain ⟨b, hb⟩ : ∃ b, (l.length == m.rcpts.length) = b := ⟨_, rfl⟩
  have hb2 : ((l.length : Int) == (m.rcpts.length : Int)) = b := by
    rw [← hb, Bool.eq_iff_iff]
    simp
    omega
  rw [hb]
  clear hb
  go_enter Tryd.func14, Tryd.ntmps14
  cases g with
  | false =>
    go_wp2_with (go_at_call 21; refine (HX.out _ (below_alloc HB0.out _)).mono ?_; rintro e W3 ⟨rfl, hb⟩; have HB3 := Aside0.mk (chain' (below_alloc HB0.out _) hb); clear hb)
    go_ret
    exact ⟨rfl, HB3.out⟩
  | true =>
    go_wp2_with (go_at_call 21; refine (HX.out _ (below_alloc HB0.out _)).mono ?_; rintro e W3 ⟨rfl, hb⟩; have HB3 := Aside0.mk (chain' (below_alloc HB0.out _) hb); have hk4 := (boxCells hb).2.2.2.2.1; clear hb)
    go_ret
    exact ⟨rfl, HB3.out⟩
def m0 : MailD := ⟨7, 0, 0, [97, 64, 98], [[99, 64, 100]], []⟩
def text0 : List UInt8 := [70, 114, 111, 109, 58, 32, 60, 62, 10, 84, 111, 58, 32, 60, 97, 64, 98, 62, 10, 83, 117, 98, 106, 101, 99, 116, 58, 32, 110, 111, 116, 32, 100, 101, 108, 105, 118, 101, 114, 101, 100, 10, 10, 77, 97, 105, 108, 58, 32, 55, 10, 70, 97, 105, 108, 101, 100, 58, 32, 60, 99, 64, 100, 62, 10]
theorem itoa7 : Lib.itoa 7 = [55] := by
  unfold Lib.itoa
  rw [if_neg (by decide)]
  show Lib.decDigits 7 = _
  rw [Lib.decDigits]
  rfl
theorem text0_eq : textB m0 [2] = text0 := by
  unfold textB linesL headL
  rw [show m0.id = 7 from rfl, itoa7]
  kernel_rfl
theorem m0_ok : TextOk m0 [2] := ⟨by decide, by decide, by decide, by decide, rfl, by decide⟩
theorem m0_make : makeD m0 [2] 3 = ⟨0, 7, 3, [], [[97, 64, 98]], text0⟩ := by
  unfold makeD
  rw [text0_eq, if_pos (show comesB m0 [2] = true by kernel_rfl), show clampI 3 = 3 by decide]
  rfl
theorem m0_at (w : World) {X : World} (hX : Below (w.alloc (.cells #[.string ⟨#[99, 64, 100]⟩] 9)).heap.size (w.alloc (.cells #[.string ⟨#[99, 64, 100]⟩] 9)) X) :
    MailAt X (.agg #[.int .i64 7, .int .i64 0, .int .i64 0, .string ⟨#[97, 64, 98]⟩, .slice (some ⟨w.heap.size, 0, none⟩) 1 1, .slice none 0 0]) m0 := by
  refine ⟨some ⟨w.heap.size, 0, none⟩, 1, none, 0, rfl, by decide, by decide, fun j hj => ?_, rfl, by decide, fun h => absurd h (by decide)⟩
  have hj1 : j < 1 := hj
  obtain rfl : j = 0 := by omega
  refine ⟨_, rfl, ?_, show ([99, 64, 100] : List UInt8).length ≤ _ by decide⟩
  have h := (hX.block w.heap.size (by simp)).trans (heap_alloc_new w _)
  have e : (⟨w.heap.size, 0, none⟩ : Addr).add 0 = ⟨w.heap.size, 0, none⟩ := rfl
  rw [e]
  unfold World.cell?
  simp only []
  rw [h]
  rfl
theorem f0_at (X : World) (b : Nat) (hb : X.heap.size = b) : FatesAt (X.alloc (.cells #[.int .i64 2, .int .i64 0, .int .i64 0, .int .i64 0, .bool false] 45)) (some ⟨b, 0, none⟩) [2] := by
  subst hb
  intro j hj
  have hj1 : j < 1 := hj
  obtain rfl : j = 0 := by omega
  refine ⟨_, 0, 0, 0, false, rfl, fun i hi => ?_⟩
  have h := heap_alloc_new X (.cells #[.int .i64 2, .int .i64 0, .int .i64 0, .int .i64 0, .bool false] 45)
  have e : (⟨X.heap.size, 0, none⟩ : Addr).add (0 * 5 + i) = ⟨X.heap.size, i, none⟩ := by unfold Addr.add; split <;> simp_all
  rw [e]
  unfold World.cell?
  simp only []
  rw [h]
  rfl
theorem text0_S : S text0 = ⟨([70, 114, 111, 109, 58, 32, 60, 62, 10, 84, 111, 58, 32, 60, 97, 64, 98, 62, 10, 83, 117, 98, 106, 101, 99, 116, 58, 32, 110, 111, 116, 32].append [100, 101, 108, 105, 118, 101, 114, 101, 100, 10, 10, 77, 97, 105, 108, 58, 32, 55, 10, 70, 97, 105, 108, 101, 100, 58, 32, 60, 99, 64, 100, 62, 10]).toArray⟩ := by kernel_rfl
theorem make0 (X : World) (v : Value) (F : Option Addr) (hG : GI X) (hm : MailAt X v m0) (hF : FatesAt X F [2]) :
    Calls Tryd.prog 17 #[v, .slice F 1 1, .int .i64 3] X fun e W' => ∃ ad c Q q, e = .returned (.tuple #[.agg #[.int .i64 0, .int .i64 7, .int .i64 3, .string ⟨#[]⟩, .slice (some ad) 1 c, .slice Q text0.length q], .bool true]) ∧ W'.cell? ad = some (.string ⟨#[97, 64, 98]⟩) ∧
      ReadsInt W' .u8 Q (B text0).length (B text0) ∧ Below X.heap.size X W' := by
  have h := makeIs m0 hm F 1 [2] hF m0_ok hG 3 X (Below.refl _ _)
  rw [m0_make, show comesB m0 [2] = true by kernel_rfl] at h
  refine h.mono ?_
  rintro e W' ⟨v', rfl, ⟨A, c, Q, q, rfl, -, -, hN, hB⟩, hb⟩
  obtain ⟨ad, rfl, hcell, -⟩ := hN 0 (show 0 < 1 by decide)
  have e0 : ad.add 0 = ad := by simp [Addr.add]
  rw [e0] at hcell
  exact ⟨ad, c, Q, q, rfl, hcell, hB, hb⟩
set_option maxHeartbeats 1000000 in
set_option maxRecDepth 100000 in
theorem answers (w : World) (hG : GI w) : Calls Tryd.prog 15 #[] w fun e W' => e = .returned (.bool true) ∧ Below w.heap.size w W' := by
  have HG := Aside0.mk hG
  have HB0 := Aside0.mk (Below.refl w.heap.size w)
  have HM := Aside0.mk (fun (X : World) (hX : Below w.heap.size w X) v F hm hF => make0 X v F (HG.out.below hX) hm hF)
  have HS := Aside0.mk text0_S
  clear hG
  go_enter Tryd.func15, Tryd.ntmps15
  go_wp2_with (go_at_call 17; refine (HM.out _ (below_alloc (below_alloc (below_alloc HB0.out _) _) _) _ _ (m0_at w (below_alloc (below_alloc (Below.refl _ _) _) _)) (f0_at _ _ (by simp))).mono ?_; rintro e W3 ⟨ad, c, Q, q, rfl, hcell, hB, hb⟩; have HB3 := Aside0.mk (chain' (below_alloc (below_alloc (below_alloc HB0.out _) _) _) hb); have hc1 := fun o => (World.cell?_of_block ((below_alloc (Below.refl W3.heap.size W3) o).block _ (World.block_lt_of_cell? _ _ hcell))).trans hcell; have hc2 := fun o => convAny (w := W3.alloc o) (c := q) (n := text0.length) (readsBelow hB (below_alloc (Below.refl W3.heap.size W3) o)) rfl; rw [HS.out] at hc2; clear hb hB hcell)
  go_ret
  exact ⟨rfl, below_alloc HB3.out _⟩
end Go.Proofs.YthdjeikfbbdehaaDoor.Fs
