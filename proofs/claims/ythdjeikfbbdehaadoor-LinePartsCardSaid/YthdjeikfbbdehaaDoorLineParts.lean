/- LineParts: the walk. -/
import Derived.Test.YthdjeikfbbdehaaDoorLineTwo
namespace Go.Proofs.YthdjeikfbbdehaaDoor.LineFns
open Go.RowKit Go.Proofs.YthdjeikfbbdehaaDoor Go.Proofs.YthdjeikfbbdehaaDoor.Plain Go.Proofs.YthdjeikfbbdehaaDoorW.PrintWords
set_option linter.unusedVariables false
set_option linter.unusedSimpArgs false
theorem readsPart {W : World} {ad : Addr} {x : List UInt8} (h : ReadsInt W .u8 (some ad) (B x).length (B x)) (a m : Nat) (hm : a + m ≤ x.length) : ReadsInt W .u8 (some (ad.add a)) (B ((x.drop a).take m)).length (B ((x.drop a).take m)) := by
  have hl : ((x.drop a).take m).length = m := by simp; omega
  have h1 := h.2.1
  rw [B_length] at h1
  refine ⟨rfl, by rw [B_length, hl]; omega, fun h0 => ⟨_, rfl, fun j hj => ?_⟩⟩
  rw [B_length, hl] at hj
  obtain ⟨ad', e, hc⟩ := h.2.2 (by rw [B_length]; omega)
  cases e
  rw [Addr.add_add, hc (a + j) (by rw [B_length]; omega)]
  have e1 : (B x).getD (a + j) 0 = ((x[a + j]'(by omega)).toNat : Int) := by simp [B, List.getD, show a + j < x.length by omega]
  have e2 : (B ((x.drop a).take m)).getD j 0 = ((x[a + j]'(by omega)).toNat : Int) := by
    simp [B, List.getD, List.getElem?_take, hj, List.getElem?_drop, show a + j < x.length by omega]
  rw [e1, e2]
theorem feedPart {w0 W : World} {b1 b2 : Nat} {u1 : List UInt8} {x : List UInt8} {ad : Addr} (a m : Nat) {n c : Nat} (h : Two w0 b1 u1 b2 (x.take a) W) (hn : n = m) (hm : a + m ≤ x.length) (hx : ReadsInt w0 .u8 (some ad) (B x).length (B x)) (hz : x.length ≤ 1000) :
    Calls Tryd.prog 10 #[.pointer (some ⟨b2, 0, none⟩), .slice (some (ad.add a)) n c] W fun e W' => e = .returned (.tuple #[]) ∧ Two w0 b1 u1 b2 (x.take (a + m)) W' := by
  have := feed2 ((x.drop a).take m) (A := some (ad.add a)) (n := n) (c := c) h (by simp; omega) (readsPart (hx.below h.below) a m hm) (by simp; omega)
  rw [← List.take_add] at this
  exact this
set_option maxHeartbeats 4000000 in
set_option maxRecDepth 100000 in
theorem lineParts {w : World} (A : Option Addr) (n c : Nat) (x : List UInt8) (hr : ReadsInt w .u8 A n (B x)) (hc : n ≤ c) (hy : n ≤ 140737488351232) (A2 : Option Addr) (n2 c2 : Nat) (y : List UInt8) (hr2 : ReadsInt w .u8 A2 n2 (B y)) (hc2 : n2 ≤ c2) (hy2 : n2 ≤ 140737488351232) (hG : Glob w) : Calls Tryd.prog 4 #[.slice A n c, .slice A2 n2 c2] w fun e w' => e = .returned (.bool true) ∧ Below w.heap.size w w' := by
  have HG := Aside0.mk hG
  have hAns := answers w hG
  clear hG
  by_cases h5 : n > 1000
  · go_enter Tryd.func4, Tryd.ntmps4
    go_wp2_with (go_at_call 9; refine hAns.mono ?_; rintro e W ⟨rfl, hbA⟩)
    go_ret
    exact ⟨rfl, hbA⟩
  · clear hAns
    obtain rfl : n = x.length := by have := hr.1; rw [B_length] at this; omega
    obtain rfl : n2 = y.length := by have := hr2.1; rw [B_length] at this; omega
    have HR := Aside0.mk hr
    have HR2 := Aside0.mk hr2
    have HC := Aside0.mk hc
    have hx1000 : (x.length : Int) ≤ 1000 := by omega
    clear hr hr2 hc2 hy
    go_enter Tryd.func4, Tryd.ntmps4
    have HT0 := Aside0.mk (Two.new (Below.refl w.heap.size w))
    have X1 := feed2 x (c := c) HT0.out.swap rfl (by rw [B_length]; exact HR.out.below (below_alloc (below_alloc (Below.refl _ _) _) _)) (by simp; omega)
    go_wp2_with (go_at_call 10; refine X1.mono ?_; rintro e W2 ⟨rfl, h2⟩; clear X1)
    have HT1 := Aside0.mk h2.swap
    clear h2 HT0
    go_loopw [7, 8, 9] (fun v7 v8 v9 wr => ∃ (a i : Nat), a ≤ x.length ∧ (i ≤ y.length ∨ (i = y.length + 1 ∧ a = x.length)) ∧ v7 = .int .i64 a ∧ v8 = .int .i64 i ∧ Aside0 (Two w w.heap.size ([] ++ x) (w.heap.size + 1) (x.take a) wr)) (fun v7 v8 _ _ => (x.length - (intOf v7).toNat) + (y.length - (intOf v8).toNat))
    case atStart => exact ⟨0, 0, by omega, .inl (by omega), rfl, rfl, ⟨by have := HT1.out; simpa using this⟩⟩
    case round =>
      obtain ⟨a, i, ha, hi, rfl, rfl, HT⟩ := hrel
      clear HT1
      by_cases hlt : a < x.length
      · have hi' : i ≤ y.length := by omega
        obtain ⟨ad, hA, hcs⟩ := HR.out.2.2 (by omega)
        subst hA
        have HCS := Aside0.mk hcs
        clear hcs hi
        by_cases hiy : i < y.length
        · obtain ⟨ad2, hA2, hcs2⟩ := HR2.out.2.2 (by omega)
          subst hA2
          have hci := (hcs2 i hiy)
          have ei : (B y).getD i 0 = ((y[i].toNat : Nat) : Int) := by simp [B, List.getD, hiy]
          rw [ei] at hci
          have hci' : wr.cell? (ad2.add i) = some (.int .u8 ((y[i].toNat : Nat) : Int)) := (World.cell?_of_block (HT.out.below.block _ (World.block_lt_of_cell? _ _ hci))).trans hci
          obtain ⟨yi, hyi⟩ : ∃ yi : Nat, y[i].toNat = yi := ⟨_, rfl⟩
          have hyb : yi < 256 := by rw [← hyi]; exact y[i].toNat_lt
          rw [hyi] at hci'
          clear hci ei hcs2 hyi
          by_cases hyl : (yi : Int) < (x.length : Int) - (a : Int)
          · have X2 := feedPart a yi (n := yi) (c := c - a) HT.out rfl (by omega) (by have := HR.out; rw [B_length]; exact this) (by omega)
            go_wp2_with (go_at_call 10; refine X2.mono ?_; rintro e W3 ⟨rfl, h3⟩; clear X2; have HT3 := Aside0.mk h3; clear h3)
            go_roundw
            case rel => exact ⟨a + yi, i + 1, by omega, .inl (by omega), by go_num, by go_num, HT3⟩
            case measure => simp [intOf]; omega
          · have X2 := feedPart a (x.length - a) (n := x.length - a) (c := c - a) HT.out rfl (by omega) (by have := HR.out; rw [B_length]; exact this) (by omega)
            rw [show a + (x.length - a) = x.length by omega] at X2
            go_wp2_with (go_at_call 10; refine X2.mono ?_; rintro e W3 ⟨rfl, h3⟩; clear X2; have HT3 := Aside0.mk h3; clear h3)
            go_roundw
            case rel => exact ⟨x.length, i + 1, by omega, .inl (by omega), by go_num, by go_num, HT3⟩
            case measure => simp [intOf]; omega
        · obtain rfl : i = y.length := by omega
          have X2 := feedPart a (x.length - a) (n := x.length - a) (c := c - a) HT.out rfl (by omega) (by have := HR.out; rw [B_length]; exact this) (by omega)
          rw [show a + (x.length - a) = x.length by omega] at X2
          go_wp2_with (go_at_call 10; refine X2.mono ?_; rintro e W3 ⟨rfl, h3⟩; clear X2; have HT3 := Aside0.mk h3; clear h3)
          go_roundw
          case rel => exact ⟨x.length, y.length + 1, by omega, .inr ⟨rfl, rfl⟩, by go_num, by go_num, HT3⟩
          case measure => simp [intOf]; omega
      · obtain rfl : a = x.length := by omega
        have HT2 := Aside0.mk (show Two w w.heap.size x (w.heap.size + 1) x wr by have := HT.out; simpa using this)
        clear HT
        go_wp2_with fail
        go_loopw [10, 11, 12, 13, 14, 15, 16] (fun v10 v11 v12 v13 v14 v15 v16 wr => ∃ (j : Nat) (u : List UInt8), j ≤ x.length + 1 ∧ v10 = .int .i64 j ∧ Aside0 (u.length ≤ x.length) ∧ Aside0 (Two w w.heap.size u (w.heap.size + 1) u wr)) (fun v10 _ _ _ _ _ _ _ => x.length + 1 - (intOf v10).toNat)
        case atStart => exact ⟨0, x, by omega, rfl, ⟨Nat.le_refl _⟩, HT2⟩
        case round =>
          obtain ⟨j, u, hj, rfl, HL, HT⟩ := hrel
          clear HT2
          by_cases hlt : j ≤ x.length
          · rcases index_cases u with hix | ⟨r1, r2, rfl, hix⟩
            · have X3 := nextNo2 HG.out 100 HT.out.swap (by have := HL.out; omega) hix
              have X4 : ∀ W', Two w w.heap.size u (w.heap.size + 1) u W' → _ := fun W' h => nextNo2 HG.out 100 h (by have := HL.out; omega) hix
              clear hix
              go_wp2_with (go_at_call 12; refine X3.mono ?_; rintro e W3 ⟨rfl, h3⟩; clear X3; have HT3 := Aside0.mk h3.swap; clear h3)
              have X5 := X4 _ HT3.out
              clear X4
              go_wp2_with (go_at_call 12; refine X5.mono ?_; rintro e W4 ⟨rfl, h4⟩; clear X5; have HT4 := Aside0.mk h4; clear h4)
              go_roundw
              case rel => exact ⟨j + 1, u, by omega, by go_num, HL, HT4⟩
              case measure => simp [intOf]; omega
            · have hz : (r1 ++ 13 :: 10 :: r2).length ≤ 1000000 := by have := HL.out; omega
              have X3 := nextYes2 r1 r2 HG.out 100 HT.out.swap hz hix
              have X4 : ∀ W', Two w w.heap.size r2 (w.heap.size + 1) (r1 ++ 13 :: 10 :: r2) W' → _ := fun W' h => nextYes2 r1 r2 HG.out 100 h hz hix
              obtain ⟨tx, htx⟩ : ∃ t, (if (r1.length : Int) > max 100 0 then S [] else S r1) = t := ⟨_, rfl⟩
              obtain ⟨lg, hlg⟩ : ∃ t, decide ((r1.length : Int) > max 100 0) = t := ⟨_, rfl⟩
              rw [htx, hlg] at X3 X4
              clear hix hz htx hlg
              go_wp2_with (go_at_call 12; refine X3.mono ?_; rintro e W3 ⟨rfl, h3⟩; clear X3; have HT3 := Aside0.mk h3.swap; clear h3)
              have X5 := X4 _ HT3.out
              clear X4
              go_wp2_with (go_at_call 12; refine X5.mono ?_; rintro e W4 ⟨rfl, h4⟩; clear X5; have HT4 := Aside0.mk h4; clear h4)
              go_roundw
              case rel => exact ⟨j + 1, r2, by omega, by go_num, ⟨by have := HL.out; simp at this; omega⟩, HT4⟩
              case measure => simp [intOf]; omega
          · have X6 := answersOf2 HG.out HT.out
            go_wp2_with (go_at_call 9; refine X6.mono ?_; rintro e W3 ⟨rfl, h3⟩; clear X6; have HT3 := Aside0.mk h3; clear h3)
            have X7 := heldIs HT3.out.fst
            go_wp2_with (go_at_call 13; refine X7.mono ?_; rintro e W4 ⟨rfl, rfl⟩; clear X7)
            have X8 := heldIs HT3.out.swap.fst
            go_wp2_with (go_at_call 13; refine X8.mono ?_; rintro e W5 ⟨rfl, rfl⟩; clear X8)
            go_ret
            exact ⟨rfl, HT3.out.below⟩
end Go.Proofs.YthdjeikfbbdehaaDoor.LineFns
