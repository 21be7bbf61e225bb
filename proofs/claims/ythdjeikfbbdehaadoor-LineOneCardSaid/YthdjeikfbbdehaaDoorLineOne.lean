/- LineOne: the walk. -/
import Derived.Test.YthdjeikfbbdehaaDoorLineHas
namespace Go.Proofs.YthdjeikfbbdehaaDoor.LineFns
open Go.RowKit Go.Proofs.YthdjeikfbbdehaaDoor Go.Proofs.YthdjeikfbbdehaaDoor.Plain Go.Proofs.YthdjeikfbbdehaaDoorW.PrintWords
set_option linter.unusedVariables false
set_option linter.unusedSimpArgs false
theorem index_no {u : List UInt8} (h : (13 : UInt8) ∉ u) : Lib.index u [13, 10] = -1 := by
  induction u with
  | nil => rfl
  | cons b u ih =>
    have hb : ¬ (13 : UInt8) = b := fun e => h (by simp [e])
    have := ih (fun e => h (by simp [e]))
    simp [Lib.index, List.isPrefixOf, hb, this]
theorem index_half {u : List UInt8} (h : (13 : UInt8) ∉ u) : Lib.index (u ++ [13]) [13, 10] = -1 := by
  induction u with
  | nil => rfl
  | cons b u ih =>
    have hb : ¬ (13 : UInt8) = b := fun e => h (by simp [e])
    have := ih (fun e => h (by simp [e]))
    simp [Lib.index, List.isPrefixOf, hb, this]
theorem index_end {u : List UInt8} (h : (13 : UInt8) ∉ u) (r : List UInt8) : Lib.index (u ++ 13 :: 10 :: r) [13, 10] = (u.length : Int) := by
  induction u with
  | nil => simp [Lib.index, List.isPrefixOf]
  | cons b u ih =>
    have hb : ¬ (13 : UInt8) = b := fun e => h (by simp [e])
    have := ih (fun e => h (by simp [e]))
    simp [Lib.index, List.isPrefixOf, hb, this]
    try omega
set_option maxHeartbeats 4000000 in
set_option maxRecDepth 100000 in
theorem lineOne (u : List UInt8) (hz : u.length ≤ 140737488351232) (w : World) (hG : Glob w) : Calls Tryd.prog 6 #[.string (S u)] w fun e w' => e = .returned (.bool true) ∧ Below w.heap.size w w' := by
  have HG := Aside0.mk hG
  clear hG
  have hsz : (S u).size = u.length := S_size u
  go_enter Tryd.func6, Tryd.ntmps6
  go_wp2
  go_loopw [3] (fun v2 wr => ∃ i : Nat, i ≤ u.length ∧ v2 = .int .i64 i ∧ Below w.heap.size w wr ∧ Aside0 ((∀ j (hj : j < u.length), j < i → u[j] ≠ 13) ∧ (0 < i → u.length ≤ 500))) (fun v2 _ => u.length - (intOf v2).toNat)
  case atStart => exact ⟨0, by omega, rfl, Below.refl _ _, ⟨fun j hj h => by omega, fun h => by omega⟩⟩
  case round =>
    obtain ⟨i, hi, rfl, hb, HI⟩ := hrel
    have hGr := HG.out.below hb
    by_cases hlt : i < u.length
    · have hlt' : i < (S u).size := by rw [hsz]; exact hlt
      have hget : (S u)[i]'hlt' = u[i] := rfl
      have hAns := answers wr hGr
      by_cases h13 : ((u[i].toNat : Nat) : Int) = 13
      · go_wp2_with (go_at_call 9; refine hAns.mono ?_; rintro e W ⟨rfl, hbA⟩)
        go_ret
        exact ⟨rfl, hb.trans (hbA.mono hb.size)⟩
      · by_cases h5 : u.length > 500
        · go_wp2_with (go_at_call 9; refine hAns.mono ?_; rintro e W ⟨rfl, hbA⟩)
          go_ret
          exact ⟨rfl, hb.trans (hbA.mono hb.size)⟩
        · clear hAns
          have h5' : (u.length : Int) ≤ 500 := by omega
          have h13' : ((((u[i].toNat : Nat) : Int)) == 13) = false := by simpa using h13
          go_wp2
          refine ⟨⟨i + 1, by omega, by go_num, hb, ⟨fun j hj h => ?_, fun _ => by omega⟩⟩, by simp [intOf]; omega⟩
          by_cases hji : j = i
          · subst hji
            intro e
            have h2 : u[j].toNat = 13 := congrArg UInt8.toNat e
            omega
          · exact HI.out.1 j hj (by omega)
    · have hno : (13 : UInt8) ∉ u := fun h => by
        obtain ⟨j, hj, e⟩ := List.getElem_of_mem h
        exact HI.out.1 j hj (by omega) e
      have h500 : u.length ≤ 500 := by
        by_cases h0 : 0 < i
        · exact HI.out.2 h0
        · omega
      have HNo := Aside0.mk hno
      have H5 := Aside0.mk h500
      clear hno h500
      obtain ⟨W0, hW0⟩ : ∃ W0, wr.alloc (.cells #[.slice none 0 0] 26) = W0 := ⟨_, rfl⟩
      have hS0 : W0.heap.size = wr.heap.size + 1 := by rw [← hW0]; simp
      have kc := convBytes W0 u
      rw [hS0, ← hW0] at kc
      have HA0 := Aside0.mk (show Has w wr.heap.size [] (wr.alloc (.cells #[.slice none 0 0] 26)) from Has.new hb)
      have HA1 := Aside0.mk (show Has w wr.heap.size [] (Lib.bytesWorld (wr.alloc (.cells #[.slice none 0 0] 26)) 5 (S u)) from HA0.out.step (bytesBelow _ _))
      have HR1 := Aside0.mk (show ReadsInt (Lib.bytesWorld (wr.alloc (.cells #[.slice none 0 0] 26)) 5 (S u)) .u8 (some ⟨wr.heap.size + 1, 0, none⟩) (B u).length (B u) by have := bytesReads W0 u (by have := H5.out; omega); rw [hS0, ← hW0] at this; exact this)
      obtain ⟨W1, hW1⟩ : ∃ W1, Lib.bytesWorld (wr.alloc (.cells #[.slice none 0 0] 26)) 5 (S u) = W1 := ⟨_, rfl⟩
      obtain ⟨cp, hcp⟩ : ∃ cp, grownCap (wr.alloc (.cells #[.slice none 0 0] 26)) u.length 0 5 = cp := ⟨_, rfl⟩
      rw [hW1, hcp] at kc
      rw [hW1] at HA1 HR1
      clear hS0 hW0 hb hGr hW1 hcp
      have X1 := feedAny u (c := cp) HA1.out rfl HR1.out (by have := H5.out; simp; omega)
      go_wp2_with (go_at_call 10; refine X1.mono ?_; rintro e W2 ⟨rfl, h2⟩; clear X1; have HA2 := Aside0.mk h2; clear h2)
      have X2 := nextNo HG.out 1000 HA2.out (by have := H5.out; simp; omega) (index_no (by simpa using HNo.out))
      go_wp2_with (go_at_call 12; refine X2.mono ?_; rintro e W3 ⟨rfl, h3⟩; clear X2; have HA3 := Aside0.mk h3; clear h3)
      have X3 := feedLit [13] (N := W3.heap.size) (o := #[.int .u8 13]) (n := 1) (c := 1) rfl rfl HA3.out rfl (by have := H5.out; simp; omega)
      go_wp2_with (go_at_call 10; refine X3.mono ?_; rintro e W4 ⟨rfl, h4⟩; clear X3; have HA4 := Aside0.mk h4; clear h4)
      have X4 := nextNo HG.out 1000 HA4.out (by have := H5.out; simp; omega) (by rw [List.nil_append]; exact index_half HNo.out)
      go_wp2_with (go_at_call 12; refine X4.mono ?_; rintro e W5 ⟨rfl, h5⟩; clear X4; have HA5 := Aside0.mk h5; clear h5)
      have X5 := feedLit [10] (N := W5.heap.size) (o := #[.int .u8 10]) (n := 1) (c := 1) rfl rfl HA5.out rfl (by have := H5.out; simp; omega)
      go_wp2_with (go_at_call 10; refine X5.mono ?_; rintro e W6 ⟨rfl, h6⟩; clear X5; have HA6 := Aside0.mk h6; clear h6)
      have X6 := nextYes u [] HG.out 1000 (by simpa using HA6.out) (by have := H5.out; simp; omega) (index_end HNo.out [])
      rw [if_neg (by have := H5.out; omega), decide_eq_false (by have := H5.out; omega)] at X6
      go_wp2_with (go_at_call 12; refine X6.mono ?_; rintro e W7 ⟨rfl, h7⟩; clear X6; have HA7 := Aside0.mk h7; clear h7)
      have X7 := answersOf HG.out HA7.out
      go_wp2_with (go_at_call 9; refine X7.mono ?_; rintro e W8 ⟨rfl, h8⟩; clear X7; have HA8 := Aside0.mk h8; clear h8)
      have X8 := heldIs HA8.out
      go_wp2_with (go_at_call 13; refine X8.mono ?_; rintro e W9 ⟨rfl, rfl⟩; clear X8)
      go_ret
      exact ⟨rfl, HA8.out.below⟩
end Go.Proofs.YthdjeikfbbdehaaDoor.LineFns
