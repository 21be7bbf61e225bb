/- LineNext: the walk. -/
import Derived.Test.YthdjeikfbbdehaaDoorLineLW
import Derived.Deep.Matrix
namespace Go.Proofs.YthdjeikfbbdehaaDoor.LineFns
open Go.RowKit Go.Proofs.YthdjeikfbbdehaaDoor Go.Proofs.YthdjeikfbbdehaaDoor.Plain Go.Proofs.YthdjeikfbbdehaaDoorW.PrintWords Go.ChangeShapes Go.WideShapes
set_option linter.unusedVariables false
set_option linter.unusedSimpArgs false
/-- a slice of slices of bytes -/
def RowsOf (W : World) (v : Value) : Prop := ∃ (A : Option Addr) (c : Nat) (xss : List (List UInt8)), v = .slice A xss.length c ∧ xss.length ≤ 9223372036854775807 ∧
  ∀ j (hj : j < xss.length), ∃ ad B' c', A = some ad ∧ W.cell? (ad.add j) = some (.slice B' xss[j].length c') ∧ xss[j].length ≤ c' ∧ ReadsInt W .u8 B' (B xss[j]).length (B xss[j])
theorem rowsOf {H : Type} {enc : TypeId × Value → H} {W : World} {base : Nat} {v : Value} {d : DataW H} {p : List MemPlace} (hv : Value.okWide Tryd.prog W .any base 22 v) (h : DataW.Trod enc Tryd.prog W 0 (fun _ => true) true 22 v d p) (hw : ∀ x ∈ d.weights Tryd.prog 22, x ≤ reachBytes) : RowsOf W v := by
  obtain ⟨A, n, c, rfl⟩ := okWide_slice Tryd.underlying22 hv
  obtain ⟨fuel, hf⟩ := h
  rcases Deep.open_int_rows Tryd.underlying22 Tryd.underlying24 Tryd.underlying5 (by kernel_rfl) (by kernel_rfl) hf with ⟨hcs, _⟩ | ⟨a, len, cap, A', L, C, Z, hcs, _, hl, hm, _, hr⟩
  · simp [Value.cells] at hcs
    obtain ⟨rfl, rfl, rfl⟩ := hcs
    exact ⟨none, 0, [], rfl, by simp, fun j hj => by simp at hj⟩
  · simp [Value.cells] at hcs
    obtain ⟨rfl, rfl, rfl⟩ := hcs
    have hBf : ∀ r, r < n → B (((Z r).take (L r)).map fun n => UInt8.ofNat n.toNat) = (Z r).take (L r) := by
      intro r hrn
      obtain ⟨_, _, _, _, hwf, _⟩ := hr r (by omega)
      simp only [B, List.map_map]
      conv => rhs; rw [← List.map_id ((Z r).take (L r))]
      apply List.map_congr_left
      intro x hx
      have hb := hwf x (List.mem_of_mem_take hx)
      have hb1 : 0 ≤ x ∧ x ≤ 255 := by simp only [Lit.wf, Bool.and_eq_true, decide_eq_true_eq] at hb; exact hb
      simp
      omega
    have hlen : ∀ r, r < n → (((Z r).take (L r)).map fun n => UInt8.ofNat n.toNat).length = L r := by
      intro r hrn
      obtain ⟨_, h1, _, h3, _⟩ := hr r (by omega)
      simp
      omega
    refine ⟨some a, c, (List.range n).map fun r => ((Z r).take (L r)).map fun n => UInt8.ofNat n.toNat, by simp, by simp only [List.length_map, List.length_range]; simp only [maxLen] at hm; omega, fun j hj => ?_⟩
    have hjn : j < n := by simpa using hj
    obtain ⟨h0, h1, h2, h3, h4, h5, h6⟩ := hr j (by omega)
    have e : ((List.range n).map fun r => ((Z r).take (L r)).map fun n => UInt8.ofNat n.toNat)[j] = ((Z j).take (L j)).map fun n => UInt8.ofNat n.toNat := by simp
    rw [e, hlen j hjn]
    refine ⟨a, A' j, C j, rfl, h0, h1, ?_⟩
    refine ⟨rfl, by rw [hBf j hjn]; simp only [maxLen] at h2; simp; omega, fun hp => ?_⟩
    rw [hBf j hjn] at hp ⊢
    have hL : 0 < L j := by simp at hp; omega
    rcases hA' : A' j with _ | a'
    · have := h5 hA'
      omega
    · refine ⟨a', rfl, fun i hi => ?_⟩
      have hi' : i < L j := by simp at hi; omega
      rw [(h6 a' hA').2 i (by omega)]
      simp [List.getD_eq_getElem?_getD, List.getElem?_take, hi']
def sliceLen : Value → Nat
  | .slice _ n _ => n
  | _ => 0
set_option maxHeartbeats 4000000 in
set_option maxRecDepth 100000 in
theorem lineNext {w : World} (v : Value) (h : RowsOf w v) (most : Int) (hw : (Lit.int .i64 most).wf = true) (hG : Glob w) : Calls Tryd.prog 3 #[v, .int .i64 most] w fun e w' => e = .returned (.bool true) ∧ Below w.heap.size w w' := by
  have HG := Aside0.mk hG
  obtain ⟨A, c, xss, rfl, hn, hrows⟩ := h
  have HR := Aside0.mk hrows
  clear hG hrows hw
  go_enter Tryd.func3, Tryd.ntmps3
  have HT0 := Aside0.mk (LW.new (Has.new (Below.refl w.heap.size w)))
  go_wp2
  go_loopw [6, 7, 8, 9, 10, 11, 12, 13] (fun v6 v7 v8 v9 v10 v11 v12 v13 wr => ∃ (i : Nat) (u : List UInt8), i ≤ xss.length ∧ v7 = .int .i64 i ∧ Aside0 (LW w w.heap.size u v6 u wr) ∧ Aside0 (u.length ≤ 500 * i) ∧ Aside0 (i = 0 ∨ xss.length ≤ 50)) (fun _ v7 _ _ _ _ _ _ _ => xss.length - (intOf v7).toNat)
  case atStart => exact ⟨0, [], by omega, rfl, HT0, ⟨by simp⟩, ⟨.inl rfl⟩⟩
  case round =>
    obtain ⟨i, u, hi, rfl, HT, HLen, H50⟩ := hrel
    clear HT0
    by_cases hlt : i < xss.length
    · obtain ⟨ad, B', c', rfl, hcell, hc', hrd⟩ := HR.out i hlt
      obtain ⟨x, hx⟩ : ∃ x, xss[i] = x := ⟨_, rfl⟩
      rw [hx] at hcell hc' hrd
      clear hx
      have hcellX : ∀ X : World, Below w.heap.size w X → X.cell? (ad.add i) = some (.slice B' x.length c') := fun X hX => (World.cell?_of_block (hX.block _ (World.block_lt_of_cell? _ _ hcell))).trans hcell
      have hcell' : wr.cell? (ad.add i) = some (.slice B' x.length c') := (World.cell?_of_block (HT.out.below.block _ (World.block_lt_of_cell? _ _ hcell))).trans hcell
      have hAns := answers wr (HG.out.below HT.out.below)
      clear hcell
      have HRD := Aside0.mk hrd
      have HCX := Aside0.mk hc'
      clear hrd hc'
      by_cases h5 : x.length > 500
      · go_wp2_with (go_at_call 9; refine hAns.mono ?_; rintro e W ⟨rfl, hbA⟩)
        go_ret
        exact ⟨rfl, HT.out.below.trans (hbA.mono HT.out.below.size)⟩
      · by_cases h50 : xss.length > 50
        · go_wp2_with (go_at_call 9; refine hAns.mono ?_; rintro e W ⟨rfl, hbA⟩)
          go_ret
          exact ⟨rfl, HT.out.below.trans (hbA.mono HT.out.below.size)⟩
        · clear hAns
          have hcellA := hcellX _ (below_alloc HT.out.below (.cells #[] 5))
          have hx500 : x.length ≤ 500 := by omega
          have hu : u.length ≤ 25000 := by have := HLen.out; rcases H50.out with h | h <;> omega
          have HE := Aside0.mk (show (wr.alloc (.cells #[] 5)).ownsRow wr.heap.size 5 1 (.slice (some ⟨wr.heap.size, 0, none⟩) 0 0) ([] : List Int).length (nums .u8 []) from World.ownsRow_lit (e := 5) wr #[] 0 (Nat.le_refl _) (Nat.zero_le _) rfl)
          have HX2 := Aside0.mk ((HRD.out.below HT.out.below).below (below_alloc (Below.refl _ _) (.cells #[] 5)))
          have HB := Aside0.mk (below_alloc (Below.refl wr.heap.size wr) (.cells #[] 5))
          have HXL := Aside0.mk hcellX
          clear hcellX
          go_wp2_with (at_builtin; refine print_append_row (w0 := wr) wr.heap.size rfl (.tmp 34) (.tmp 38) 24 5 .u8 1 rfl Tryd.underlying24 infoU8 (by decide) (.slice (some ⟨wr.heap.size, 0, none⟩) 0 0) [] (B x) B' x.length c' rfl rfl HE.out (by have := HX2.out; rw [B_length] at this; exact this) HB.out (by simp) (by simp; omega) ?_; intro v1 w1 hown hb1 hg1 hat1; have HO1 := Aside0.mk hown; have HB1 := Aside0.mk hb1; clear hown hb1 hg1 hat1)
          obtain ⟨A1, c1, rfl⟩ := own_slice HO1.out
          have hr1 := own_reads' HO1.out
          rw [List.nil_append] at hr1
          have X1 := feedL x (c := c1) (A := A1) (n := x.length) (HT.out.step HB1.out) rfl hr1 (by omega)
          simp only [List.length_nil, List.nil_append, B_length]
          clear hr1 HE HX2 HB HO1 hcellA hcell'
          go_wp2_with (first
            | (go_at_call 10; refine X1.mono ?_; rintro e W3 ⟨rfl, h3⟩; clear X1; have HT3 := Aside0.mk h3; have hcell3 := HXL.out W3 h3.below; clear h3)
            | (at_builtin; refine appendL rfl (.tmp 41) (.tmp 45) rfl x (A := B') (n := x.length) (c := c') HT3.out rfl rfl rfl (HRD.out.below HT3.out.below) (by omega) ?_; intro v4 W4 h4; have HT4 := Aside0.mk h4; clear h4))
          clear hcell3
          have HZ := Aside0.mk (show (u ++ x).length ≤ 500 * (i + 1) by have := HLen.out; simp; omega)
          have hzz : (u ++ x).length ≤ 30000 := by simp; omega
          obtain ⟨u3, hu3⟩ : ∃ u3, u ++ x = u3 := ⟨_, rfl⟩
          rw [hu3] at HT4 HZ hzz
          clear hu3 HT3 HB1
          go_loopw [4, 6, 8, 9, 10, 11, 12, 13] (fun v4' v6 v8 v9 v10 v11 v12 v13 wr => ∃ (u : List UInt8), Aside0 (LW w w.heap.size u v6 u wr) ∧ Aside0 (u.length ≤ u3.length)) (fun _ v6 _ _ _ _ _ _ _ => sliceLen v6)
          case atStart => exact ⟨u3, HT4, ⟨Nat.le_refl _⟩⟩
          case round =>
            obtain ⟨u5, HT5, HL5⟩ := hrel
            clear HT4
            obtain ⟨A6, c6, e6, hc6⟩ := HT5.out.slice
            subst e6
            have hu5 : u5.length ≤ 30000 := by have := HL5.out; omega
            have hr6 := HT5.out.reads
            rcases index_cases u5 with hix | ⟨r1, r2, rfl, hix⟩
            · have X2 := refNone (HG.out.below HT5.out.below) hr6 rfl hc6 (by omega) hix
              have X3 : ∀ W', LW w w.heap.size u5 (.slice A6 u5.length c6) u5 W' → _ := fun W' h => nextNoL HG.out most h (by omega) hix
              clear hix hr6 hc6
              go_wp2_with (go_at_call 11; refine X2.mono ?_; rintro e W5 ⟨rfl, h5⟩; clear X2; have HT6 := Aside0.mk (HT5.out.step h5.below); clear h5)
              have X4 := X3 _ HT6.out
              clear X3
              go_wp2_with (go_at_call 12; refine X4.mono ?_; rintro e W6 ⟨rfl, h6⟩; clear X4; have HT7 := Aside0.mk h6; clear h6)
              go_roundw
              case rel => exact ⟨i + 1, u5, by omega, by go_num, HT7, ⟨by have := HL5.out; have := HZ.out; omega⟩, ⟨.inr (by omega)⟩⟩
              case measure => simp [intOf]; omega
            · have hz : (r1 ++ 13 :: 10 :: r2).length ≤ 1000000 := by omega
              have hl2 : (r1 ++ 13 :: 10 :: r2).length = r1.length + r2.length + 2 := by simp; omega
              have X2 := refSome (HG.out.below HT5.out.below) hr6 rfl hc6 hz hix
              have X3 : ∀ W', LW w w.heap.size (r1 ++ 13 :: 10 :: r2) (.slice A6 (r1 ++ 13 :: 10 :: r2).length c6) (r1 ++ 13 :: 10 :: r2) W' → _ := fun W' h => nextYesL r1 r2 HG.out most h hz hix
              have hcut := HT5.out.cut
              obtain ⟨n6, hn6⟩ : ∃ n6, (r1 ++ 13 :: 10 :: r2).length = n6 := ⟨_, rfl⟩
              obtain ⟨ad6, hA6, _⟩ := hr6.2.2 (by rw [B_length]; omega)
              subst hA6
              have X5 : ∀ W', LW w w.heap.size r2 (.slice (some ad6) n6 c6) (r1 ++ 13 :: 10 :: r2) W' → LW w w.heap.size r2 (.slice (if c6 = r1.length + 2 then some ad6 else some (ad6.add (r1.length + 2))) r2.length (c6 - (r1.length + 2))) r2 W' := fun W' h => h.cut
              obtain ⟨k, hk⟩ : ∃ k, r1.length + 2 = k := ⟨_, rfl⟩
              have hkn : k ≤ n6 := by omega
              have hk0 : 0 < k := by omega
              have er2 : r2.length = n6 - k := by omega
              rw [hk, er2] at X5
              rw [hn6] at X2 X3 HT5 hc6 hu5
              rw [hk] at X2
              simp only [hn6]
              have HN6 := Aside0.mk hn6
              have HK := Aside0.mk hk
              have HER := Aside0.mk er2
              have HX5 := Aside0.mk X5
              have HX3 := Aside0.mk X3
              clear hix hr6 hcut hn6 hl2 X5 X3 hk er2
              go_wp2_with (go_at_call 11; refine X2.mono ?_; rintro e W5 ⟨rfl, h5⟩; clear X2; have HT6 := Aside0.mk (HT5.out.step h5.below); clear h5)
              have X4 := HX3.out _ HT6.out
              by_cases hov : (r1.length : Int) > max most 0
              ·
                rw [if_pos hov, decide_eq_true hov] at X4
                have HX4 := Aside0.mk X4
                clear X4
                by_cases hck : c6 = k
                · have X6 := HX5.out
                  rw [if_pos hck] at X6
                  obtain rfl : r2 = [] := List.eq_nil_of_length_eq_zero (by have := HER.out; omega)
                  obtain rfl : c6 = n6 := by omega
                  subst hck
                  rw [Nat.sub_self] at X6
                  have HX6 := Aside0.mk X6
                  clear X6 HX5
                  go_wp2_with (first
                    | (go_at_call 12; refine HX4.out.mono ?_; rintro e W6 ⟨rfl, h6⟩; have HT7 := Aside0.mk (HX6.out _ h6); clear h6 HX6 HX4)
                    | (go_at_call 13; refine (heldIs HT7.out.fst).mono ?_; rintro e W7 ⟨rfl, rfl⟩))
                  go_roundw
                  case rel => exact ⟨[], HT7, ⟨by simp⟩⟩
                  case measure => simp [sliceLen]; omega
                · have X6 := HX5.out
                  rw [if_neg hck] at X6
                  have hck' : k < c6 := by omega
                  have HX6 := Aside0.mk X6
                  have HXH : ∀ W, Has w w.heap.size r2 W → _ := fun W h => heldIs h
                  rw [HER.out] at HXH
                  have HH := Aside0.mk HXH
                  clear X6 HX5 HXH
                  go_wp2_with (first
                    | (go_at_call 12; refine HX4.out.mono ?_; rintro e W6 ⟨rfl, h6⟩; have HT7 := Aside0.mk (HX6.out _ h6); clear h6 HX6 HX4)
                    | (go_at_call 13; refine (HH.out _ HT7.out.fst).mono ?_; rintro e W7 ⟨rfl, rfl⟩))
                  go_roundw
                  case rel => exact ⟨r2, HT7, ⟨by have := HL5.out; have := HER.out; have := HN6.out; omega⟩⟩
                  case measure => simp [sliceLen]; omega
              ·
                rw [if_neg hov, decide_eq_false hov] at X4
                have HX4 := Aside0.mk X4
                clear X4
                by_cases hck : c6 = k
                · have X6 := HX5.out
                  rw [if_pos hck] at X6
                  obtain rfl : r2 = [] := List.eq_nil_of_length_eq_zero (by have := HER.out; omega)
                  obtain rfl : c6 = n6 := by omega
                  subst hck
                  rw [Nat.sub_self] at X6
                  have HX6 := Aside0.mk X6
                  clear X6 HX5
                  go_wp2_with (first
                    | (go_at_call 12; refine HX4.out.mono ?_; rintro e W6 ⟨rfl, h6⟩; have HT7 := Aside0.mk (HX6.out _ h6); clear h6 HX6 HX4)
                    | (go_at_call 13; refine (heldIs HT7.out.fst).mono ?_; rintro e W7 ⟨rfl, rfl⟩))
                  go_roundw
                  case rel => exact ⟨[], HT7, ⟨by simp⟩⟩
                  case measure => simp [sliceLen]; omega
                · have X6 := HX5.out
                  rw [if_neg hck] at X6
                  have hck' : k < c6 := by omega
                  have HX6 := Aside0.mk X6
                  have HXH : ∀ W, Has w w.heap.size r2 W → _ := fun W h => heldIs h
                  rw [HER.out] at HXH
                  have HH := Aside0.mk HXH
                  clear X6 HX5 HXH
                  go_wp2_with (first
                    | (go_at_call 12; refine HX4.out.mono ?_; rintro e W6 ⟨rfl, h6⟩; have HT7 := Aside0.mk (HX6.out _ h6); clear h6 HX6 HX4)
                    | (go_at_call 13; refine (HH.out _ HT7.out.fst).mono ?_; rintro e W7 ⟨rfl, rfl⟩))
                  go_roundw
                  case rel => exact ⟨r2, HT7, ⟨by have := HL5.out; have := HER.out; have := HN6.out; omega⟩⟩
                  case measure => simp [sliceLen]; omega
    · obtain ⟨A6, c6, e6, hc6⟩ := HT.out.slice
      subst e6
      clear hc6
      have X1 := (answers wr (HG.out.below HT.out.below))
      go_wp2_with (go_at_call 9; refine X1.mono ?_; rintro e W ⟨rfl, hbA⟩; have HT2 := Aside0.mk (HT.out.step hbA); clear hbA)
      have X2 := heldIs HT2.out.fst
      go_wp2_with (go_at_call 13; refine X2.mono ?_; rintro e W7 ⟨rfl, rfl⟩)
      go_ret
      exact ⟨rfl, HT2.out.below⟩
end Go.Proofs.YthdjeikfbbdehaaDoor.LineFns
