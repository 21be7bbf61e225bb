/- LineNone: the walk. -/
import Derived.Test.YthdjeikfbbdehaaDoorLineRef
namespace Go.Proofs.YthdjeikfbbdehaaDoor.LineFns
open Go.RowKit Go.Proofs.YthdjeikfbbdehaaDoor Go.Proofs.YthdjeikfbbdehaaDoor.Plain Go.Proofs.YthdjeikfbbdehaaDoorW.PrintWords
set_option linter.unusedVariables false
set_option linter.unusedSimpArgs false
theorem index_endsC (y : List UInt8) : Lib.index (y ++ [13, 10]) [13, 10] ≠ -1 := by
  induction y with
  | nil => decide
  | cons b y ih =>
    rw [List.cons_append, index_cons]
    have := index_ge (y ++ [13, 10])
    split
    · omega
    · try rw [if_neg ih]
      omega
theorem Lin.setCell {W : World} {base b : Nat} {v : Value} {u : List UInt8} (h : Lin W base b v u) {p : Addr} (h1 : b ≠ p.block) (h2 : v.ownBlock ≠ some p.block) (x : Value) : Lin (W.setCell p x) base b v u :=
  ⟨h.le, (Below.heap_setCell W p x b h1).trans h.at_, own_move h.own (fun k hk => Below.heap_setCell W p x k (fun e => h2 (by rw [hk, e]))), h.ne⟩
set_option maxHeartbeats 4000000 in
set_option maxRecDepth 100000 in
theorem lineNone {w : World} (A : Option Addr) (n c : Nat) (x : List UInt8) (hr : ReadsInt w .u8 A n (B x)) (hc : n ≤ c) (hy : n ≤ 140737488351232) (most : Int) (hw : (Lit.int .i64 most).wf = true) (hG : Glob w) : Calls Tryd.prog 5 #[.slice A n c, .int .i64 most] w fun e w' => e = .returned (.bool true) ∧ Below w.heap.size w w' := by
  have HG := Aside0.mk hG
  have hAns := answers w hG
  clear hG
  by_cases h5 : n > 500
  · go_enter Tryd.func5, Tryd.ntmps5
    go_wp2_with (go_at_call 9; refine hAns.mono ?_; rintro e W ⟨rfl, hbA⟩)
    go_ret
    exact ⟨rfl, hbA⟩
  · clear hAns
    have HR := Aside0.mk hr
    clear hr
    go_enter Tryd.func5, Tryd.ntmps5
    have X1 := feedNil A n c w
    have X2 := nextNil most w
    have hl : n = x.length := by have := HR.out.1; rw [B_length] at this; omega
    have HN := Aside0.mk hl
    have H5 := Aside0.mk h5
    have HC := Aside0.mk hc
    clear hl hc hy hw
    have HE := Aside0.mk (show (w.alloc (.cells #[] 5)).ownsRow w.heap.size 5 1 (.slice (some ⟨w.heap.size, 0, none⟩) 0 0) ([] : List Int).length (nums .u8 []) from World.ownsRow_lit (e := 5) w #[] 0 (Nat.le_refl _) (Nat.zero_le _) rfl)
    have HX2 := Aside0.mk (HR.out.below (below_alloc (Below.refl _ _) (.cells #[] 5)))
    have HB := Aside0.mk (below_alloc (Below.refl w.heap.size w) (.cells #[] 5))
    have HSz := Aside0.mk (show w.heap.size ≤ (w.alloc (.cells #[] 5)).heap.size by simp)
    go_wp2_with (first
      | (go_at_call 10; refine X1.mono ?_; rintro e W ⟨rfl, rfl⟩; clear X1)
      | (go_at_call 12; refine X2.mono ?_; rintro e W ⟨rfl, rfl⟩; clear X2)
      | (at_builtin; refine print_append_row (w0 := W) W.heap.size rfl (.tmp 31) (.tmp 32) 24 5 .u8 1 rfl Tryd.underlying24 infoU8 (by decide) (.slice (some ⟨W.heap.size, 0, none⟩) 0 0) [] (B x) A n c rfl rfl HE.out HX2.out HB.out HSz.out (by have := HN.out; have := H5.out; simp; omega) ?_; intro v1 w1 hown hb1 hg1 hat1; have HO1 := Aside0.mk hown; have HB1 := Aside0.mk hb1; clear hown hb1 hg1 hat1)
      | (at_builtin; refine print_append_row (w0 := W) W.heap.size rfl (.tmp 33) (.tmp 34) 24 5 .u8 1 rfl Tryd.underlying24 infoU8 (by decide) v1 ([] ++ B x) (B [13, 10]) (some ⟨w1.heap.size, 0, none⟩) 2 2 rfl rfl (HO1.out.alloc _) (litReads w1 [13, 10] (0, 0) (by decide)) (below_alloc HB1.out _) (below_alloc HB1.out _).size (by have := HN.out; have := H5.out; simp; omega) ?_; intro v2 w2 hown hb1 hg1 hat1; have HO2 := Aside0.mk hown; have HB2 := Aside0.mk hb1; clear hown hb1 hg1 hat1))
    have hu0 : ([] ++ B x) ++ B [13, 10] = B (x ++ [13, 10]) := by rw [List.nil_append, B_append]
    obtain ⟨u, hu⟩ : ∃ u, x ++ [13, 10] = u := ⟨_, rfl⟩
    have hul : u.length = x.length + 2 := by rw [← hu]; simp
    have HU := Aside0.mk hu
    have HUL := Aside0.mk hul
    have hown := HO2.out
    rw [hu0, hu] at hown
    obtain ⟨g, cp, rfl, hgW, hg2, hgeq⟩ : ∃ g cp, v2 = .slice (some ⟨g, 0, none⟩) u.length cp ∧ W.heap.size ≤ g ∧ g < w2.heap.size ∧ u.length ≤ cp := by
      rcases hown.2 with ⟨_, e⟩ | ⟨g, cp, cur, e, h1, h2, h3, _⟩
      · rw [B_length] at e; omega
      · rw [B_length] at e h3; exact ⟨g, cp, e, h1, (Array.getElem?_eq_some_iff.1 h2).1, h3⟩
    have HO3 := Aside0.mk hown
    have HGW := Aside0.mk hgW
    have HG2 := Aside0.mk hg2
    have HCP := Aside0.mk hgeq
    clear hu hul hown HO2 HO1 HB1 hu0 HE HX2 HB HSz hgW hg2 hgeq
    have X1 := feed W.heap.size w2.heap.size (.slice none 0 0) [] u (some ⟨g, 0, none⟩) cp (w2.alloc (.cells #[.slice none 0 0] 26)) (Lin.new w2 _ HB2.out.size) ((own_reads' (by rw [B_length]; have := HO3.out; rw [B_length] at this; exact this)).below (litBelow w2 _)) (below_alloc HB2.out _).size (by have := HUL.out; have := HN.out; have := H5.out; simp; omega)
    rw [B_length] at X1
    go_wp2_with (go_at_call 10; refine X1.mono ?_; rintro e W3 ⟨rfl, v3, hL3, ho3, hk3, hb3⟩; clear X1)
    have hown3 : W3.ownsRow W.heap.size 5 1 (.slice (some ⟨g, 0, none⟩) u.length cp) u.length (nums .u8 (B u)) := by
      have h0 := HO3.out
      rw [B_length] at h0
      refine own_move h0 (fun k hk => ?_)
      obtain rfl : g = k := by simpa [Value.ownBlock] using hk
      have h2 := HG2.out
      rw [hk3 g (by simp; omega) (by omega) (by simp [Value.ownBlock])]
      exact Below.heap_alloc w2 _ g h2
    have hne3 : v3.ownBlock ≠ some g := by
      have h2 := HG2.out
      rcases ho3 with h | ⟨g', h, hg'⟩
      · rw [h]; simp [Value.ownBlock]
      · rw [h]; intro e; cases e; simp at hg'; omega
    have HNE := Aside0.mk hne3
    have HB3 := Aside0.mk ((below_alloc HB2.out _).trans hb3)
    have HLX := Aside0.mk hL3
    have HO4 := Aside0.mk hown3
    clear hne3 hb3 hk3 ho3 hL3 hown3
    have HBL := Aside0.mk (show w2.heap.size ≠ g by have := HG2.out; omega)
    obtain ⟨bl, hbl⟩ : ∃ bl, w2.heap.size = bl := ⟨_, rfl⟩
    rw [hbl] at HLX HBL
    simp only [hbl]
    clear hbl
    have hu500 : u.length ≤ 502 := by have := HUL.out; have := HN.out; have := H5.out; omega
    go_loopw [11] (fun v11 wr => ∃ (i : Nat), i ≤ u.length ∧ v11 = .int .i64 i ∧ Aside0 (∃ zs, wr.ownsRow W.heap.size 5 1 (.slice (some ⟨g, 0, none⟩) u.length cp) u.length (nums .u8 zs)) ∧ Aside0 (Lin wr W.heap.size bl v3 ([] ++ u)) ∧ Aside0 (Below W.heap.size W wr)) (fun v11 _ => u.length - (intOf v11).toNat)
    case atStart => exact ⟨0, by omega, rfl, ⟨_, HO4.out⟩, HLX, HB3⟩
    case round =>
      obtain ⟨i, hi, rfl, HOr, HLr, HBr⟩ := hrel
      clear HO4 HLX HB3
      by_cases hlt : i < u.length
      · obtain ⟨zs, hzs⟩ := HOr.out
        obtain ⟨hc0, hf0⟩ := own_at hzs (i : Int) (by omega) (by omega)
        rw [Int.toNat_natCast] at hc0 hf0
        have HZ := Aside0.mk hzs
        clear hzs
        go_wp2
        refine ⟨⟨i + 1, by omega, by go_num, ⟨zs.set i (bits BinOp.xor IntKind.u8 (rd zs ↑i) 255), ?_⟩, ⟨HLr.out.setCell HBL.out HNE.out _⟩, ⟨HBr.out.setCell HGW.out _⟩⟩, by simp [intOf]; omega⟩
        have := (own_store HZ.out (i : Int) (bits BinOp.xor IntKind.u8 (rd zs ↑i) 255)).1
        rw [Int.toNat_natCast] at this
        exact this
      · have hHas := Aside0.mk (show Has W bl u wr from ⟨⟨v3, by have := HLr.out; rw [List.nil_append] at this; exact this⟩, HBr.out⟩)
        have HE := Aside0.mk (show (wr.alloc (.cells #[] 5)).ownsRow wr.heap.size 5 1 (.slice (some ⟨wr.heap.size, 0, none⟩) 0 0) ([] : List Int).length (nums .u8 []) from World.ownsRow_lit (e := 5) wr #[] 0 (Nat.le_refl _) (Nat.zero_le _) rfl)
        have HX2 := Aside0.mk ((HR.out.below HBr.out).below (below_alloc (Below.refl _ _) (.cells #[] 5)))
        have HB := Aside0.mk (below_alloc (Below.refl wr.heap.size wr) (.cells #[] 5))
        clear HOr HLr
        go_wp2_with (first
          | (at_builtin; refine print_append_row (w0 := wr) wr.heap.size rfl (.tmp 55) (.tmp 56) 24 5 .u8 1 rfl Tryd.underlying24 infoU8 (by decide) (.slice (some ⟨wr.heap.size, 0, none⟩) 0 0) [] (B x) A n c rfl rfl HE.out HX2.out HB.out HB.out.size (by have := HN.out; have := H5.out; simp; omega) ?_; intro v5 w5 hown hb1 hg1 hat1; have HO1 := Aside0.mk hown; have HB1 := Aside0.mk hb1; clear hown hb1 hg1 hat1)
          | (at_builtin; refine print_append_row (w0 := wr) wr.heap.size rfl (.tmp 57) (.tmp 58) 24 5 .u8 1 rfl Tryd.underlying24 infoU8 (by decide) v5 ([] ++ B x) (B [13, 10]) (some ⟨w5.heap.size, 0, none⟩) 2 2 rfl rfl (HO1.out.alloc _) (litReads w5 [13, 10] (0, 0) (by decide)) (below_alloc HB1.out _) (below_alloc HB1.out _).size (by have := HN.out; have := H5.out; simp; omega) ?_; intro v6 w6 hown hb1 hg1 hat1; have HO2 := Aside0.mk hown; have HB2 := Aside0.mk hb1; clear hown hb1 hg1 hat1))
        have hu0 : ([] ++ B x) ++ B [13, 10] = B u := by rw [List.nil_append, B_append, HU.out]
        have hown := HO2.out
        rw [hu0] at hown
        obtain ⟨A6, c6, rfl⟩ := own_slice hown
        have hr6 := own_reads' hown
        rw [B_length] at hr6
        have hc6 : u.length ≤ c6 := by
          rcases hown.2 with ⟨e, _⟩ | ⟨g', cap, cur, e, h1, h2, h3, _⟩
          · simp only [Value.slice.injEq] at e; have := HUL.out; have := e.2.1; rw [B_length] at this; omega
          · simp only [Value.slice.injEq] at e; rw [B_length] at h3; omega
        have HR6 := Aside0.mk hr6
        have HC6 := Aside0.mk hc6
        have hHas6 := Aside0.mk (show Has W bl u w6 from hHas.out.step HB2.out)
        rw [B_length]
        clear hown hr6 hc6 HO2 HO1 HB1 HE HX2 HB hHas
        rcases index_cases u with hix | ⟨a, r, har, hix⟩
        · exfalso
          have hu2 := HU.out
          subst hu2
          exact index_endsC x hix
        · have hlen : a.length ≤ 500 := by
            have := congrArg List.length har
            simp at this
            omega
          have HA := Aside0.mk hlen
          have HZ := Aside0.mk (show (a ++ 13 :: 10 :: r).length ≤ 1000000 by rw [← har]; omega)
          have HIX := Aside0.mk hix
          have HAR := Aside0.mk har
          have X3 := refSome (c := c6) (A := A6) (n := u.length) (a := a) (r := r) (HG.out.below hHas6.out.below) (by have := HR6.out; rw [← har, B_length]; exact this) (by rw [har]) HC6.out HZ.out hix
          have X4 : ∀ W', Has W bl u W' → _ := fun W' h => nextYes a r HG.out 1000 (by rw [← har]; exact h) HZ.out hix
          rw [if_neg (by omega), decide_eq_false (by omega)] at X4
          clear hlen hix har
          go_wp2_with (go_at_call 11; refine X3.mono ?_; rintro e W7 ⟨rfl, hd7⟩; clear X3; have HA7 := Aside0.mk (hHas6.out.step hd7.below); clear hd7)
          have X5 := X4 _ HA7.out
          clear X4
          go_wp2_with (go_at_call 12; refine X5.mono ?_; rintro e W8 ⟨rfl, h8⟩; clear X5; have HA8 := Aside0.mk h8; clear h8)
          have X6 := answersOf HG.out HA8.out
          go_wp2_with (go_at_call 9; refine X6.mono ?_; rintro e W9 ⟨rfl, h9⟩; clear X6; have HA9 := Aside0.mk h9; clear h9)
          have X7 := heldNil W9
          go_wp2_with (go_at_call 13; refine X7.mono ?_; rintro e W10 ⟨rfl, rfl⟩; clear X7)
          go_ret
          exact ⟨rfl, HA9.out.below⟩
end Go.Proofs.YthdjeikfbbdehaaDoor.LineFns
