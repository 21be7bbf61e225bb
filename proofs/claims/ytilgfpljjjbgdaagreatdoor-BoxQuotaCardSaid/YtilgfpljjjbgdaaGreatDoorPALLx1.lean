-- printed by a program of this session out of the translation. Not trusted: Lean checks it.
import Derived.Test.YtilgfpljjjbgdaaGreatDoorPALLx0
namespace Go.Proofs.YtilgfpljjjbgdaaGreatDoor.PALL
open Go.RowKit Go.Proofs.YtilgfpljjjbgdaaGreatDoorW.PrintWords Go.Proofs.YtilgfpljjjbgdaaGreatDoorW.PrintLast Go.Proofs.YtilgfpljjjbgdaaGreatDoorW.PrintMore
attribute [local go_sem] max2_int min2_int max_two min_two max_three min_three max_four min_four   -- for this text's walks alone
set_option linter.unusedVariables false
set_option linter.unusedSimpArgs false

/-! ### strings_Cut: given -/
def strings_Cut.f (a0 a1 : ByteArray) : Option (ByteArray × ByteArray × Bool) :=
  if a0.size < 4294967281 then some (⟨(Lib.cut a0.data.toList a1.data.toList).1.toArray⟩, ⟨(Lib.cut a0.data.toList a1.data.toList).2.1.toArray⟩, (Lib.cut a0.data.toList a1.data.toList).2.2) else none
theorem strings_Cut.calls (a0 a1 : ByteArray) (r1 r2 : ByteArray) (r3 : Bool) (w : World) (hG : GlobM w) (h : strings_Cut.f a0 a1 = some (r1, r2, r3)) :
    Calls Tryz.prog 83 #[.string a0, .string a1] w fun e w' => e = .returned (.tuple #[.string r1, .string r2, .bool r3]) ∧ Drawn0 w w' := by
  unfold strings_Cut.f at h
  by_cases hs : a0.size < 4294967281
  · rw [if_pos hs] at h
    simp only [Option.some.injEq, Prod.mk.injEq] at h
    obtain ⟨rfl, rfl, rfl⟩ := h
    obtain ⟨m, hm⟩ := hG.maxLen
    exact (Tryz.strings_Cut a0 a1 m w hs hm).mono fun e w' ⟨he, hw⟩ => ⟨he, ⟨hw⟩⟩
  · rw [if_neg hs] at h
    cases h

/-! ### addr_plain: function 133 -/
def addr_plain.f (a0 : Int) : Option (Bool) := if a0 ≥ 97 then (if a0 ≤ 122 then (some true) else (if a0 ≥ 65 then (if a0 ≤ 90 then (some true) else (if a0 ≥ 48 then (some (decide (a0 ≤ 57))) else (some false))) else (if a0 ≥ 48 then (some (decide (a0 ≤ 57))) else (some false)))) else (if a0 ≥ 65 then (if a0 ≤ 90 then (some true) else (if a0 ≥ 48 then (some (decide (a0 ≤ 57))) else (some false))) else (if a0 ≥ 48 then (some (decide (a0 ≤ 57))) else (some false)))
set_option maxHeartbeats 8000000 in
set_option maxRecDepth 100000 in
theorem addr_plain.calls (a0 : Int) (r : Bool) (w : World) (hG : GlobM w) (h : addr_plain.f a0 = some r) :
    Calls Tryz.prog 133 #[.int .i32 a0] w fun e w' => e = .returned (.bool r) ∧ Drawn0 w w' := by
  have H : (if a0 ≥ 97 then (if a0 ≤ 122 then (some true) else (if a0 ≥ 65 then (if a0 ≤ 90 then (some true) else (if a0 ≥ 48 then (some (decide (a0 ≤ 57))) else (some false))) else (if a0 ≥ 48 then (some (decide (a0 ≤ 57))) else (some false)))) else (if a0 ≥ 65 then (if a0 ≤ 90 then (some true) else (if a0 ≥ 48 then (some (decide (a0 ≤ 57))) else (some false))) else (if a0 ≥ 48 then (some (decide (a0 ≤ 57))) else (some false)))) = some r := h
  clear h
  by_cases c2 : a0 ≥ 97
  · rw [if_pos c2] at H
    have c2b0 : decide (97 ≤ a0) = true := decide_eq_true c2
    clear c2
    by_cases c3 : a0 ≤ 122
    · rw [if_pos c3] at H
      have c3b0 : decide (a0 ≤ 122) = true := decide_eq_true c3
      clear c3
      obtain rfl := Option.some.inj H
      go_enter Tryz.func133, Tryz.ntmps133
      go_wp2
      go_ret
      exact ⟨by first | rfl | (simp; done) | (simp [*]; done), by repeat (first | exact Drawn0.refl _ | apply Drawn0.step)⟩
    · rw [if_neg c3] at H
      have c3b0 : decide (a0 ≤ 122) = false := decide_eq_false c3
      clear c3
      by_cases c4 : a0 ≥ 65
      · rw [if_pos c4] at H
        have c4b0 : decide (65 ≤ a0) = true := decide_eq_true c4
        clear c4
        by_cases c5 : a0 ≤ 90
        · rw [if_pos c5] at H
          have c5b0 : decide (a0 ≤ 90) = true := decide_eq_true c5
          clear c5
          obtain rfl := Option.some.inj H
          go_enter Tryz.func133, Tryz.ntmps133
          go_wp2
          go_ret
          exact ⟨by first | rfl | (simp; done) | (simp [*]; done), by repeat (first | exact Drawn0.refl _ | apply Drawn0.step)⟩
        · rw [if_neg c5] at H
          have c5b0 : decide (a0 ≤ 90) = false := decide_eq_false c5
          clear c5
          by_cases c6 : a0 ≥ 48
          · rw [if_pos c6] at H
            have c6b0 : decide (48 ≤ a0) = true := decide_eq_true c6
            clear c6
            obtain rfl := Option.some.inj H
            go_enter Tryz.func133, Tryz.ntmps133
            go_wp2
            go_ret
            exact ⟨by first | rfl | (simp; done) | (simp [*]; done), by repeat (first | exact Drawn0.refl _ | apply Drawn0.step)⟩
          · rw [if_neg c6] at H
            have c6b0 : decide (48 ≤ a0) = false := decide_eq_false c6
            clear c6
            obtain rfl := Option.some.inj H
            go_enter Tryz.func133, Tryz.ntmps133
            go_wp2
            go_ret
            exact ⟨by first | rfl | (simp; done) | (simp [*]; done), by repeat (first | exact Drawn0.refl _ | apply Drawn0.step)⟩
      · rw [if_neg c4] at H
        have c4b0 : decide (65 ≤ a0) = false := decide_eq_false c4
        clear c4
        by_cases c7 : a0 ≥ 48
        · rw [if_pos c7] at H
          have c7b0 : decide (48 ≤ a0) = true := decide_eq_true c7
          clear c7
          obtain rfl := Option.some.inj H
          go_enter Tryz.func133, Tryz.ntmps133
          go_wp2
          go_ret
          exact ⟨by first | rfl | (simp; done) | (simp [*]; done), by repeat (first | exact Drawn0.refl _ | apply Drawn0.step)⟩
        · rw [if_neg c7] at H
          have c7b0 : decide (48 ≤ a0) = false := decide_eq_false c7
          clear c7
          obtain rfl := Option.some.inj H
          go_enter Tryz.func133, Tryz.ntmps133
          go_wp2
          go_ret
          exact ⟨by first | rfl | (simp; done) | (simp [*]; done), by repeat (first | exact Drawn0.refl _ | apply Drawn0.step)⟩
  · rw [if_neg c2] at H
    have c2b0 : decide (97 ≤ a0) = false := decide_eq_false c2
    clear c2
    by_cases c8 : a0 ≥ 65
    · rw [if_pos c8] at H
      have c8b0 : decide (65 ≤ a0) = true := decide_eq_true c8
      clear c8
      by_cases c9 : a0 ≤ 90
      · rw [if_pos c9] at H
        have c9b0 : decide (a0 ≤ 90) = true := decide_eq_true c9
        clear c9
        obtain rfl := Option.some.inj H
        go_enter Tryz.func133, Tryz.ntmps133
        go_wp2
        go_ret
        exact ⟨by first | rfl | (simp; done) | (simp [*]; done), by repeat (first | exact Drawn0.refl _ | apply Drawn0.step)⟩
      · rw [if_neg c9] at H
        have c9b0 : decide (a0 ≤ 90) = false := decide_eq_false c9
        clear c9
        by_cases c10 : a0 ≥ 48
        · rw [if_pos c10] at H
          have c10b0 : decide (48 ≤ a0) = true := decide_eq_true c10
          clear c10
          obtain rfl := Option.some.inj H
          go_enter Tryz.func133, Tryz.ntmps133
          go_wp2
          go_ret
          exact ⟨by first | rfl | (simp; done) | (simp [*]; done), by repeat (first | exact Drawn0.refl _ | apply Drawn0.step)⟩
        · rw [if_neg c10] at H
          have c10b0 : decide (48 ≤ a0) = false := decide_eq_false c10
          clear c10
          obtain rfl := Option.some.inj H
          go_enter Tryz.func133, Tryz.ntmps133
          go_wp2
          go_ret
          exact ⟨by first | rfl | (simp; done) | (simp [*]; done), by repeat (first | exact Drawn0.refl _ | apply Drawn0.step)⟩
    · rw [if_neg c8] at H
      have c8b0 : decide (65 ≤ a0) = false := decide_eq_false c8
      clear c8
      by_cases c11 : a0 ≥ 48
      · rw [if_pos c11] at H
        have c11b0 : decide (48 ≤ a0) = true := decide_eq_true c11
        clear c11
        obtain rfl := Option.some.inj H
        go_enter Tryz.func133, Tryz.ntmps133
        go_wp2
        go_ret
        exact ⟨by first | rfl | (simp; done) | (simp [*]; done), by repeat (first | exact Drawn0.refl _ | apply Drawn0.step)⟩
      · rw [if_neg c11] at H
        have c11b0 : decide (48 ≤ a0) = false := decide_eq_false c11
        clear c11
        obtain rfl := Option.some.inj H
        go_enter Tryz.func133, Tryz.ntmps133
        go_wp2
        go_ret
        exact ⟨by first | rfl | (simp; done) | (simp [*]; done), by repeat (first | exact Drawn0.refl _ | apply Drawn0.step)⟩

/-! ### strings_IndexRune: given, at an ASCII rune, and at a rune beyond in an ASCII text -/
def strings_IndexRune.f (a0 : ByteArray) (a1 : Int) : Option Int :=
  if 0 ≤ a1 ∧ a1 < 128 then some (Lib.indexByte a0.data.toList a1.toNat.toUInt8) else if (∀ b ∈ a0.data.toList, b.toNat < 128) ∧ 128 ≤ a1 then some (-1) else none
theorem encode_last (r : Int) (h : 128 ≤ r) : ∃ n x, (Utf8.encode r).size = n + 1 ∧ n ≤ 3 ∧ (Utf8.encode r)[n]? = some x ∧ 128 ≤ x.toNat := by
  obtain ⟨c, hc, hc2⟩ : ∃ c : Nat, c = (if Utf8.valid r then r.toNat else Utf8.runeError) ∧ 128 ≤ c := by
    refine ⟨_, rfl, ?_⟩
    split
    · omega
    · decide
  have key : ∀ m : Nat, 128 ≤ (UInt8.ofNat (128 + m % 64)).toNat := fun m => by
    rw [UInt8.toNat_ofNat']
    omega
  simp only [Utf8.encode, ← hc]
  rw [if_neg (by omega)]
  by_cases h1 : c < 0x800
  · rw [if_pos h1]
    exact ⟨1, _, rfl, by omega, rfl, key _⟩
  · rw [if_neg h1]
    by_cases h2 : c < 0x10000
    · rw [if_pos h2]
      exact ⟨2, _, rfl, by omega, rfl, key _⟩
    · rw [if_neg h2]
      exact ⟨3, _, rfl, by omega, rfl, key _⟩
theorem indexByte_high (l : List UInt8) (c : UInt8) (hl : ∀ b ∈ l, b.toNat < 128) (hc : 128 ≤ c.toNat) : Lib.indexByte l c = -1 := by
  induction l with
  | nil => rfl
  | cons a l ih =>
    have ha := hl a (List.mem_cons_self ..)
    have hne : ¬ a = c := fun h => by subst h; omega
    have := ih (fun b hb => hl b (List.mem_cons_of_mem _ hb))
    simp [Lib.indexByte, hne, this]
set_option maxHeartbeats 4000000 in
set_option maxRecDepth 1000000 in
theorem strings_IndexRune.calls (a0 : ByteArray) (a1 : Int) (r : Int) (w : World) (hG : GlobM w) (h : strings_IndexRune.f a0 a1 = some r) :
    Calls Tryz.prog 152 #[.string a0, .int .i32 a1] w fun e w' => e = .returned (.int .i64 r) ∧ Below w.heap.size w w' := by
  unfold strings_IndexRune.f at h
  by_cases h1 : 0 ≤ a1 ∧ a1 < 128
  · rw [if_pos h1] at h
    obtain rfl := Option.some.inj h
    exact (Tryz.strings_IndexRune_ascii a0 a1 w h1.1 h1.2).mono fun e w' ⟨he, hw⟩ => ⟨he, by rw [hw]; exact Below.refl _ _⟩
  · rw [if_neg h1] at h
    by_cases h2 : (∀ b ∈ a0.data.toList, b.toNat < 128) ∧ 128 ≤ a1
    · rw [if_pos h2] at h
      obtain rfl := Option.some.inj h
      clear h h1
      obtain ⟨hl, ha⟩ := h2
      have hasc : ∀ p (hp : p < a0.size), (a0[p]'hp).toNat < 128 := fun p hp => hl _ (by
        rw [Array.mem_toList_iff]; exact Array.getElem_mem hp)
      obtain ⟨n, x, hn, hn3, hx, hx8⟩ := encode_last a1 ha
      have kc := run_convert_int_string (P := Tryz.prog) w 21 9 .i32 a1 (by rw [Tryz.underlying21]; rfl) Tryz.underlying9
      obtain ⟨rs, hrs⟩ : ∃ rs, Utf8.encode a1 = rs := ⟨_, rfl⟩
      rw [hrs] at kc hn hx
      clear hrs
      obtain ⟨hnl, hxe⟩ := getElem?_eq_some_iff.1 hx
      have A := Aside0.mk hasc
      have E := Aside0.mk hx
      have HL := Aside0.mk hl
      clear hasc hx hl
      by_cases he : a1 = 65533
      · subst he
        go_enter Tryz.func152, Tryz.ntmps152
        go_wp2
        go_loopw [] (fun wr => ∃ pos : Nat, wr.heap[w.heap.size]? = some (.stringIter a0 pos) ∧ Below w.heap.size w wr) (fun wr => a0.size - wr.iterPos w.heap.size)
        case atStart =>
          exact ⟨0, World.iter_heap w a0 0, (Below.refl _ w).alloc (Nat.le_refl _) _⟩
        case round =>
          obtain ⟨pos, hit, hb⟩ := hrel
          by_cases hp : pos < a0.size
          · have hnx : ∀ ty, (Instr.next (.pointer (some ⟨w.heap.size, 0, none⟩)) true ty).run Tryz.prog wr = _ := fun ty => Lib.run_next_ascii_at wr w.heap.size a0 pos ty hit hp (A.out pos hp)
            have hit2 := Lib.iterAt_heap wr w.heap.size a0 pos (pos + 1) hit
            have hb2 := Lib.below_iterAt hb (k := w.heap.size) (by omega) a0 (pos + 1)
            have hv := A.out pos hp
            go_wp2
            go_roundw
            case rel => exact ⟨pos + 1, hit2, hb2⟩
            case measure =>
              simp only [World.iterPos, hit2, hit]
              omega
          · have hnx : ∀ ty, (Instr.next (.pointer (some ⟨w.heap.size, 0, none⟩)) true ty).run Tryz.prog wr = _ := fun ty => Lib.run_next_end_at wr w.heap.size a0 pos ty hit hp
            go_wp2
            go_ret
            exact ⟨rfl, hb⟩
      · by_cases hv : Lib.validRune a1 = true
        · go_enter Tryz.func152, Tryz.ntmps152
          go_wp2_with (go_at_call 164; refine (Tryz.utf8_ValidRune _ _).mono ?_; rintro e w' ⟨rfl, hw⟩; rw [hw, hv])
          obtain rfl := hw
          go_step3
          go_wp2
          by_cases hlt : n < a0.size
          · have hy := A.out n hlt
            go_loopw [9] (fun v9 wr => v9 = .int .i64 n ∧ wr = w') (fun _ _ => 0)
            case atStart => exact ⟨by go_num, rfl⟩
            case round =>
              obtain ⟨rfl, rfl⟩ := hrel
              go_wp2
              go_step3
              go_wp2
              go_quiet (fail)
              have hs1 : IntKind.i64.wrap ((n : Int) + 1) = (n : Int) + 1 := IntWalk.i64_in _ ⟨by omega, by omega⟩
              go_wp2
              obtain ⟨W2, hW2⟩ : ∃ W2, W2 = wr.drewN nq := ⟨_, rfl⟩
              rw [← hW2]
              have HB2 := Aside0.mk (show Below wr.heap.size wr W2 by rw [hW2]; apply pw_below_drewN; exact Below.refl _ _)
              clear hW2
              have ksl : ∀ W, (Instr.slice 9 (.string a0) (some (.int .i64 ((n : Int) + 1))) none none).run Tryz.prog W = .ok (.string (a0.extract (n + 1) a0.size)) W := fun W => by
                rw [run_slice_string_l W _ a0 Tryz.underlying9 .i64 _ (by omega) (by omega)]
                rfl
              have kix : ∀ W, (Instr.index 9 (.string rs) (.int .i64 (n : Int))).run Tryz.prog W = .ok (.int .u8 (x.toNat : Int)) W := fun W => by
                rw [run_index_string W _ rs .i64 _ Tryz.underlying9, dif_pos ⟨by omega, by omega⟩]
                simp only [Int.toNat_natCast, hxe]
              have kib : ∀ W, Calls Tryz.prog 163 #[.string (a0.extract (n + 1) a0.size), .int .u8 (x.toNat : Int)] W fun e w' => e = .returned (.int .i64 (-1)) ∧ w' = W := fun W => by
                have h1 := Tryz.strings_IndexByte (a0.extract (n + 1) a0.size) (x.toNat : Int) W
                rw [indexByte_high _ _ (fun b hb => HL.out b (by
                  rw [ByteArray.data_extract, Array.toList_extract] at hb
                  exact List.mem_of_mem_drop (List.mem_of_mem_take hb))) (by simpa using hx8)] at h1
                exact h1
              go_quiet ((go_at_call 163; go_must (exact Calls.quiet_of_same (kib _))))
              go_wp2
              simp +zetaDelta only [Exit.noGoto_ret, Exit.inBlock, Exit.then]
              refine bodyPost_ret (results_tmp rfl _ _ _) rfl ?_
              exact ⟨rfl, by apply pw_below_drewN; exact HB2.out⟩
          · go_loopw [9] (fun v9 wr => v9 = .int .i64 n ∧ wr = w') (fun _ _ => 0)
            case atStart => exact ⟨by go_num, rfl⟩
            case round =>
              obtain ⟨rfl, rfl⟩ := hrel
              go_wp2
              simp only [Exit.noGoto_ret, Exit.inBlock, Exit.then]
              refine bodyPost_ret (results_tmp rfl _ _ _) rfl ?_
              exact ⟨rfl, Below.refl _ _⟩
        · go_enter Tryz.func152, Tryz.ntmps152
          go_wp2_with (go_at_call 164; refine (Tryz.utf8_ValidRune _ _).mono ?_; rintro e w' ⟨rfl, hw⟩; rw [hw, eq_false_of_ne_true hv])
          go_ret
          exact ⟨rfl, Below.refl _ _⟩
    · rw [if_neg h2] at h
      cases h

/-! ### strings_ContainsRune: function 134 -/
def strings_ContainsRune.f (a0 : ByteArray) (a1 : Int) : Option (Bool) := (strings_IndexRune.f a0 a1).bind fun t101 => (some (decide (t101 ≥ 0)))
set_option maxHeartbeats 8000000 in
set_option maxRecDepth 100000 in
theorem strings_ContainsRune.calls (a0 : ByteArray) (a1 : Int) (r : Bool) (w : World) (hG : GlobM w) (h : strings_ContainsRune.f a0 a1 = some r) :
    Calls Tryz.prog 134 #[.string a0, .int .i32 a1] w fun e w' => e = .returned (.bool r) ∧ Below w.heap.size w w' := by
  have HB := Aside0.mk (Below.refl w.heap.size w)
  have H : ((strings_IndexRune.f a0 a1).bind fun t101 => (some (decide (t101 ≥ 0)))) = some r := h
  clear h
  replace H := Option.bind_eq_some_iff.mp H
  obtain ⟨t101, A30, H⟩ := H
  replace H : (some (decide (t101 ≥ 0))) = some r := H
  have A3 := Aside0.mk A30
  clear A30
  obtain rfl := Option.some.inj H
  go_enter Tryz.func134, Tryz.ntmps134
  go_wp2_with (first | ((with_reducible refine gate_callee (f := 152) rfl ?_); refine goesL_ (some 7) rfl rfl Tryz.func152 (by kernel_rfl) rfl #[.string a0, .int .i32 a1] rfl (by (try simp only [List.map_toArray, List.map_cons, List.map_nil]); first | done | rfl | (simp only [List.length_drop, List.length_take]; rfl)) ?_; (with_reducible refine (strings_IndexRune.calls a0 a1 t101 _ ?side1 A3.out).mono ?_); (case side1 => first | exact hG | exact GlobM.below hG (by repeat (first | (with_reducible first | exact HB.out | apply below_alloc | apply pw_below_drewN | apply below_drew1) | exact HB.out))); rintro e w4 ⟨rfl, hb⟩; refine ⟨_, rfl, ?_⟩; have n0_ := Aside0.mk (below_step (by repeat (first | (with_reducible first | exact HB.out | apply below_alloc | apply pw_below_drewN | apply below_drew1) | exact HB.out)) hb); clear HB; have HB := n0_; clear n0_; (try clear hb); (try clear hb2); (try clear hk); (try clear hi)))
  go_ret
  exact ⟨by first | rfl | (simp [errW_none, errW_some] <;> rfl) | (simp [*, errW_none, errW_some] <;> rfl), by repeat (first | (with_reducible first | exact HB.out | apply below_alloc | apply pw_below_drewN | apply below_drew1) | exact HB.out)⟩

/-! ### addr_only: given -/
def plainB (b : UInt8) : Bool := decide (97 ≤ b.toNat ∧ b.toNat ≤ 122 ∨ 65 ≤ b.toNat ∧ b.toNat ≤ 90 ∨ 48 ≤ b.toNat ∧ b.toNat ≤ 57)
def okB (o : List UInt8) (b : UInt8) : Bool := plainB b || o.contains b
def addr_only.f (a0 a1 : ByteArray) : Option Bool :=
  if a0.size ≤ 1000000 ∧ ∀ b ∈ a1.data.toList, b.toNat < 128 then some (a0.data.toList.all (okB a1.data.toList)) else none
theorem addr_plain_val (c : Int) : addr_plain.f c = some (decide (97 ≤ c ∧ c ≤ 122 ∨ 65 ≤ c ∧ c ≤ 90 ∨ 48 ≤ c ∧ c ≤ 57)) := by
  unfold addr_plain.f
  repeat' split
  all_goals (simp only [Option.some.injEq, decide_eq_decide, Bool.true_eq, Bool.false_eq, decide_eq_true_eq, decide_eq_false_iff_not]; omega)
theorem only_step (a0 a1 : ByteArray) (h1 : ∀ b ∈ a1.data.toList, b.toNat < 128) (pos : Nat) (hp : pos < a0.size) :
    ∃ (c wd : Nat) (pl co : Bool), Utf8.decode a0 pos = (c, wd) ∧ addr_plain.f c = some pl ∧ strings_ContainsRune.f a1 c = some co ∧ (pl || co) = okB a1.data.toList (a0[pos]'hp) ∧ ((pl || co) = true → wd = 1) ∧ 1 ≤ wd ∧ c ≤ 2147483647 := by
  have hle := decode_le a0 pos
  by_cases ha : (a0[pos]'hp).toNat < 128
  · rw [decode_ascii a0 pos hp ha] at hle ⊢
    refine ⟨_, _, _, decide (0 ≤ Lib.indexByte a1.data.toList (a0[pos]'hp)), rfl, addr_plain_val _, ?_, ?_, fun _ => rfl, Nat.le_refl _, hle⟩
    · simp only [strings_ContainsRune.f, strings_IndexRune.f]
      rw [if_pos ⟨by omega, by omega⟩]
      simp
    · rw [okB, plainB, Lib.contains_iff_indexByte]
      congr 1
      simp only [decide_eq_decide]
      omega
  · have hd := decode_high a0 pos hp (by omega)
    have hd1 := hd.1
    have e0 : ¬ (97 ≤ ((Utf8.decode a0 pos).1 : Int) ∧ ((Utf8.decode a0 pos).1 : Int) ≤ 122 ∨ 65 ≤ ((Utf8.decode a0 pos).1 : Int) ∧ ((Utf8.decode a0 pos).1 : Int) ≤ 90 ∨ 48 ≤ ((Utf8.decode a0 pos).1 : Int) ∧ ((Utf8.decode a0 pos).1 : Int) ≤ 57) := by omega
    have e3 : ¬ (0 ≤ ((Utf8.decode a0 pos).1 : Int) ∧ ((Utf8.decode a0 pos).1 : Int) < 128) := by omega
    have e4 : 128 ≤ ((Utf8.decode a0 pos).1 : Int) := by omega
    refine ⟨(Utf8.decode a0 pos).1, (Utf8.decode a0 pos).2, false, false, rfl, ?_, ?_, ?_, fun h => by simp at h, hd.2, hle⟩
    · rw [addr_plain_val, decide_eq_false e0]
    · simp only [strings_ContainsRune.f, strings_IndexRune.f]
      rw [if_neg e3, if_pos ⟨h1, e4⟩]
      rfl
    · have e1 : plainB (a0[pos]'hp) = false := by
        simp only [plainB, decide_eq_false_iff_not]
        omega
      have e2 : a1.data.toList.contains (a0[pos]'hp) = false := by
        cases h : a1.data.toList.contains (a0[pos]'hp) with
        | false => rfl
        | true => exact absurd (h1 _ (by simpa using h)) ha
      rw [okB, e1, e2]
theorem all_stop {l : List UInt8} {p : UInt8 → Bool} {k : Nat} (hk : k < l.length) (h : p (l[k]'hk) = false) : l.all p = false := by
  cases h2 : l.all p with
  | false => rfl
  | true =>
    rw [List.all_eq_true] at h2
    rw [h2 _ (List.getElem_mem hk)] at h
    cases h
theorem all_through {l : List UInt8} {p : UInt8 → Bool} (h : ∀ (k : Nat) (hk : k < l.length), p (l[k]'hk) = true) : l.all p = true := by
  rw [List.all_eq_true]
  intro x hx
  obtain ⟨k, hk, rfl⟩ := List.getElem_of_mem hx
  exact h k hk
set_option maxHeartbeats 4000000 in
set_option maxRecDepth 1000000 in
theorem addr_only.calls (a0 a1 : ByteArray) (r : Bool) (w : World) (hG : GlobM w) (h : addr_only.f a0 a1 = some r) :
    Calls Tryz.prog 110 #[.string a0, .string a1] w fun e w' => e = .returned (.bool r) ∧ Below w.heap.size w w' := by
  unfold addr_only.f at h
  by_cases hc : a0.size ≤ 1000000 ∧ ∀ b ∈ a1.data.toList, b.toNat < 128
  · rw [if_pos hc] at h
    have HR := Aside0.mk (Option.some.inj h)
    clear h
    obtain ⟨hz, hl⟩ := hc
    have HS := Aside0.mk (only_step a0 a1 hl)
    clear hl
    go_enter Tryz.func110, Tryz.ntmps110
    go_wp2
    go_loopw [] (fun wr => ∃ pos : Nat, pos ≤ a0.size ∧ wr.heap[w.heap.size]? = some (.stringIter a0 pos) ∧ Below w.heap.size w wr ∧ Aside0 (∀ (k : Nat) (hk : k < a0.size), k < pos → okB a1.data.toList (a0[k]'hk) = true)) (fun wr => a0.size - wr.iterPos w.heap.size)
    case atStart =>
      exact ⟨0, by omega, World.iter_heap w a0 0, (Below.refl _ w).alloc (Nat.le_refl _) _, ⟨fun k hk h => by omega⟩⟩
    case round =>
      obtain ⟨pos, hpl, hit, hb, HA⟩ := hrel
      by_cases hp : pos < a0.size
      · obtain ⟨c, wd, pl, co, hdec, hplain, hcont, hok, hwd, hwd1, hc2⟩ := HS.out pos hp
        have hnx : ∀ ty, (Instr.next (.pointer (some ⟨w.heap.size, 0, none⟩)) true ty).run Tryz.prog wr = .ok (.tuple #[.bool true, .int .i64 pos, .int .i32 c]) (wr.iterAt w.heap.size a0 (pos + wd)) := fun ty => by
          have := Lib.run_next_any_at (P := Tryz.prog) wr w.heap.size a0 pos ty hit hp
          rw [hdec] at this
          exact this
        have hit2 := Lib.iterAt_heap wr w.heap.size a0 pos (pos + wd) hit
        have hb2 := Lib.below_iterAt hb (k := w.heap.size) (by omega) a0 (pos + wd)
        have hG2 := hG.below hb2
        have HOK := Aside0.mk hok
        have HWD := Aside0.mk hwd
        clear hok hwd
        obtain ⟨W1, hW1⟩ : ∃ W1, W1 = wr.iterAt w.heap.size a0 (pos + wd) := ⟨_, rfl⟩
        rw [← hW1] at hnx hit2 hb2 hG2
        have HMs : World.iterPos wr w.heap.size = pos := by simp only [World.iterPos, hit]
        clear hW1 hit
        have HPL := Aside0.mk hplain
        clear hplain
        cases pl with
        | true =>
          go_wp2_with (go_at_call 133; refine (addr_plain.calls _ true _ hG2 HPL.out).mono ?_; rintro e w' ⟨rfl, n1, rfl⟩)
          have hwd' : wd = 1 := HWD.out (by simp)
          subst hwd'
          have HN : Aside0 (∀ (k : Nat) (hk : k < a0.size), k < pos + 1 → okB a1.data.toList (a0[k]'hk) = true) := ⟨fun k hk hlt => by
            by_cases hkp : k = pos
            · subst hkp
              rw [← HOK.out]
              simp
            · exact HA.out k hk (by omega)⟩
          go_roundw
          case rel => exact ⟨pos + 1, by omega, hit2, by apply pw_below_drewN; exact hb2, HN⟩
          case measure =>
            have e : (W1.drewN n1).iterPos w.heap.size = pos + 1 := by
              have e1 : (W1.drewN n1).heap[w.heap.size]? = some (.stringIter a0 (pos + 1)) := hit2
              simp only [World.iterPos, e1]
            rw [e, HMs]
            omega
        | false =>
          go_wp2_with (go_at_call 133; refine (addr_plain.calls _ false _ hG2 HPL.out).mono ?_; rintro e w' ⟨rfl, n1, rfl⟩)
          have hcv := (strings_ContainsRune.calls a1 c co (W1.drewN n1) hG2.drewN hcont)
          cases co with
          | true =>
            go_wp2_with (go_at_call 134; refine hcv.mono ?_; rintro e W2 ⟨rfl, hb3⟩)
            have hwd' : wd = 1 := HWD.out (by simp)
            subst hwd'
            have HN : Aside0 (∀ (k : Nat) (hk : k < a0.size), k < pos + 1 → okB a1.data.toList (a0[k]'hk) = true) := ⟨fun k hk hlt => by
              by_cases hkp : k = pos
              · subst hkp
                rw [← HOK.out]
                simp
              · exact HA.out k hk (by omega)⟩
            go_roundw
            case rel => exact ⟨pos + 1, by omega, (hb3.block _ (Array.getElem?_eq_some_iff.1 hit2).1).trans hit2, Below.trans (b := W1.drewN n1) (by apply pw_below_drewN; exact hb2) (hb3.mono hb2.size), HN⟩
            case measure =>
              have e : W2.iterPos w.heap.size = pos + 1 := by
                have e1 : W2.heap[w.heap.size]? = some (.stringIter a0 (pos + 1)) := (hb3.block _ (Array.getElem?_eq_some_iff.1 hit2).1).trans hit2
                simp only [World.iterPos, e1]
              rw [e, HMs]
              omega
          | false =>
            go_wp2_with (go_at_call 134; refine hcv.mono ?_; rintro e W2 ⟨rfl, hb3⟩)
            go_ret
            refine ⟨?_, Below.trans (b := W1.drewN n1) (by apply pw_below_drewN; exact hb2) (hb3.mono hb2.size)⟩
            rw [← HR.out, all_stop (k := pos) (by rw [Array.length_toList]; exact hp) (HOK.out.symm)]
            rfl
      · have hnx : ∀ ty, (Instr.next (.pointer (some ⟨w.heap.size, 0, none⟩)) true ty).run Tryz.prog wr = _ := fun ty => Lib.run_next_end_at wr w.heap.size a0 pos ty hit hp
        go_wp2
        go_ret
        refine ⟨?_, hb⟩
        have hall : a0.data.toList.all (okB a1.data.toList) = true := all_through fun k hk => by
          have hk' : k < a0.size := by rw [Array.length_toList] at hk; exact hk
          exact HA.out k hk' (by omega)
        rw [← HR.out, hall]
        rfl
  · rw [if_neg hc] at h
    cases h

/-! ### stringslite_HasPrefix: function 77 -/
def stringslite_HasPrefix.f (a0 : ByteArray) (a1 : ByteArray) : Option (Bool) := if (a0.size : Int) ≥ (a1.size : Int) then (if 0 ≤ (a1.size : Int) then (if (a1.size : Int) ≤ (a0.size : Int) then (some ((a0.extract 0 ((a1.size : Int) : Int).toNat).toList == a1.toList)) else (none)) else (none)) else (some false)
set_option maxHeartbeats 8000000 in
set_option maxRecDepth 100000 in
theorem stringslite_HasPrefix.calls (a0 : ByteArray) (a1 : ByteArray) (r : Bool) (w : World) (hG : GlobM w) (h : stringslite_HasPrefix.f a0 a1 = some r) :
    Calls Tryz.prog 77 #[.string a0, .string a1] w fun e w' => e = .returned (.bool r) ∧ Drawn0 w w' := by
  have H : (if (a0.size : Int) ≥ (a1.size : Int) then (if 0 ≤ (a1.size : Int) then (if (a1.size : Int) ≤ (a0.size : Int) then (some ((a0.extract 0 ((a1.size : Int) : Int).toNat).toList == a1.toList)) else (none)) else (none)) else (some false)) = some r := h
  clear h
  by_cases c3 : (a0.size : Int) ≥ (a1.size : Int)
  · rw [if_pos c3] at H
    have c3b0 : decide ((a1.size : Int) ≤ (a0.size : Int)) = true := decide_eq_true c3
    have c3b1 : decide (a1.size ≤ a0.size) = true := decide_eq_true (Int.ofNat_le.mp c3)
    clear c3
    by_cases c4 : 0 ≤ (a1.size : Int)
    · rw [if_pos c4] at H
      have c4b0 := eq_true c4
      have c4b1 : decide (0 ≤ (a1.size : Int)) = true := decide_eq_true c4
      clear c4
      by_cases c5 : (a1.size : Int) ≤ (a0.size : Int)
      · rw [if_pos c5] at H
        have c5b0 := eq_true c5
        have c5b1 : decide ((a1.size : Int) ≤ (a0.size : Int)) = true := decide_eq_true c5
        clear c5
        obtain rfl := Option.some.inj H
        go_enter Tryz.func77, Tryz.ntmps77
        go_wp2
        go_ret
        exact ⟨by first | rfl | (simp; done) | (simp [*]; done), by repeat (first | exact Drawn0.refl _ | apply Drawn0.step)⟩
      · rw [if_neg c5] at H
        exact absurd H (by simp)
    · rw [if_neg c4] at H
      exact absurd H (by simp)
  · rw [if_neg c3] at H
    have c3b0 : decide ((a1.size : Int) ≤ (a0.size : Int)) = false := decide_eq_false c3
    have c3b1 : decide (a1.size ≤ a0.size) = false := decide_eq_false (fun h => c3 (Int.ofNat_le.mpr h))
    clear c3
    obtain rfl := Option.some.inj H
    go_enter Tryz.func77, Tryz.ntmps77
    go_wp2
    go_ret
    exact ⟨by first | rfl | (simp; done) | (simp [*]; done), by repeat (first | exact Drawn0.refl _ | apply Drawn0.step)⟩

/-! ### strings_HasPrefix: function 57 -/
def strings_HasPrefix.f (a0 : ByteArray) (a1 : ByteArray) : Option (Bool) := (stringslite_HasPrefix.f a0 a1).bind fun t102 => (some t102)
set_option maxHeartbeats 8000000 in
set_option maxRecDepth 100000 in
theorem strings_HasPrefix.calls (a0 : ByteArray) (a1 : ByteArray) (r : Bool) (w : World) (hG : GlobM w) (h : strings_HasPrefix.f a0 a1 = some r) :
    Calls Tryz.prog 57 #[.string a0, .string a1] w fun e w' => e = .returned (.bool r) ∧ Drawn0 w w' := by
  have H : ((stringslite_HasPrefix.f a0 a1).bind fun t102 => (some t102)) = some r := h
  clear h
  replace H := Option.bind_eq_some_iff.mp H
  obtain ⟨t102, A30, H⟩ := H
  replace H : (some t102) = some r := H
  have A3 := Aside0.mk A30
  clear A30
  obtain rfl := Option.some.inj H
  go_enter Tryz.func57, Tryz.ntmps57
  go_wp2_with (first | ((with_reducible refine gate_callee (f := 77) rfl ?_); refine goesL_ (some 7) rfl rfl Tryz.func77 (by kernel_rfl) rfl #[.string a0, .string a1] rfl (by (try simp only [List.map_toArray, List.map_cons, List.map_nil]); first | done | rfl | (simp only [List.length_drop, List.length_take]; rfl)) ?_; (with_reducible refine (stringslite_HasPrefix.calls a0 a1 t102 _ ?side1 A3.out).mono ?_); (case side1 => first | exact hG | (repeat (first | exact hG | apply GlobM.drewN | apply GlobM.drew))); rintro e w' ⟨rfl, ⟨nd, rfl⟩⟩; refine ⟨_, rfl, ?_⟩))
  go_ret
  exact ⟨by first | rfl | (simp; done) | (simp [*]; done), by repeat (first | exact Drawn0.refl _ | apply Drawn0.step)⟩

/-! ### stringslite_HasSuffix: function 153 -/
def stringslite_HasSuffix.f (a0 : ByteArray) (a1 : ByteArray) : Option (Bool) := if (a0.size : Int) ≥ (a1.size : Int) then (if 0 ≤ (wrap64 ((a0.size : Int) - (a1.size : Int))) then (if (wrap64 ((a0.size : Int) - (a1.size : Int))) ≤ (a0.size : Int) then (some ((a0.extract ((wrap64 ((a0.size : Int) - (a1.size : Int))) : Int).toNat a0.size).toList == a1.toList)) else (none)) else (none)) else (some false)
set_option maxHeartbeats 8000000 in
set_option maxRecDepth 100000 in
theorem stringslite_HasSuffix.calls (a0 : ByteArray) (a1 : ByteArray) (r : Bool) (w : World) (hG : GlobM w) (h : stringslite_HasSuffix.f a0 a1 = some r) :
    Calls Tryz.prog 153 #[.string a0, .string a1] w fun e w' => e = .returned (.bool r) ∧ Drawn0 w w' := by
  have H : (if (a0.size : Int) ≥ (a1.size : Int) then (if 0 ≤ (wrap64 ((a0.size : Int) - (a1.size : Int))) then (if (wrap64 ((a0.size : Int) - (a1.size : Int))) ≤ (a0.size : Int) then (some ((a0.extract ((wrap64 ((a0.size : Int) - (a1.size : Int))) : Int).toNat a0.size).toList == a1.toList)) else (none)) else (none)) else (some false)) = some r := h
  clear h
  by_cases c3 : (a0.size : Int) ≥ (a1.size : Int)
  · rw [if_pos c3] at H
    have c3b0 : decide ((a1.size : Int) ≤ (a0.size : Int)) = true := decide_eq_true c3
    have c3b1 : decide (a1.size ≤ a0.size) = true := decide_eq_true (Int.ofNat_le.mp c3)
    clear c3
    obtain ⟨ji4, hji4⟩ : ∃ j_ : Int, (wrap64 ((a0.size : Int) - (a1.size : Int))) = j_ := ⟨_, rfl⟩
    replace H : (if 0 ≤ (ji4) then (if (ji4) ≤ (a0.size : Int) then (some ((a0.extract ((ji4) : Int).toNat a0.size).toList == a1.toList)) else (none)) else (none)) = some r := by first | (rw [hji4] at H; exact H) | (simp only [hji4] at H ⊢; exact H)
    have hji4w : (IntKind.i64.wrap ((a0.size : Int) - (a1.size : Int))) = ji4 := (i64_w _).trans hji4
    by_cases c5 : 0 ≤ (ji4)
    · rw [if_pos c5] at H
      have c5b0 := eq_true c5
      have c5b1 : decide (0 ≤ (ji4)) = true := decide_eq_true c5
      clear c5
      by_cases c6 : (ji4) ≤ (a0.size : Int)
      · rw [if_pos c6] at H
        have c6b0 := eq_true c6
        have c6b1 : decide ((ji4) ≤ (a0.size : Int)) = true := decide_eq_true c6
        clear c6
        obtain rfl := Option.some.inj H
        go_enter Tryz.func153, Tryz.ntmps153
        go_wp2
        go_ret
        exact ⟨by first | rfl | (simp; done) | (simp only [← hji4] <;> (first | rfl | simp)) | (simp [*]; done), by repeat (first | exact Drawn0.refl _ | apply Drawn0.step)⟩
      · rw [if_neg c6] at H
        exact absurd H (by simp)
    · rw [if_neg c5] at H
      exact absurd H (by simp)
  · rw [if_neg c3] at H
    have c3b0 : decide ((a1.size : Int) ≤ (a0.size : Int)) = false := decide_eq_false c3
    have c3b1 : decide (a1.size ≤ a0.size) = false := decide_eq_false (fun h => c3 (Int.ofNat_le.mpr h))
    clear c3
    obtain rfl := Option.some.inj H
    go_enter Tryz.func153, Tryz.ntmps153
    go_wp2
    go_ret
    exact ⟨by first | rfl | (simp; done) | (simp [*]; done), by repeat (first | exact Drawn0.refl _ | apply Drawn0.step)⟩

/-! ### strings_HasSuffix: function 135 -/
def strings_HasSuffix.f (a0 : ByteArray) (a1 : ByteArray) : Option (Bool) := (stringslite_HasSuffix.f a0 a1).bind fun t103 => (some t103)
set_option maxHeartbeats 8000000 in
set_option maxRecDepth 100000 in
theorem strings_HasSuffix.calls (a0 : ByteArray) (a1 : ByteArray) (r : Bool) (w : World) (hG : GlobM w) (h : strings_HasSuffix.f a0 a1 = some r) :
    Calls Tryz.prog 135 #[.string a0, .string a1] w fun e w' => e = .returned (.bool r) ∧ Drawn0 w w' := by
  have H : ((stringslite_HasSuffix.f a0 a1).bind fun t103 => (some t103)) = some r := h
  clear h
  replace H := Option.bind_eq_some_iff.mp H
  obtain ⟨t103, A30, H⟩ := H
  replace H : (some t103) = some r := H
  have A3 := Aside0.mk A30
  clear A30
  obtain rfl := Option.some.inj H
  go_enter Tryz.func135, Tryz.ntmps135
  go_wp2_with (first | ((with_reducible refine gate_callee (f := 153) rfl ?_); refine goesL_ (some 7) rfl rfl Tryz.func153 (by kernel_rfl) rfl #[.string a0, .string a1] rfl (by (try simp only [List.map_toArray, List.map_cons, List.map_nil]); first | done | rfl | (simp only [List.length_drop, List.length_take]; rfl)) ?_; (with_reducible refine (stringslite_HasSuffix.calls a0 a1 t103 _ ?side1 A3.out).mono ?_); (case side1 => first | exact hG | (repeat (first | exact hG | apply GlobM.drewN | apply GlobM.drew))); rintro e w' ⟨rfl, ⟨nd, rfl⟩⟩; refine ⟨_, rfl, ?_⟩))
  go_ret
  exact ⟨by first | rfl | (simp; done) | (simp [*]; done), by repeat (first | exact Drawn0.refl _ | apply Drawn0.step)⟩

/-! ### addr_ends: function 111 -/
def addr_ends.f (a0 : ByteArray) (a1 : ByteArray) : Option (Bool) := (strings_HasPrefix.f a0 a1).bind fun t104 => (if t104 = true then (some true) else ((strings_HasSuffix.f a0 a1).bind fun t105 => (some t105)))
set_option maxHeartbeats 8000000 in
set_option maxRecDepth 100000 in
theorem addr_ends.calls (a0 : ByteArray) (a1 : ByteArray) (r : Bool) (w : World) (hG : GlobM w) (h : addr_ends.f a0 a1 = some r) :
    Calls Tryz.prog 111 #[.string a0, .string a1] w fun e w' => e = .returned (.bool r) ∧ Drawn0 w w' := by
  have H : ((strings_HasPrefix.f a0 a1).bind fun t104 => (if t104 = true then (some true) else ((strings_HasSuffix.f a0 a1).bind fun t105 => (some t105)))) = some r := h
  clear h
  replace H := Option.bind_eq_some_iff.mp H
  obtain ⟨t104, A30, H⟩ := H
  replace H : (if t104 = true then (some true) else ((strings_HasSuffix.f a0 a1).bind fun t105 => (some t105))) = some r := H
  have A3 := Aside0.mk A30
  clear A30
  by_cases c4 : t104 = true
  · subst c4
    have H1 : (some true) = some r := by rw [if_pos rfl] at H; exact H
    clear H
    have H := H1
    clear H1
    obtain rfl := Option.some.inj H
    go_enter Tryz.func111, Tryz.ntmps111
    go_wp2_with (first | ((with_reducible refine gate_callee (f := 57) rfl ?_); refine goesL_ (some 7) rfl rfl Tryz.func57 (by kernel_rfl) rfl #[.string a0, .string a1] rfl (by (try simp only [List.map_toArray, List.map_cons, List.map_nil]); first | done | rfl | (simp only [List.length_drop, List.length_take]; rfl)) ?_; (with_reducible refine (strings_HasPrefix.calls a0 a1 true _ ?side1 A3.out).mono ?_); (case side1 => first | exact hG | (repeat (first | exact hG | apply GlobM.drewN | apply GlobM.drew))); rintro e w' ⟨rfl, ⟨nd, rfl⟩⟩; refine ⟨_, rfl, ?_⟩))
    go_ret
    exact ⟨by first | rfl | (simp; done) | (simp [*]; done), by repeat (first | exact Drawn0.refl _ | apply Drawn0.step)⟩
  · replace c4 := Bool.eq_false_iff.mpr c4
    subst c4
    have H1 : ((strings_HasSuffix.f a0 a1).bind fun t105 => (some t105)) = some r := by rw [if_neg (show ¬ (false = true) by decide)] at H; exact H
    clear H
    have H := H1
    clear H1
    replace H := Option.bind_eq_some_iff.mp H
    obtain ⟨t105, A50, H⟩ := H
    replace H : (some t105) = some r := H
    have A5 := Aside0.mk A50
    clear A50
    obtain rfl := Option.some.inj H
    go_enter Tryz.func111, Tryz.ntmps111
    go_wp2_with (first | ((with_reducible refine gate_callee (f := 57) rfl ?_); refine goesL_ (some 7) rfl rfl Tryz.func57 (by kernel_rfl) rfl #[.string a0, .string a1] rfl (by (try simp only [List.map_toArray, List.map_cons, List.map_nil]); first | done | rfl | (simp only [List.length_drop, List.length_take]; rfl)) ?_; (with_reducible refine (strings_HasPrefix.calls a0 a1 false _ ?side1 A3.out).mono ?_); (case side1 => first | exact hG | (repeat (first | exact hG | apply GlobM.drewN | apply GlobM.drew))); rintro e w' ⟨rfl, ⟨nd, rfl⟩⟩; refine ⟨_, rfl, ?_⟩) | (go_at_call 135; (with_reducible refine (strings_HasSuffix.calls a0 a1 t105 _ ?side1 A5.out).mono ?_); (case side1 => first | exact hG | (repeat (first | exact hG | apply GlobM.drewN | apply GlobM.drew))); rintro e w' ⟨rfl, ⟨nd, rfl⟩⟩))
    go_ret
    exact ⟨by first | rfl | (simp; done) | (simp [*]; done), by repeat (first | exact Drawn0.refl _ | apply Drawn0.step)⟩

/-! ### strings_Contains: given -/
def strings_Contains.f (a0 a1 : ByteArray) : Option Bool := if a0.size < 4294967281 then some (Lib.contains a0.data.toList a1.data.toList) else none
theorem strings_Contains.calls (a0 a1 : ByteArray) (r : Bool) (w : World) (hG : GlobM w) (h : strings_Contains.f a0 a1 = some r) :
    Calls Tryz.prog 112 #[.string a0, .string a1] w fun e w' => e = .returned (.bool r) ∧ Drawn0 w w' := by
  unfold strings_Contains.f at h
  by_cases hs : a0.size < 4294967281
  · rw [if_pos hs] at h
    obtain rfl := Option.some.inj h
    obtain ⟨m, hm⟩ := hG.maxLen
    exact (Tryz.strings_Contains a0 a1 m w hs hm).mono fun e w' ⟨he, hw⟩ => ⟨he, ⟨0, by rw [hw]; rfl⟩⟩
  · rw [if_neg hs] at h
    cases h

/-! ### addr_local: function 84 -/
def addr_local.f (a0 : ByteArray) : Option (Bool) := if a0.toList = ([] : List UInt8) then (some false) else (if (a0.size : Int) ≤ 32 then ((addr_only.f a0 (⟨#[46, 95, 43, 45]⟩ : ByteArray)).bind fun t106 => (if t106 = true then ((addr_ends.f a0 (⟨#[46]⟩ : ByteArray)).bind fun t107 => (if t107 = true then (some false) else ((strings_Contains.f a0 (⟨#[46, 46]⟩ : ByteArray)).bind fun t108 => (some (!t108))))) else (some false))) else (some false))
set_option maxHeartbeats 8000000 in
set_option maxRecDepth 100000 in
theorem addr_local.calls (a0 : ByteArray) (r : Bool) (w : World) (hG : GlobM w) (h : addr_local.f a0 = some r) :
    Calls Tryz.prog 84 #[.string a0] w fun e w' => e = .returned (.bool r) ∧ Below w.heap.size w w' := by
  have HB := Aside0.mk (Below.refl w.heap.size w)
  have H : (if a0.toList = ([] : List UInt8) then (some false) else (if (a0.size : Int) ≤ 32 then ((addr_only.f a0 (⟨#[46, 95, 43, 45]⟩ : ByteArray)).bind fun t106 => (if t106 = true then ((addr_ends.f a0 (⟨#[46]⟩ : ByteArray)).bind fun t107 => (if t107 = true then (some false) else ((strings_Contains.f a0 (⟨#[46, 46]⟩ : ByteArray)).bind fun t108 => (some (!t108))))) else (some false))) else (some false))) = some r := h
  clear h
  by_cases c2 : a0.toList = ([] : List UInt8)
  · rw [if_pos c2] at H
    have c2b0 : (a0.toList == ([] : List UInt8)) = true := beq_iff_eq.mpr c2
    have c2b1 : (a0.toList != ([] : List UInt8)) = false := bne_eq_false_iff_eq.mpr c2
    clear c2
    obtain rfl := Option.some.inj H
    go_enter Tryz.func84, Tryz.ntmps84
    go_wp2
    go_ret
    exact ⟨by first | rfl | (simp [errW_none, errW_some] <;> rfl) | (simp [*, errW_none, errW_some] <;> rfl), by repeat (first | (with_reducible first | exact HB.out | apply below_alloc | apply pw_below_drewN | apply below_drew1) | exact HB.out)⟩
  · rw [if_neg c2] at H
    have c2b0 : (a0.toList == ([] : List UInt8)) = false := beq_eq_false_iff_ne.mpr c2
    have c2b1 : (a0.toList != ([] : List UInt8)) = true := bne_iff_ne.mpr c2
    by_cases c3 : (a0.size : Int) ≤ 32
    · rw [if_pos c3] at H
      have c3b0 : decide ((a0.size : Int) ≤ 32) = true := decide_eq_true c3
      have c3b1 : decide (a0.size ≤ 32) = true := decide_eq_true (by omega)
      clear c3
      replace H := Option.bind_eq_some_iff.mp H
      obtain ⟨t106, A40, H⟩ := H
      replace H : (if t106 = true then ((addr_ends.f a0 (⟨#[46]⟩ : ByteArray)).bind fun t107 => (if t107 = true then (some false) else ((strings_Contains.f a0 (⟨#[46, 46]⟩ : ByteArray)).bind fun t108 => (some (!t108))))) else (some false)) = some r := H
      have A4 := Aside0.mk A40
      clear A40
      by_cases c5 : t106 = true
      · subst c5
        have H1 : ((addr_ends.f a0 (⟨#[46]⟩ : ByteArray)).bind fun t107 => (if t107 = true then (some false) else ((strings_Contains.f a0 (⟨#[46, 46]⟩ : ByteArray)).bind fun t108 => (some (!t108))))) = some r := by rw [if_pos rfl] at H; exact H
        clear H
        have H := H1
        clear H1
        replace H := Option.bind_eq_some_iff.mp H
        obtain ⟨t107, A60, H⟩ := H
        replace H : (if t107 = true then (some false) else ((strings_Contains.f a0 (⟨#[46, 46]⟩ : ByteArray)).bind fun t108 => (some (!t108)))) = some r := H
        have A6 := Aside0.mk A60
        clear A60
        by_cases c7 : t107 = true
        · subst c7
          have H1 : (some false) = some r := by rw [if_pos rfl] at H; exact H
          clear H
          have H := H1
          clear H1
          obtain rfl := Option.some.inj H
          go_enter Tryz.func84, Tryz.ntmps84
          go_wp2_with (first | (go_at_call 110; (with_reducible refine (addr_only.calls a0 (⟨#[46, 95, 43, 45]⟩ : ByteArray) true _ ?side1 A4.out).mono ?_); (case side1 => first | exact hG | exact GlobM.below hG (by repeat (first | (with_reducible first | exact HB.out | apply below_alloc | apply pw_below_drewN | apply below_drew1) | exact HB.out))); rintro e w8 ⟨rfl, hb⟩; have n0_ := Aside0.mk (below_step (by repeat (first | (with_reducible first | exact HB.out | apply below_alloc | apply pw_below_drewN | apply below_drew1) | exact HB.out)) hb); clear HB; have HB := n0_; clear n0_; (try clear hb); (try clear hb2); (try clear hk); (try clear hi)) | (go_at_call 111; (with_reducible refine (addr_ends.calls a0 (⟨#[46]⟩ : ByteArray) true _ ?side1 A6.out).mono ?_); (case side1 => first | exact hG | exact GlobM.below hG (by repeat (first | (with_reducible first | exact HB.out | apply below_alloc | apply pw_below_drewN | apply below_drew1) | exact HB.out))); rintro e w' ⟨rfl, ⟨nd, rfl⟩⟩))
          go_ret
          exact ⟨by first | rfl | (simp [errW_none, errW_some] <;> rfl) | (simp [*, errW_none, errW_some] <;> rfl), by repeat (first | (with_reducible first | exact HB.out | apply below_alloc | apply pw_below_drewN | apply below_drew1) | exact HB.out)⟩
        · replace c7 := Bool.eq_false_iff.mpr c7
          subst c7
          have H1 : ((strings_Contains.f a0 (⟨#[46, 46]⟩ : ByteArray)).bind fun t108 => (some (!t108))) = some r := by rw [if_neg (show ¬ (false = true) by decide)] at H; exact H
          clear H
          have H := H1
          clear H1
          replace H := Option.bind_eq_some_iff.mp H
          obtain ⟨t108, A90, H⟩ := H
          replace H : (some (!t108)) = some r := H
          have A9 := Aside0.mk A90
          clear A90
          obtain rfl := Option.some.inj H
          go_enter Tryz.func84, Tryz.ntmps84
          go_wp2_with (first | (go_at_call 110; (with_reducible refine (addr_only.calls a0 (⟨#[46, 95, 43, 45]⟩ : ByteArray) true _ ?side1 A4.out).mono ?_); (case side1 => first | exact hG | exact GlobM.below hG (by repeat (first | (with_reducible first | exact HB.out | apply below_alloc | apply pw_below_drewN | apply below_drew1) | exact HB.out))); rintro e w10 ⟨rfl, hb⟩; have n0_ := Aside0.mk (below_step (by repeat (first | (with_reducible first | exact HB.out | apply below_alloc | apply pw_below_drewN | apply below_drew1) | exact HB.out)) hb); clear HB; have HB := n0_; clear n0_; (try clear hb); (try clear hb2); (try clear hk); (try clear hi)) | (go_at_call 111; (with_reducible refine (addr_ends.calls a0 (⟨#[46]⟩ : ByteArray) false _ ?side1 A6.out).mono ?_); (case side1 => first | exact hG | exact GlobM.below hG (by repeat (first | (with_reducible first | exact HB.out | apply below_alloc | apply pw_below_drewN | apply below_drew1) | exact HB.out))); rintro e w' ⟨rfl, ⟨nd, rfl⟩⟩) | (go_at_call 112; (with_reducible refine (strings_Contains.calls a0 (⟨#[46, 46]⟩ : ByteArray) t108 _ ?side1 A9.out).mono ?_); (case side1 => first | exact hG | exact GlobM.below hG (by repeat (first | (with_reducible first | exact HB.out | apply below_alloc | apply pw_below_drewN | apply below_drew1) | exact HB.out))); rintro e w' ⟨rfl, ⟨nd, rfl⟩⟩))
          go_ret
          exact ⟨by first | rfl | (simp [errW_none, errW_some] <;> rfl) | (simp [*, errW_none, errW_some] <;> rfl), by repeat (first | (with_reducible first | exact HB.out | apply below_alloc | apply pw_below_drewN | apply below_drew1) | exact HB.out)⟩
      · replace c5 := Bool.eq_false_iff.mpr c5
        subst c5
        have H1 : (some false) = some r := by rw [if_neg (show ¬ (false = true) by decide)] at H; exact H
        clear H
        have H := H1
        clear H1
        obtain rfl := Option.some.inj H
        go_enter Tryz.func84, Tryz.ntmps84
        go_wp2_with (first | (go_at_call 110; (with_reducible refine (addr_only.calls a0 (⟨#[46, 95, 43, 45]⟩ : ByteArray) false _ ?side1 A4.out).mono ?_); (case side1 => first | exact hG | exact GlobM.below hG (by repeat (first | (with_reducible first | exact HB.out | apply below_alloc | apply pw_below_drewN | apply below_drew1) | exact HB.out))); rintro e w11 ⟨rfl, hb⟩; have n0_ := Aside0.mk (below_step (by repeat (first | (with_reducible first | exact HB.out | apply below_alloc | apply pw_below_drewN | apply below_drew1) | exact HB.out)) hb); clear HB; have HB := n0_; clear n0_; (try clear hb); (try clear hb2); (try clear hk); (try clear hi)))
        go_ret
        exact ⟨by first | rfl | (simp [errW_none, errW_some] <;> rfl) | (simp [*, errW_none, errW_some] <;> rfl), by repeat (first | (with_reducible first | exact HB.out | apply below_alloc | apply pw_below_drewN | apply below_drew1) | exact HB.out)⟩
    · rw [if_neg c3] at H
      have c3b0 : decide ((a0.size : Int) ≤ 32) = false := decide_eq_false c3
      have c3b1 : decide (a0.size ≤ 32) = false := decide_eq_false (by omega)
      clear c3
      obtain rfl := Option.some.inj H
      go_enter Tryz.func84, Tryz.ntmps84
      go_wp2
      go_ret
      exact ⟨by first | rfl | (simp [errW_none, errW_some] <;> rfl) | (simp [*, errW_none, errW_some] <;> rfl), by repeat (first | (with_reducible first | exact HB.out | apply below_alloc | apply pw_below_drewN | apply below_drew1) | exact HB.out)⟩

/-! ### strings_Split: given, at a separator of one byte -/
def strings_Split.f (a0 a1 : ByteArray) : Option (List ByteArray) := if a0.size ≤ 1000000 ∧ a1.size = 1 then some (Lib.splitB a1 0 (Lib.countB a0 a1) a0) else none
theorem strings_Split.calls (a0 a1 : ByteArray) (r : List ByteArray) (w : World) (hG : GlobM w) (h : strings_Split.f a0 a1 = some r) :
    Calls Tryz.prog 113 #[.string a0, .string a1] w fun e w' => ∃ v0_ : Value, e = .returned (v0_) ∧ Kd.R Kd.string 9 w' w.heap.size (fun _ => True) v0_ r ∧ Below w.heap.size w w' := by
  unfold strings_Split.f at h
  by_cases hc : a0.size ≤ 1000000 ∧ a1.size = 1
  · rw [if_pos hc] at h
    obtain rfl := Option.some.inj h
    obtain ⟨m, hm⟩ := hG.maxLen
    have hl := Lib.splitB_all a1 (by omega) 0 _ a0 rfl
    have hle : Lib.countB a0 a1 ≤ 1000000 := Nat.le_trans (Lib.countB_le a1 (by omega) _ a0 (Nat.le_refl _)) hc.1
    refine (Tryz.strings_Split a0 a1 m w (by omega) hm (by omega)).mono fun e w' ⟨he, hw⟩ => ⟨_, he, ?_, ?_⟩
    · subst hw
      refine ⟨fun _ _ => trivial, (Lib.splitB a1 0 (Lib.countB a0 a1) a0).map Value.string, ?_, ?_, fun j p hj => ?_⟩
      · have := World.ownsRow_lit (base := w.heap.size) (e := 9) (size := 1) w ((Lib.splitB a1 0 (Lib.countB a0 a1) a0).map Value.string).toArray (Lib.countB a0 a1 + 1) (Nat.le_refl _) (by simp only [maxLen]; omega) (by simp [hl])
        rw [hl]
        simp only [List.toList_toArray] at this
        exact this
      · show _ = _ * 1
        simp
      · show (((Lib.splitB a1 0 (Lib.countB a0 a1) a0).map Value.string).drop (j * 1)).take 1 = [Value.string p]
        obtain ⟨hj1, hj2⟩ := List.getElem?_eq_some_iff.1 hj
        rw [Nat.mul_one, List.drop_eq_getElem_cons (by simpa using hj1), List.getElem_map, hj2]
        rfl
    · rw [hw]
      exact (Below.refl _ _).alloc (Nat.le_refl _) _
  · rw [if_neg hc] at h
    cases h

/-! ### addr_label: function 114 -/
def addr_label.f (a0 : ByteArray) : Option (Bool) := if a0.toList = ([] : List UInt8) then (some false) else (if (a0.size : Int) ≤ 32 then ((addr_only.f a0 (⟨#[45]⟩ : ByteArray)).bind fun t109 => (if t109 = true then ((addr_ends.f a0 (⟨#[45]⟩ : ByteArray)).bind fun t110 => (some (!t110))) else (some false))) else (some false))
set_option maxHeartbeats 8000000 in
set_option maxRecDepth 100000 in
theorem addr_label.calls (a0 : ByteArray) (r : Bool) (w : World) (hG : GlobM w) (h : addr_label.f a0 = some r) :
    Calls Tryz.prog 114 #[.string a0] w fun e w' => e = .returned (.bool r) ∧ Below w.heap.size w w' := by
  have HB := Aside0.mk (Below.refl w.heap.size w)
  have H : (if a0.toList = ([] : List UInt8) then (some false) else (if (a0.size : Int) ≤ 32 then ((addr_only.f a0 (⟨#[45]⟩ : ByteArray)).bind fun t109 => (if t109 = true then ((addr_ends.f a0 (⟨#[45]⟩ : ByteArray)).bind fun t110 => (some (!t110))) else (some false))) else (some false))) = some r := h
  clear h
  by_cases c2 : a0.toList = ([] : List UInt8)
  · rw [if_pos c2] at H
    have c2b0 : (a0.toList == ([] : List UInt8)) = true := beq_iff_eq.mpr c2
    have c2b1 : (a0.toList != ([] : List UInt8)) = false := bne_eq_false_iff_eq.mpr c2
    clear c2
    obtain rfl := Option.some.inj H
    go_enter Tryz.func114, Tryz.ntmps114
    go_wp2
    go_ret
    exact ⟨by first | rfl | (simp [errW_none, errW_some] <;> rfl) | (simp [*, errW_none, errW_some] <;> rfl), by repeat (first | (with_reducible first | exact HB.out | apply below_alloc | apply pw_below_drewN | apply below_drew1) | exact HB.out)⟩
  · rw [if_neg c2] at H
    have c2b0 : (a0.toList == ([] : List UInt8)) = false := beq_eq_false_iff_ne.mpr c2
    have c2b1 : (a0.toList != ([] : List UInt8)) = true := bne_iff_ne.mpr c2
    by_cases c3 : (a0.size : Int) ≤ 32
    · rw [if_pos c3] at H
      have c3b0 : decide ((a0.size : Int) ≤ 32) = true := decide_eq_true c3
      have c3b1 : decide (a0.size ≤ 32) = true := decide_eq_true (by omega)
      clear c3
      replace H := Option.bind_eq_some_iff.mp H
      obtain ⟨t109, A40, H⟩ := H
      replace H : (if t109 = true then ((addr_ends.f a0 (⟨#[45]⟩ : ByteArray)).bind fun t110 => (some (!t110))) else (some false)) = some r := H
      have A4 := Aside0.mk A40
      clear A40
      by_cases c5 : t109 = true
      · subst c5
        have H1 : ((addr_ends.f a0 (⟨#[45]⟩ : ByteArray)).bind fun t110 => (some (!t110))) = some r := by rw [if_pos rfl] at H; exact H
        clear H
        have H := H1
        clear H1
        replace H := Option.bind_eq_some_iff.mp H
        obtain ⟨t110, A60, H⟩ := H
        replace H : (some (!t110)) = some r := H
        have A6 := Aside0.mk A60
        clear A60
        obtain rfl := Option.some.inj H
        go_enter Tryz.func114, Tryz.ntmps114
        go_wp2_with (first | (go_at_call 110; (with_reducible refine (addr_only.calls a0 (⟨#[45]⟩ : ByteArray) true _ ?side1 A4.out).mono ?_); (case side1 => first | exact hG | exact GlobM.below hG (by repeat (first | (with_reducible first | exact HB.out | apply below_alloc | apply pw_below_drewN | apply below_drew1) | exact HB.out))); rintro e w7 ⟨rfl, hb⟩; have n0_ := Aside0.mk (below_step (by repeat (first | (with_reducible first | exact HB.out | apply below_alloc | apply pw_below_drewN | apply below_drew1) | exact HB.out)) hb); clear HB; have HB := n0_; clear n0_; (try clear hb); (try clear hb2); (try clear hk); (try clear hi)) | (go_at_call 111; (with_reducible refine (addr_ends.calls a0 (⟨#[45]⟩ : ByteArray) t110 _ ?side1 A6.out).mono ?_); (case side1 => first | exact hG | exact GlobM.below hG (by repeat (first | (with_reducible first | exact HB.out | apply below_alloc | apply pw_below_drewN | apply below_drew1) | exact HB.out))); rintro e w' ⟨rfl, ⟨nd, rfl⟩⟩))
        go_ret
        exact ⟨by first | rfl | (simp [errW_none, errW_some] <;> rfl) | (simp [*, errW_none, errW_some] <;> rfl), by repeat (first | (with_reducible first | exact HB.out | apply below_alloc | apply pw_below_drewN | apply below_drew1) | exact HB.out)⟩
      · replace c5 := Bool.eq_false_iff.mpr c5
        subst c5
        have H1 : (some false) = some r := by rw [if_neg (show ¬ (false = true) by decide)] at H; exact H
        clear H
        have H := H1
        clear H1
        obtain rfl := Option.some.inj H
        go_enter Tryz.func114, Tryz.ntmps114
        go_wp2_with (first | (go_at_call 110; (with_reducible refine (addr_only.calls a0 (⟨#[45]⟩ : ByteArray) false _ ?side1 A4.out).mono ?_); (case side1 => first | exact hG | exact GlobM.below hG (by repeat (first | (with_reducible first | exact HB.out | apply below_alloc | apply pw_below_drewN | apply below_drew1) | exact HB.out))); rintro e w8 ⟨rfl, hb⟩; have n0_ := Aside0.mk (below_step (by repeat (first | (with_reducible first | exact HB.out | apply below_alloc | apply pw_below_drewN | apply below_drew1) | exact HB.out)) hb); clear HB; have HB := n0_; clear n0_; (try clear hb); (try clear hb2); (try clear hk); (try clear hi)))
        go_ret
        exact ⟨by first | rfl | (simp [errW_none, errW_some] <;> rfl) | (simp [*, errW_none, errW_some] <;> rfl), by repeat (first | (with_reducible first | exact HB.out | apply below_alloc | apply pw_below_drewN | apply below_drew1) | exact HB.out)⟩
    · rw [if_neg c3] at H
      have c3b0 : decide ((a0.size : Int) ≤ 32) = false := decide_eq_false c3
      have c3b1 : decide (a0.size ≤ 32) = false := decide_eq_false (by omega)
      clear c3
      obtain rfl := Option.some.inj H
      go_enter Tryz.func114, Tryz.ntmps114
      go_wp2
      go_ret
      exact ⟨by first | rfl | (simp [errW_none, errW_some] <;> rfl) | (simp [*, errW_none, errW_some] <;> rfl), by repeat (first | (with_reducible first | exact HB.out | apply below_alloc | apply pw_below_drewN | apply below_drew1) | exact HB.out)⟩

end Go.Proofs.YtilgfpljjjbgdaaGreatDoor.PALL
