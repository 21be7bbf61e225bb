/- law23: DsnMakes. -/
import Derived.Test.YthdjeikfbbdehaaDoorDsnLaws
namespace Go.Proofs.YthdjeikfbbdehaaDoor.Fs
open Go.RowKit Go.Proofs.YthdjeikfbbdehaaDoor Go.Proofs.YthdjeikfbbdehaaDoor.Plain Go.Proofs.YthdjeikfbbdehaaDoorW.PrintWords Go.Maps
set_option linter.unusedVariables false
set_option linter.unusedSimpArgs false
/-- lines, each with its end -/
def ended (l : List Nm) : List UInt8 := l.flatMap (· ++ [10])
theorem join_ended (x : Nm) (l : List Nm) : Lib.join (x :: l) [10] ++ [10] = ended (x :: l) := by
  induction l generalizing x with
  | nil => simp [Lib.join_one, ended]
  | cons y l ih =>
    have h := ih y
    rw [Lib.join_cons] at h ⊢
    simp only [Lib.joinTail, List.map_cons, List.flatten_cons, ended, List.flatMap_cons, List.append_assoc] at h ⊢
    rw [h]
def frontL : Nm := [70, 114, 111, 109, 58, 32, 60, 62, 10, 84, 111, 58, 32, 60]
def midL : Nm := [62, 10, 83, 117, 98, 106, 101, 99, 116, 58, 32, 110, 111, 116, 32, 100, 101, 108, 105, 118, 101, 114, 101, 100, 10, 10, 77, 97, 105, 108, 58, 32]
def headT (m : MailD) : List UInt8 := frontL ++ m.sender ++ midL ++ Lib.itoa m.id ++ [10]
theorem headT_eq (m : MailD) : ended (headL m) = headT m := by
  simp only [ended, headL, List.flatMap_cons, List.flatMap_nil, List.append_nil, headT]
  simp [fromL, toL, subjL, mailL, frontL, midL]
theorem textB_eq (m : MailD) (l : List Int) : textB m l = headT m ++ ended (failed m.rcpts l l.length) := by
  unfold textB
  rw [show linesL m l = fromL :: (linesL m l).tail from rfl, join_ended, ← headT_eq]
  show ended (linesL m l) = _
  unfold linesL ended
  rw [List.flatMap_append]
theorem ended_snoc (l : List Nm) (r : List Nm) : ended (l ++ r) = ended l ++ ended r := by unfold ended; rw [List.flatMap_append]
theorem failed_count (rc : List Nm) (l : List Int) (h : l.length ≤ rc.length) : ((failed rc l l.length).length = 0) ↔ (l.any fun s => s == 2) = false := by
  unfold failed
  rw [List.take_of_length_le (by rw [List.length_zip]; omega), List.length_eq_zero_iff, List.filterMap_eq_nil_iff, List.any_eq_false]
  constructor
  · intro h2 s hs
    obtain ⟨i, hi, rfl⟩ := List.getElem_of_mem hs
    have hz : i < (rc.zip l).length := by rw [List.length_zip]; omega
    have := h2 (rc.zip l)[i] (List.getElem_mem hz)
    rw [List.getElem_zip] at this
    intro e
    rw [if_pos e] at this
    cases this
  · rintro h2 ⟨r, s⟩ hp
    have := h2 s (List.of_mem_zip hp).2
    rw [if_neg this]
theorem front_eq (m : MailD) (t : List UInt8) (h : headT m = frontL ++ m.sender ++ midL ++ t ++ [10]) : (⟨#[70, 114, 111, 109, 58, 32, 60, 62, 10, 84, 111, 58, 32, 60]⟩ : ByteArray) ++ S m.sender ++ ⟨#[62, 10, 83, 117, 98, 106, 101, 99, 116, 58, 32, 110, 111, 116, 32, 100, 101, 108, 105, 118, 101, 114, 101, 100, 10, 10, 77, 97, 105, 108, 58, 32]⟩ ++ S t ++ ⟨#[10]⟩ = S (headT m) := by
  rw [h, show (⟨#[70, 114, 111, 109, 58, 32, 60, 62, 10, 84, 111, 58, 32, 60]⟩ : ByteArray) = S frontL from rfl, show (⟨#[62, 10, 83, 117, 98, 106, 101, 99, 116, 58, 32, 110, 111, 116, 32, 100, 101, 108, 105, 118, 101, 114, 101, 100, 10, 10, 77, 97, 105, 108, 58, 32]⟩ : ByteArray) = S midL from rfl, show (⟨#[10]⟩ : ByteArray) = S [10] from rfl]
  rw [S_append, S_append, S_append, S_append]
theorem fail_eq (T r : Nm) : S T ++ (⟨#[70, 97, 105, 108, 101, 100, 58, 32, 60]⟩ : ByteArray) ++ S r ++ ⟨#[62, 10]⟩ = S (T ++ (failOf r ++ [10])) := by
  rw [show (⟨#[70, 97, 105, 108, 101, 100, 58, 32, 60]⟩ : ByteArray) = S failL from rfl, show (⟨#[62, 10]⟩ : ByteArray) = S [62, 10] from rfl, S_append, S_append, S_append]
  simp [failOf]
theorem decInt (n : Int) (h1 : 1 ≤ n) (hn : n ≤ 999999999) (w : World) : Calls Tryd.prog 16 #[.int .i64 n] w fun e w' => e = .returned (.string (S (Lib.itoa n))) ∧ Below w.heap.size w w' := by
  obtain ⟨k, rfl⟩ : ∃ k : Nat, n = k := ⟨n.toNat, by omega⟩
  have e : Lib.itoa (k : Int) = Lib.decDigits k := by unfold Lib.itoa; rw [if_neg (by omega)]; rfl
  rw [e]
  exact decIs k (by omega) (by omega) w
theorem make_short (m : MailD) (l : List Int) (born : Int) (h : TextOk m l) : (makeD m l born).rcpts.length ≤ 1 ∧ (makeD m l born).body.length ≤ 2001 := by
  unfold makeD
  split
  · refine ⟨Nat.le_refl 1, ?_⟩
    show (textB m l).length ≤ _
    have := join_short m l h
    unfold textB
    rw [List.length_append]
    show _ + 1 ≤ _
    omega
  · exact ⟨Nat.zero_le _, Nat.zero_le _⟩
theorem bytesStep {W X : World} (h : Below W.heap.size W X) (s : ByteArray) : Below W.heap.size W (Lib.bytesWorld X 5 s) := chain' h (bytesBelow _ _)
theorem convOf (w : World) (u : List UInt8) : (convert 9 24 (.string (S u))).run Tryd.prog w = .ok (.slice (some ⟨w.heap.size, 0, none⟩) u.length (grownCap w u.length 0 5)) (Lib.bytesWorld w 5 (S u)) := by
  have := Lib.run_convert_string_bytes (P := Tryd.prog) w 9 24 5 (S u) Tryd.underlying9 Tryd.underlying24 Tryd.underlying5
  rw [S_size] at this
  exact this
theorem builtAt {Y : World} {s u : List UInt8} (id born : Int) {g g5 : Nat} (c5 : Nat) {t : TypeId} {fr : Nat × Nat} (hg : Y.heap[g]? = some (.cells #[.string (S s)] t fr)) (hr : ReadsInt Y .u8 (some ⟨g5, 0, none⟩) (B u).length (B u)) (hs : s.length ≤ 140737488351232) :
    MailAt Y (.agg #[.int .i64 0, .int .i64 id, .int .i64 born, .string ⟨#[]⟩, .slice (some ⟨g, 0, none⟩) 1 1, .slice (some ⟨g5, 0, none⟩) u.length c5]) ⟨0, id, born, [], [s], u⟩ := by
  refine ⟨some ⟨g, 0, none⟩, 1, some ⟨g5, 0, none⟩, c5, rfl, by simp, by simp, fun j hj => ?_, hr⟩
  have hj1 : j < 1 := hj
  obtain rfl : j = 0 := by omega
  refine ⟨_, rfl, ?_, hs⟩
  have e : (⟨g, 0, none⟩ : Addr).add 0 = ⟨g, 0, none⟩ := rfl
  rw [e]
  unfold World.cell?
  simp only []
  rw [hg]
  rfl
theorem builtA (Z : World) (s u : List UInt8) (b5 : Nat) (hb : b5 = Z.heap.size + 1) (id born : Int) (c5 : Nat) (hs : s.length ≤ 140737488351232) (hu : u.length ≤ 1000000) :
    MailAt (Lib.bytesWorld (Z.alloc (.cells #[.string (S s)] 9)) 5 (S u)) (.agg #[.int .i64 0, .int .i64 id, .int .i64 born, .string ⟨#[]⟩, .slice (some ⟨Z.heap.size, 0, none⟩) 1 1, .slice (some ⟨b5, 0, none⟩) u.length c5]) ⟨0, id, born, [], [s], u⟩ := by
  have e : b5 = (Z.alloc (.cells #[.string (S s)] 9)).heap.size := by rw [hb]; simp
  rw [e]
  exact builtAt id born c5 ((Lib.bytesWorld_at_old _ _ _ _ (by simp)).trans (heap_alloc_new Z _)) (bytesReads _ u hu) hs
theorem builtB (Z : World) (s u : List UInt8) (id born : Int) (c5 : Nat) (hs : s.length ≤ 140737488351232) (hu : u.length ≤ 1000000) :
    MailAt ((Lib.bytesWorld Z 5 (S u)).alloc (.cells #[.string (S s)] 9)) (.agg #[.int .i64 0, .int .i64 id, .int .i64 born, .string ⟨#[]⟩, .slice (some ⟨(Lib.bytesWorld Z 5 (S u)).heap.size, 0, none⟩) 1 1, .slice (some ⟨Z.heap.size, 0, none⟩) u.length c5]) ⟨0, id, born, [], [s], u⟩ :=
  builtAt id born c5 (heap_alloc_new _ _) (readsBelow (bytesReads Z u hu) (below_alloc (Below.refl _ _) _)) hs
/-- what is read of the mail's copy and of the answer, in any later world -/
theorem both8 {w Wr W7 W8 X : World} {c0 c1 c2 c3 c4 c5 d0 d1 d2 d3 d4 d5 : Value} {t t' : TypeId} (h : Below (w.alloc (.cells #[c0, c1, c2, c3, c4, c5] t)).heap.size (w.alloc (.cells #[c0, c1, c2, c3, c4, c5] t)) Wr) (h8 : Below Wr.heap.size Wr W8) (h7 : Below (W7.alloc (.cells #[d0, d1, d2, d3, d4, d5] t')).heap.size (W7.alloc (.cells #[d0, d1, d2, d3, d4, d5] t')) W8) (hX : Below W8.heap.size W8 X) :
    X.cell? ⟨w.heap.size, 0, none⟩ = some c0 ∧ X.cell? ⟨w.heap.size, 3, none⟩ = some c3 ∧ X.cell? ⟨W7.heap.size, 0, none⟩ = some d0 ∧ X.cell? ⟨W7.heap.size, 1, none⟩ = some d1 ∧ X.cell? ⟨W7.heap.size, 2, none⟩ = some d2 ∧ X.cell? ⟨W7.heap.size, 3, none⟩ = some d3 ∧ X.cell? ⟨W7.heap.size, 4, none⟩ = some d4 ∧ X.cell? ⟨W7.heap.size, 5, none⟩ = some d5 := by
  have h1 := chain' h8 hX
  have h2 := boxCells (h.trans (h1.mono h.size))
  exact ⟨h2.1, h2.2.2.2.1, boxCells (h7.trans (hX.mono h7.size))⟩
set_option maxHeartbeats 4000000 in
set_option maxRecDepth 100000 in
theorem dsnMakes {w : World} (v : Value) (hv : MailOf w v) (u : Value) (hu : FatesOf w u) (born : Int) (hborn : (Lit.int .i64 born).wf = true) (hG : GI w) :
    Calls Tryd.prog 7 #[v, u, .int .i64 born] w fun e W' => e = .returned (.bool true) ∧ Below w.heap.size w W' := by
  obtain ⟨m, hm, -, -, -⟩ := hv
  obtain ⟨F, c, l, rfl, hl63, hF⟩ := hu
  have HM := Aside0.mk hm
  have HF := Aside0.mk hF
  have HG := Aside0.mk hG
  have HB0 := Aside0.mk (Below.refl w.heap.size w)
  have HAN := Aside0.mk (fun (X : World) (hX : Below w.heap.size w X) => answers X (hG.below hX))
  have HGD := Aside0.mk (fun (X : World) (hX : Below w.heap.size w X) => goodLaw m hm F c l X hX)
  obtain ⟨A, cc, Q, q, rfl, hs, hr, hN, hB⟩ := hm
  have HN := Aside0.mk hN
  clear hN hB hF hG
  obtain ⟨g, hg⟩ : ∃ g, (goodB m && (l.length == m.rcpts.length)) = g := ⟨_, rfl⟩
  rw [hg] at HGD
  cases g with
  | false =>
    clear hg
    go_enter Tryd.func7, Tryd.ntmps7
    go_wp2_with (first
      | (go_at_call 14; refine (HGD.out _ (below_alloc HB0.out _)).mono ?_; rintro e W3 ⟨rfl, hb⟩; have HB3 := Aside0.mk (chain' (below_alloc HB0.out _) hb); clear hb)
      | (go_at_call 15; refine (HAN.out _ HB3.out).mono ?_; rintro e W4 ⟨rfl, hb⟩; have HB4 := Aside0.mk (chain' HB3.out hb); clear hb))
    go_ret
    exact ⟨rfl, HB4.out⟩
  | true =>
    rw [Bool.and_eq_true, goodB_iff, beq_iff_eq] at hg
    obtain ⟨hgd, hlen⟩ := hg
    have HOK := Aside0.mk (good_text hgd hlen)
    have hid1 := hgd.id1
    have hid2 := hgd.id2
    have hs64 := sender_short hgd
    have hl8 := HOK.out.n
    have HGO := Aside0.mk hgd
    have HLEN := Aside0.mk hlen
    have XD := Aside0.mk (fun X => decInt m.id hid1 hid2 X)
    have hil := itoa_len (show 0 ≤ m.id by omega) hid2
    obtain ⟨t, ht⟩ : ∃ t, Lib.itoa m.id = t := ⟨_, rfl⟩
    rw [ht] at XD hil
    have HHT := Aside0.mk (show headT m = frontL ++ m.sender ++ midL ++ t ++ [10] by unfold headT; rw [ht])
    clear ht hgd hlen
    have HID := Aside0.mk hid1
    have hc1 : (9223372036854775807 < 14 + List.length m.sender) = False := by simp; omega
    have hc2 : (9223372036854775807 < 14 + List.length m.sender + 32) = False := by simp; omega
    have hc3 : (9223372036854775807 < 14 + List.length m.sender + 32 + List.length t) = False := by simp; omega
    have hc4 : (9223372036854775807 < 14 + List.length m.sender + 32 + List.length t + 1) = False := by simp; omega
    clear hid1
    go_enter Tryd.func7, Tryd.ntmps7
    go_wp2_with (go_at_call 14; refine (HGD.out _ (below_alloc HB0.out _)).mono ?_; rintro e W3 ⟨rfl, hb⟩; have HX3 := Aside0.mk hb; obtain ⟨m0, m1, m2, m3, m4, m5⟩ := boxCells hb; have HB3 := Aside0.mk (chain' (below_alloc HB0.out _) hb); clear hb)
    go_region_held3 (fun X => X.cell? ⟨w.heap.size, 0, none⟩ = some (.int .i64 m.id) ∧ X.cell? ⟨w.heap.size, 3, none⟩ = some (.string (S m.sender)))
      (first | (with_reducible exact ⟨m0, m3⟩) | (with_reducible exact ⟨n0, n3⟩) | go_keep)
      (first
        | (go_at_call 16; refine (XD.out _).mono ?_; rintro e W5 ⟨rfl, hb⟩; have HB5 := Aside0.mk (chain' (W := W3) (by repeat (first | exact Below.refl _ _ | apply below_drew1)) hb); clear hb; obtain ⟨n0, -, -, n3, -, -⟩ := boxCells (HX3.out.trans (HB5.out.mono HX3.out.size))))
    have HX5 := Aside0.mk (HX3.out.trans (HB5.out.mono HX3.out.size))
    have HB6 := Aside0.mk (chain' HB3.out HB5.out)
    have HT0 := Aside0.mk (front_eq m t HHT.out)
    have hh0 : (headT m).length ≤ 300 := by
      rw [HHT.out]
      simp only [List.length_append, frontL, midL, List.length_cons, List.length_nil]
      omega
    have HH0 := Aside0.mk hh0
    clear m0 m1 m2 m3 m4 m5 n0 n3 hc1 hc2 hc3 hc4 hh0 hil
    go_wp2
    go_loopw [7, 8, 9] (fun v7 v8 v9 wr => ∃ (i k : Nat) (T : List UInt8), i ≤ l.length ∧ T.length ≤ 300 + 100 * i ∧ k ≤ i ∧ v7 = .string (S T) ∧ v8 = .int .i64 k ∧ v9 = .int .i64 i ∧ Aside0 (T = headT m ++ ended (failed m.rcpts l i)) ∧ Aside0 (k = (failed m.rcpts l i).length) ∧ Aside0 (Below W5.heap.size W5 wr)) (fun _ _ v9 _ => l.length - (intOf v9).toNat)
    case atStart => exact ⟨0, 0, headT m, by omega, by have := HH0.out; omega, by omega, congrArg Value.string HT0.out, rfl, rfl, ⟨by rw [failed_zero]; simp [ended]⟩, ⟨by rw [failed_zero]; rfl⟩, ⟨Below.refl _ _⟩⟩
    case round =>
      obtain ⟨i, k, T, hi, hTl, hki, rfl, rfl, rfl, HT, HK, HB⟩ := hrel
      have HBW := Aside0.mk (chain' HB6.out HB.out)
      by_cases hlt : i < l.length
      · have hlt2 : i < m.rcpts.length := by rw [← HLEN.out]; exact hlt
        obtain ⟨ad, x, y, z, o, rfl, hc⟩ := HF.out i hlt
        obtain ⟨s, hs3⟩ : ∃ s, l[i] = s := ⟨_, rfl⟩
        rw [hs3] at hc
        obtain ⟨d0, d1, d2, d3, d4⟩ := fateCells hc HBW.out
        obtain ⟨adr, hA, hcell, -⟩ := (HN.out.below HBW.out) i hlt2
        subst hA
        have hr64 := HOK.out.rc _ (List.getElem_mem hlt2)
        obtain ⟨r, hr3⟩ : ∃ r, m.rcpts[i] = r := ⟨_, rfl⟩
        rw [hr3] at hcell hr64
        have HF2 := Aside0.mk (failed_succ hlt2 hlt hr3 hs3)
        have hk4 := (boxCells (HX5.out.trans (HB.out.mono HX5.out.size))).2.2.2.2.1
        have HEQ := Aside0.mk (fail_eq T r)
        clear hc hs3 hr3 d1 d2 d3 d4
        by_cases h2 : s = 2
        · subst h2
          go_wp2
          go_roundw
          case rel =>
            refine ⟨i + 1, k + 1, T ++ (failOf r ++ [10]), by omega, ?_, by omega, congrArg Value.string HEQ.out, by go_num, by go_num, ⟨?_⟩, ⟨?_⟩, HB⟩
            · simp only [List.length_append, failOf, failL, List.length_cons, List.length_nil]; omega
            · rw [HF2.out, ended_snoc, HT.out, if_pos (by rfl)]; simp [ended]
            · rw [HF2.out, List.length_append, ← HK.out]; rfl
          case measure => simp [intOf]; omega
        · have hb2 : (s == 2) = false := by simpa using h2
          have HF3 := HF2.out
          rw [hb2] at HF3
          have HF4 := Aside0.mk (show failed m.rcpts l (i + 1) = failed m.rcpts l i by rw [HF3]; simp)
          clear HF3 hb2
          go_wp2
          go_roundw
          case rel => exact ⟨i + 1, k, T, by omega, by omega, by omega, rfl, rfl, by go_num, ⟨by rw [HF4.out]; exact HT.out⟩, ⟨by rw [HF4.out]; exact HK.out⟩, HB⟩
          case measure => simp [intOf]; omega
      · obtain rfl : i = l.length := by omega
        have HTX := Aside0.mk (show textB m l = T by rw [HT.out, textB_eq])
        have HMK := Aside0.mk (fun (X : World) (hX : Below w.heap.size w X) => makeIs m HM.out F c l HF.out HOK.out HG.out born X hX)
        have hTE := fun (X : World) (hX : Below w.heap.size w X) => textIs m HM.out F c l HF.out HOK.out HG.out X hX
        rw [HTX.out] at hTE
        have HTE := Aside0.mk hTE
        have HBX := Aside0.mk (HX5.out.trans (HB.out.mono HX5.out.size))
        obtain ⟨m0, m1, m2, m3, m4, m5⟩ := boxCells HBX.out
        obtain ⟨md, hmd⟩ : ∃ md, makeD m l born = md := ⟨_, rfl⟩
        obtain ⟨cb, hcb⟩ : ∃ cb, comesB m l = cb := ⟨_, rfl⟩
        have HMD := Aside0.mk hmd
        have hkk := failed_count m.rcpts l (by rw [HLEN.out]; exact Nat.le_refl _)
        rw [← HK.out] at hkk
        have HKK := Aside0.mk hkk
        have HCB := Aside0.mk hcb
        have hT2 : T.length ≤ 1100 := by omega
        rw [hmd, hcb] at HMK
        have HMDL := Aside0.mk (make_short m l born HOK.out)
        clear hmd hcb hkk hTE hTl
        cases cb with
        | false =>
          have hz : md = zeroM := by rw [← HMD.out]; unfold makeD; rw [HCB.out]; rfl
          have HZ := Aside0.mk hz
          clear hz
          have hcase : k = 0 ∨ (¬ k = 0 ∧ m.sender = []) := by
            by_cases h0 : k = 0
            · exact .inl h0
            · refine .inr ⟨h0, ?_⟩
              have h1 : (l.any fun s => s == 2) = true := by
                cases h2 : l.any fun s => s == 2 with
                | true => rfl
                | false => exact absurd (HKK.out.2 h2) h0
              have h3 := HCB.out
              unfold comesB at h3
              rw [h1, Bool.and_true] at h3
              simpa using h3
          rcases hcase with h0 | ⟨h0, hsd⟩
          · subst h0
            go_wp2_with (first
              | (go_at_call 17; refine (HMK.out _ HBW.out).mono ?_; rintro e W7 ⟨v7, rfl, ⟨A7, c7, Q7, q7, rfl, hs7, hr7, hN7, hB7⟩, hb⟩; have HB7 := Aside0.mk (chain' HBW.out hb); have HC7 := Aside0.mk hb; have HMA := Aside0.mk (show MailAt W7 _ md from ⟨A7, c7, Q7, q7, rfl, hs7, hr7, hN7, hB7⟩); have n0 := fun o => (boxCells (HBX.out.trans ((below_alloc hb o).mono HBX.out.size))).1; have n1 := fun o => (boxCells (HBX.out.trans ((below_alloc hb o).mono HBX.out.size))).2.1; have n2 := fun o => (boxCells (HBX.out.trans ((below_alloc hb o).mono HBX.out.size))).2.2.1; have n3 := fun o => (boxCells (HBX.out.trans ((below_alloc hb o).mono HBX.out.size))).2.2.2.1; have n4 := fun o => (boxCells (HBX.out.trans ((below_alloc hb o).mono HBX.out.size))).2.2.2.2.1; have n5 := fun o => (boxCells (HBX.out.trans ((below_alloc hb o).mono HBX.out.size))).2.2.2.2.2; clear hs7 hr7 hN7 hB7 hb m0 m1 m2 m3 m4 m5)
              | (go_at_call 18; refine (HTE.out _ (below_alloc HB7.out _)).mono ?_; rintro e W8 ⟨g8, c8, hg8, rfl, hr8, hb⟩; have HX8 := Aside0.mk hb; have HB8 := Aside0.mk (chain' (below_alloc HB7.out _) hb); have hcv := convAny (c := c8) hr8 rfl; have hc8 := chain' (below_alloc HC7.out _) hb; have p3 := (boxCells (HBX.out.trans (hc8.mono HBX.out.size))).2.2.2.1; clear hc8; clear hr8 hb hg8 n0 n1 n2 n3 n4 n5)
              | (go_at_call 15; refine (HAN.out _ HB8.out).mono ?_; rintro e W9 ⟨rfl, hb⟩; have HB9 := Aside0.mk (chain' HB8.out hb); have hx9 := HX8.out.trans (hb.mono HX8.out.size); obtain ⟨x0, x1, x2, x3, x4, x5⟩ := boxCells hx9; have HX9 := Aside0.mk hx9; clear hx9 hb hcv)
              | (go_at_call 19; refine (sameIs (W := W9) md (HMA.out.below (chain' (below_alloc (Below.refl _ _) _) HX9.out)) (by rw [HZ.out]; exact zeroAt _) (by rw [← HMD.out]; have := HMDL.out.1; omega) (by rw [← HMD.out]; have := HMDL.out.2; omega)).mono ?_; rintro e W10 ⟨rfl, hb⟩; have HB10 := Aside0.mk (chain' HB9.out hb); clear hb))
            go_ret
            exact ⟨rfl, HB10.out⟩
          · have hk0 : ((k : Int) == 0) = false := by simpa using h0
            have hse : (m.sender == ([] : List UInt8)) = true := by simpa using hsd
            clear h0 hsd
            go_wp2_with (first
              | (go_at_call 17; refine (HMK.out _ HBW.out).mono ?_; rintro e W7 ⟨v7, rfl, ⟨A7, c7, Q7, q7, rfl, hs7, hr7, hN7, hB7⟩, hb⟩; have HB7 := Aside0.mk (chain' HBW.out hb); have HC7 := Aside0.mk hb; have HMA := Aside0.mk (show MailAt W7 _ md from ⟨A7, c7, Q7, q7, rfl, hs7, hr7, hN7, hB7⟩); have n0 := fun o => (boxCells (HBX.out.trans ((below_alloc hb o).mono HBX.out.size))).1; have n1 := fun o => (boxCells (HBX.out.trans ((below_alloc hb o).mono HBX.out.size))).2.1; have n2 := fun o => (boxCells (HBX.out.trans ((below_alloc hb o).mono HBX.out.size))).2.2.1; have n3 := fun o => (boxCells (HBX.out.trans ((below_alloc hb o).mono HBX.out.size))).2.2.2.1; have n4 := fun o => (boxCells (HBX.out.trans ((below_alloc hb o).mono HBX.out.size))).2.2.2.2.1; have n5 := fun o => (boxCells (HBX.out.trans ((below_alloc hb o).mono HBX.out.size))).2.2.2.2.2; clear hs7 hr7 hN7 hB7 hb m0 m1 m2 m3 m4 m5)
              | (go_at_call 18; refine (HTE.out _ (below_alloc HB7.out _)).mono ?_; rintro e W8 ⟨g8, c8, hg8, rfl, hr8, hb⟩; have HX8 := Aside0.mk hb; have HB8 := Aside0.mk (chain' (below_alloc HB7.out _) hb); have hcv := convAny (c := c8) hr8 rfl; have hc8 := chain' (below_alloc HC7.out _) hb; have p3 := (boxCells (HBX.out.trans (hc8.mono HBX.out.size))).2.2.2.1; clear hc8; clear hr8 hb hg8 n0 n1 n2 n3 n4 n5)
              | (go_at_call 15; refine (HAN.out _ HB8.out).mono ?_; rintro e W9 ⟨rfl, hb⟩; have HB9 := Aside0.mk (chain' HB8.out hb); have hx9 := HX8.out.trans (hb.mono HX8.out.size); obtain ⟨x0, x1, x2, x3, x4, x5⟩ := boxCells hx9; have HX9 := Aside0.mk hx9; clear hx9 hb hcv)
              | (go_at_call 19; refine (sameIs (W := W9) md (HMA.out.below (chain' (below_alloc (Below.refl _ _) _) HX9.out)) (by rw [HZ.out]; exact zeroAt _) (by rw [← HMD.out]; have := HMDL.out.1; omega) (by rw [← HMD.out]; have := HMDL.out.2; omega)).mono ?_; rintro e W10 ⟨rfl, hb⟩; have HB10 := Aside0.mk (chain' HB9.out hb); clear hb))
            go_ret
            exact ⟨rfl, HB10.out⟩
        | true =>
          have hz : md = ⟨0, m.id, clampI born, [], [m.sender], T⟩ := by rw [← HMD.out]; unfold makeD; rw [HCB.out, if_pos rfl, HTX.out]
          have HZ := Aside0.mk hz
          have hcb := HCB.out
          unfold comesB at hcb
          rw [Bool.and_eq_true] at hcb
          obtain ⟨hsn, han⟩ := hcb
          have hse : (m.sender == ([] : List UInt8)) = false := by simpa using hsn
          have hk0 : ((k : Int) == 0) = false := by
            simp only [beq_eq_false_iff_ne, ne_eq]
            intro e
            have h1 := HKK.out.1 (by omega)
            rw [h1] at han
            cases han
          clear hz hsn han
          go_wp2_with (first
              | (go_at_call 17; refine (HMK.out _ HBW.out).mono ?_; rintro e W7 ⟨v7, rfl, ⟨A7, c7, Q7, q7, rfl, hs7, hr7, hN7, hB7⟩, hb⟩; have HB7 := Aside0.mk (chain' HBW.out hb); have HC7 := Aside0.mk hb; have HMA := Aside0.mk (show MailAt W7 _ md from ⟨A7, c7, Q7, q7, rfl, hs7, hr7, hN7, hB7⟩); have n0 := fun o => (boxCells (HBX.out.trans ((below_alloc hb o).mono HBX.out.size))).1; have n1 := fun o => (boxCells (HBX.out.trans ((below_alloc hb o).mono HBX.out.size))).2.1; have n2 := fun o => (boxCells (HBX.out.trans ((below_alloc hb o).mono HBX.out.size))).2.2.1; have n3 := fun o => (boxCells (HBX.out.trans ((below_alloc hb o).mono HBX.out.size))).2.2.2.1; have n4 := fun o => (boxCells (HBX.out.trans ((below_alloc hb o).mono HBX.out.size))).2.2.2.2.1; have n5 := fun o => (boxCells (HBX.out.trans ((below_alloc hb o).mono HBX.out.size))).2.2.2.2.2; clear hs7 hr7 hN7 hB7 hb m0 m1 m2 m3 m4 m5)
              | (go_at_call 18; refine (HTE.out _ (below_alloc HB7.out _)).mono ?_; rintro e W8 ⟨g8, c8, hg8, rfl, hr8, hb⟩; have HX8 := Aside0.mk hb; have HB8 := Aside0.mk (chain' (below_alloc HB7.out _) hb); have hcv := convAny (c := c8) hr8 rfl; have hc8 := chain' (below_alloc HC7.out _) hb; have HC8 := Aside0.mk hc8; obtain ⟨p0, -, -, p3, -, -⟩ := boxCells (HBX.out.trans (hc8.mono HBX.out.size)); obtain ⟨x0, x1, x2, x3, x4, x5⟩ := boxCells hb; clear hc8; clear hr8 hb hg8 n0 n1 n2 n3 n4 n5))
          have HS := Aside0.mk (fun (X : World) (hX : Below W8.heap.size W8 X) => both8 HBX.out HC8.out HX8.out hX)
          have hcw := fun X => convOf X T
          have hr1 : md.rcpts.length ≤ 1000000 := by rw [← HMD.out]; have := HMDL.out.1; omega
          have hr2 : md.body.length ≤ 1000000 := by rw [← HMD.out]; have := HMDL.out.2; omega
          have HSA := Aside0.mk (fun (Z : World) (hZ : Below W8.heap.size W8 Z) c5 => sameIs (W := Lib.bytesWorld (Z.alloc (.cells #[.string (S m.sender)] 9)) 5 (S T)) md (HMA.out.below (bytesStep (below_alloc (chain' (chain' (below_alloc (Below.refl _ _) _) HX8.out) hZ) _) _)) (by rw [HZ.out]; exact builtA Z _ T (Z.heap.size + 1) rfl m.id (clampI born) c5 hs (by omega)) hr1 hr2)
          have HSB := Aside0.mk (fun (Z : World) (hZ : Below W8.heap.size W8 Z) c5 => sameIs (W := (Lib.bytesWorld Z 5 (S T)).alloc (.cells #[.string (S m.sender)] 9)) md (HMA.out.below (below_alloc (bytesStep (chain' (chain' (below_alloc (Below.refl _ _) _) HX8.out) hZ) _) _)) (by rw [HZ.out]; exact builtB Z _ T m.id (clampI born) c5 hs (by omega)) hr1 hr2)
          clear hr1 hr2
          -- GENREGION {"f": "pillarbox/pillarboxlaw23.DsnMakes", "region": 16, "ind": 5, "guards": {"1": true, "4": true}, "held": "(fun X => X.cell? ⟨w.heap.size, 0, none⟩ = some (.int .i64 m.id) ∧ X.cell? ⟨w.heap.size, 3, none⟩ = some (.string (S m.sender)) ∧ X.cell? ⟨W7.heap.size, 0, none⟩ = some (.int .i64 md.id) ∧ X.cell? ⟨W7.heap.size, 1, none⟩ = some (.int .i64 md.par) ∧ X.cell? ⟨W7.heap.size, 2, none⟩ = some (.int .i64 md.born) ∧ X.cell? ⟨W7.heap.size, 3, none⟩ = some (.string (S md.sender)) ∧ X.cell? ⟨W7.heap.size, 4, none⟩ = some (.slice A7 md.rcpts.length c7) ∧ X.cell? ⟨W7.heap.size, 5, none⟩ = some (.slice Q7 md.body.length q7))", "keep": "first | (exact HS.out _ HB10.out) | (exact HS.out _ (by repeat (first | exact Below.refl _ _ | exact HB9.out | apply below_drew1 | refine below_alloc ?_ _ | refine bytesStep ?_ _))) | go_keep", "calls": {"0": ["go_simp", "go_at_call 15", "refine (HAN.out _ (by repeat (first | exact HB8.out | apply below_drew1))).mono ?_", "rintro e W9 ⟨rfl, hb⟩", "have HB9 := Aside0.mk (chain' (W := W8) (by repeat (first | exact Below.refl _ _ | apply below_drew1)) hb)", "clear hb", "try go_simp"], "9": ["go_simp", "go_at_call 20", "refine (refClamp born _).mono ?_", "rintro e X ⟨rfl, rfl⟩", "try go_simp"], "16": ["go_simp", "go_at_call 19", "first | (with_reducible refine (HSA.out _ HB9.out _).mono ?_) | (with_reducible refine (HSB.out _ HB9.out _).mono ?_)", "rintro e W10 ⟨rfl, hb⟩", "have HB10 := Aside0.mk (chain' (W := W8) (by repeat (first | exact HB9.out | apply below_drew1 | refine below_alloc ?_ _ | refine bytesStep ?_ _)) hb)", "clear hb", "try go_simp"]}, "final": ["go_wp2", "go_ret", "exact ⟨rfl, chain' HB8.out HB10.out⟩"]}
          refine wp_region_noPanic ?_
          refine wp_region_held_drew (S := (fun X => X.cell? ⟨w.heap.size, 0, none⟩ = some (.int .i64 m.id) ∧ X.cell? ⟨w.heap.size, 3, none⟩ = some (.string (S m.sender)) ∧ X.cell? ⟨W7.heap.size, 0, none⟩ = some (.int .i64 md.id) ∧ X.cell? ⟨W7.heap.size, 1, none⟩ = some (.int .i64 md.par) ∧ X.cell? ⟨W7.heap.size, 2, none⟩ = some (.int .i64 md.born) ∧ X.cell? ⟨W7.heap.size, 3, none⟩ = some (.string (S md.sender)) ∧ X.cell? ⟨W7.heap.size, 4, none⟩ = some (.slice A7 md.rcpts.length c7) ∧ X.cell? ⟨W7.heap.size, 5, none⟩ = some (.slice Q7 md.body.length q7))) (by kernel_rfl) ?_ (fun hHeld => ?_)
          · (try dsimp only); first | (exact HS.out _ HB10.out) | (exact HS.out _ (by repeat (first | exact Below.refl _ _ | exact HB9.out | apply below_drew1 | refine below_alloc ?_ _ | refine bytesStep ?_ _))) | go_keep
          refine wpAnyH_ready (rs := [0]) (by kernel_rfl) (by simp) ?_
          refine AllReadyH.cons rfl (fun K hK => ?_) AllReadyH.nil
          go_simp
          go_at_call 15
          refine (HAN.out _ (by repeat (first | exact HB8.out | apply below_drew1))).mono ?_
          rintro e W9 ⟨rfl, hb⟩
          have HB9 := Aside0.mk (chain' (W := W8) (by repeat (first | exact Below.refl _ _ | apply below_drew1)) hb)
          clear hb
          try go_simp
          refine hK.out _ _ ?_ (fun hHeld => ?_)
          · (try dsimp only); first | (exact HS.out _ HB10.out) | (exact HS.out _ (by repeat (first | exact Below.refl _ _ | exact HB9.out | apply below_drew1 | refine below_alloc ?_ _ | refine bytesStep ?_ _))) | go_keep
          clear hK K
          try go_simp
          refine wpAnyH_take (i := 1) (v := ?_) rfl (by kernel_rfl) (by kernel_rfl) (by kernel_rfl) (fun _ _ _ h => h) (Or.inl ⟨by rfl, ?_⟩) (by assumption) ?_
          rotate_left
          · (intro w hSw; (try dsimp only at hSw); (go_simp <;> with_reducible rfl))
          try go_simp
          refine wpAnyH_take (i := 2) (v := ?_) rfl (by kernel_rfl) (by kernel_rfl) (by kernel_rfl) (fun _ _ _ h => h) (Or.inl ⟨by rfl, ?_⟩) (by assumption) ?_
          rotate_left
          · (intro w hSw; (try dsimp only at hSw); (go_simp <;> with_reducible rfl))
          try go_simp
          refine wpAnyH_take (i := 3) (v := ?_) rfl (by kernel_rfl) (by kernel_rfl) (by kernel_rfl) (fun _ _ _ h => h) (Or.inl ⟨by rfl, ?_⟩) (by assumption) ?_
          rotate_left
          · (intro w hSw; (try dsimp only at hSw); (go_simp <;> with_reducible rfl))
          try go_simp
          refine wpAnyH_take (i := 4) (v := ?_) rfl (by kernel_rfl) (by kernel_rfl) (by kernel_rfl) (fun _ _ _ h => h) (Or.inl ⟨by rfl, ?_⟩) (by assumption) ?_
          rotate_left
          · (intro w hSw; (try dsimp only at hSw); (go_simp <;> with_reducible rfl))
          try go_simp
          refine wpAnyH_take (i := 5) (v := ?_) rfl (by kernel_rfl) (by kernel_rfl) (by kernel_rfl) (fun _ _ _ h => h) (Or.inl ⟨by rfl, ?_⟩) (by assumption) ?_
          rotate_left
          · (intro w hSw; (try dsimp only at hSw); (go_simp <;> with_reducible rfl))
          try go_simp
          refine wpAnyH_take (i := 6) (v := ?_) rfl (by kernel_rfl) (by kernel_rfl) (by kernel_rfl) (fun _ _ _ h => h) (Or.inl ⟨by rfl, ?_⟩) (by assumption) ?_
          rotate_left
          · (intro w hSw; (try dsimp only at hSw); (go_simp <;> with_reducible rfl))
          try go_simp
          refine wpAnyH_take (i := 7) (v := ?_) rfl (by kernel_rfl) (by kernel_rfl) (by kernel_rfl) (fun _ _ _ h => h) (Or.inl ⟨by rfl, ?_⟩) (by assumption) ?_
          rotate_left
          · (intro w hSw; (try dsimp only at hSw); (go_simp <;> with_reducible rfl))
          try go_simp
          refine wpAnyH_take (i := 8) (v := ?_) rfl (by kernel_rfl) (by kernel_rfl) (by kernel_rfl) (fun _ _ _ h => h) (Or.inl ⟨by rfl, ?_⟩) (by assumption) ?_
          rotate_left
          · (intro w hSw; (try dsimp only at hSw); (go_simp <;> with_reducible rfl))
          try go_simp
          refine wpAnyH_take (i := 10) (v := ?_) rfl (by kernel_rfl) (by kernel_rfl) (by kernel_rfl) (fun _ _ _ h => h) (Or.inl ⟨by rfl, ?_⟩) (by assumption) ?_
          rotate_left
          · (intro w hSw; (try dsimp only at hSw); (go_simp <;> with_reducible rfl))
          try go_simp
          refine wpAnyH_take (i := 11) (v := ?_) rfl (by kernel_rfl) (by kernel_rfl) (by kernel_rfl) (fun _ _ _ h => h) (Or.inl ⟨by rfl, ?_⟩) (by assumption) ?_
          rotate_left
          · (intro w hSw; (try dsimp only at hSw); (go_simp <;> with_reducible rfl))
          try go_simp
          refine wpAnyH_take (i := 13) (v := ?_) rfl (by kernel_rfl) (by kernel_rfl) (by kernel_rfl) (fun _ _ _ h => h) (Or.inl ⟨by rfl, ?_⟩) (by assumption) ?_
          rotate_left
          · (intro w hSw; (try dsimp only at hSw); (go_simp <;> with_reducible rfl))
          try go_simp
          refine wpAnyH_ready (rs := [9, 12, 14]) (by kernel_rfl) (by simp) ?_
          refine AllReadyH.cons rfl (fun K hK => ?_) ?_
          · skip
            go_simp
            go_at_call 20
            refine (refClamp born _).mono ?_
            rintro e X ⟨rfl, rfl⟩
            try go_simp
            refine hK.out _ _ ?_ (fun hHeld => ?_)
            · (try dsimp only); first | (exact HS.out _ HB10.out) | (exact HS.out _ (by repeat (first | exact Below.refl _ _ | exact HB9.out | apply below_drew1 | refine below_alloc ?_ _ | refine bytesStep ?_ _))) | go_keep
            clear hK K
            try go_simp
            refine wpAnyH_ready (rs := [12, 14]) (by kernel_rfl) (by simp) ?_
            refine AllReadyH.cons rfl (fun K hK => ?_) ?_
            · skip
              go_simp
              refine hK.out _ _ ?_ (fun hHeld => ?_)
              · (try dsimp only); first | (exact HS.out _ HB10.out) | (exact HS.out _ (by repeat (first | exact Below.refl _ _ | exact HB9.out | apply below_drew1 | refine below_alloc ?_ _ | refine bytesStep ?_ _))) | go_keep
              clear hK K
              try go_simp
              refine wpAnyH_ready (rs := [14]) (by kernel_rfl) (by simp) ?_
              refine AllReadyH.cons rfl (fun K hK => ?_) AllReadyH.nil
              go_simp
              refine hK.out _ _ ?_ (fun hHeld => ?_)
              · (try dsimp only); first | (exact HS.out _ HB10.out) | (exact HS.out _ (by repeat (first | exact Below.refl _ _ | exact HB9.out | apply below_drew1 | refine below_alloc ?_ _ | refine bytesStep ?_ _))) | go_keep
              clear hK K
              try go_simp
              refine wpAnyH_take (i := 15) (v := ?_) rfl (by kernel_rfl) (by kernel_rfl) (by kernel_rfl) (fun _ _ _ h => h) (Or.inl ⟨by rfl, ?_⟩) (by assumption) ?_
              rotate_left
              · (intro w hSw; (try dsimp only at hSw); (go_simp <;> with_reducible rfl))
              try go_simp
              refine wpAnyH_ready (rs := [16]) (by kernel_rfl) (by simp) ?_
              refine AllReadyH.cons rfl (fun K hK => ?_) AllReadyH.nil
              go_simp
              go_at_call 19
              first | (with_reducible refine (HSA.out _ HB9.out _).mono ?_) | (with_reducible refine (HSB.out _ HB9.out _).mono ?_)
              rintro e W10 ⟨rfl, hb⟩
              have HB10 := Aside0.mk (chain' (W := W8) (by repeat (first | exact HB9.out | apply below_drew1 | refine below_alloc ?_ _ | refine bytesStep ?_ _)) hb)
              clear hb
              try go_simp
              refine hK.out _ _ ?_ (fun hHeld => ?_)
              · (try dsimp only); first | (exact HS.out _ HB10.out) | (exact HS.out _ (by repeat (first | exact Below.refl _ _ | exact HB9.out | apply below_drew1 | refine below_alloc ?_ _ | refine bytesStep ?_ _))) | go_keep
              clear hK K
              try go_simp
              refine wpAnyH_take (i := 17) (v := ?_) rfl (by kernel_rfl) (by kernel_rfl) (by kernel_rfl) (fun _ _ _ h => h) (Or.inl ⟨by rfl, ?_⟩) (by assumption) ?_
              rotate_left
              · (intro w hSw; (try dsimp only at hSw); (go_simp <;> with_reducible rfl))
              try go_simp
              refine wpAnyH_take (i := 18) (v := ?_) rfl (by kernel_rfl) (by kernel_rfl) (by kernel_rfl) (fun _ _ _ h => h) (Or.inl ⟨by rfl, ?_⟩) (by assumption) ?_
              rotate_left
              · (intro w hSw; (try dsimp only at hSw); (go_simp <;> with_reducible rfl))
              try go_simp
              refine wpAnyH_done (by kernel_rfl) ?_ _
              refine NoPanic.normal ?_
              go_wp2
              go_ret
              exact ⟨rfl, chain' HB8.out HB10.out⟩
            refine AllReadyH.cons rfl (fun K hK => ?_) ?_
            · skip
              go_simp
              refine hK.out _ _ ?_ (fun hHeld => ?_)
              · (try dsimp only); first | (exact HS.out _ HB10.out) | (exact HS.out _ (by repeat (first | exact Below.refl _ _ | exact HB9.out | apply below_drew1 | refine below_alloc ?_ _ | refine bytesStep ?_ _))) | go_keep
              clear hK K
              try go_simp
              refine wpAnyH_ready (rs := [12]) (by kernel_rfl) (by simp) ?_
              refine AllReadyH.cons rfl (fun K hK => ?_) AllReadyH.nil
              go_simp
              refine hK.out _ _ ?_ (fun hHeld => ?_)
              · (try dsimp only); first | (exact HS.out _ HB10.out) | (exact HS.out _ (by repeat (first | exact Below.refl _ _ | exact HB9.out | apply below_drew1 | refine below_alloc ?_ _ | refine bytesStep ?_ _))) | go_keep
              clear hK K
              try go_simp
              refine wpAnyH_take (i := 15) (v := ?_) rfl (by kernel_rfl) (by kernel_rfl) (by kernel_rfl) (fun _ _ _ h => h) (Or.inl ⟨by rfl, ?_⟩) (by assumption) ?_
              rotate_left
              · (intro w hSw; (try dsimp only at hSw); (go_simp <;> with_reducible rfl))
              try go_simp
              refine wpAnyH_ready (rs := [16]) (by kernel_rfl) (by simp) ?_
              refine AllReadyH.cons rfl (fun K hK => ?_) AllReadyH.nil
              go_simp
              go_at_call 19
              first | (with_reducible refine (HSA.out _ HB9.out _).mono ?_) | (with_reducible refine (HSB.out _ HB9.out _).mono ?_)
              rintro e W10 ⟨rfl, hb⟩
              have HB10 := Aside0.mk (chain' (W := W8) (by repeat (first | exact HB9.out | apply below_drew1 | refine below_alloc ?_ _ | refine bytesStep ?_ _)) hb)
              clear hb
              try go_simp
              refine hK.out _ _ ?_ (fun hHeld => ?_)
              · (try dsimp only); first | (exact HS.out _ HB10.out) | (exact HS.out _ (by repeat (first | exact Below.refl _ _ | exact HB9.out | apply below_drew1 | refine below_alloc ?_ _ | refine bytesStep ?_ _))) | go_keep
              clear hK K
              try go_simp
              refine wpAnyH_take (i := 17) (v := ?_) rfl (by kernel_rfl) (by kernel_rfl) (by kernel_rfl) (fun _ _ _ h => h) (Or.inl ⟨by rfl, ?_⟩) (by assumption) ?_
              rotate_left
              · (intro w hSw; (try dsimp only at hSw); (go_simp <;> with_reducible rfl))
              try go_simp
              refine wpAnyH_take (i := 18) (v := ?_) rfl (by kernel_rfl) (by kernel_rfl) (by kernel_rfl) (fun _ _ _ h => h) (Or.inl ⟨by rfl, ?_⟩) (by assumption) ?_
              rotate_left
              · (intro w hSw; (try dsimp only at hSw); (go_simp <;> with_reducible rfl))
              try go_simp
              refine wpAnyH_done (by kernel_rfl) ?_ _
              refine NoPanic.normal ?_
              go_wp2
              go_ret
              exact ⟨rfl, chain' HB8.out HB10.out⟩
            exact AllReadyH.nil
          refine AllReadyH.cons rfl (fun K hK => ?_) ?_
          · skip
            go_simp
            refine hK.out _ _ ?_ (fun hHeld => ?_)
            · (try dsimp only); first | (exact HS.out _ HB10.out) | (exact HS.out _ (by repeat (first | exact Below.refl _ _ | exact HB9.out | apply below_drew1 | refine below_alloc ?_ _ | refine bytesStep ?_ _))) | go_keep
            clear hK K
            try go_simp
            refine wpAnyH_ready (rs := [9, 14]) (by kernel_rfl) (by simp) ?_
            refine AllReadyH.cons rfl (fun K hK => ?_) ?_
            · skip
              go_simp
              go_at_call 20
              refine (refClamp born _).mono ?_
              rintro e X ⟨rfl, rfl⟩
              try go_simp
              refine hK.out _ _ ?_ (fun hHeld => ?_)
              · (try dsimp only); first | (exact HS.out _ HB10.out) | (exact HS.out _ (by repeat (first | exact Below.refl _ _ | exact HB9.out | apply below_drew1 | refine below_alloc ?_ _ | refine bytesStep ?_ _))) | go_keep
              clear hK K
              try go_simp
              refine wpAnyH_ready (rs := [14]) (by kernel_rfl) (by simp) ?_
              refine AllReadyH.cons rfl (fun K hK => ?_) AllReadyH.nil
              go_simp
              refine hK.out _ _ ?_ (fun hHeld => ?_)
              · (try dsimp only); first | (exact HS.out _ HB10.out) | (exact HS.out _ (by repeat (first | exact Below.refl _ _ | exact HB9.out | apply below_drew1 | refine below_alloc ?_ _ | refine bytesStep ?_ _))) | go_keep
              clear hK K
              try go_simp
              refine wpAnyH_take (i := 15) (v := ?_) rfl (by kernel_rfl) (by kernel_rfl) (by kernel_rfl) (fun _ _ _ h => h) (Or.inl ⟨by rfl, ?_⟩) (by assumption) ?_
              rotate_left
              · (intro w hSw; (try dsimp only at hSw); (go_simp <;> with_reducible rfl))
              try go_simp
              refine wpAnyH_ready (rs := [16]) (by kernel_rfl) (by simp) ?_
              refine AllReadyH.cons rfl (fun K hK => ?_) AllReadyH.nil
              go_simp
              go_at_call 19
              first | (with_reducible refine (HSA.out _ HB9.out _).mono ?_) | (with_reducible refine (HSB.out _ HB9.out _).mono ?_)
              rintro e W10 ⟨rfl, hb⟩
              have HB10 := Aside0.mk (chain' (W := W8) (by repeat (first | exact HB9.out | apply below_drew1 | refine below_alloc ?_ _ | refine bytesStep ?_ _)) hb)
              clear hb
              try go_simp
              refine hK.out _ _ ?_ (fun hHeld => ?_)
              · (try dsimp only); first | (exact HS.out _ HB10.out) | (exact HS.out _ (by repeat (first | exact Below.refl _ _ | exact HB9.out | apply below_drew1 | refine below_alloc ?_ _ | refine bytesStep ?_ _))) | go_keep
              clear hK K
              try go_simp
              refine wpAnyH_take (i := 17) (v := ?_) rfl (by kernel_rfl) (by kernel_rfl) (by kernel_rfl) (fun _ _ _ h => h) (Or.inl ⟨by rfl, ?_⟩) (by assumption) ?_
              rotate_left
              · (intro w hSw; (try dsimp only at hSw); (go_simp <;> with_reducible rfl))
              try go_simp
              refine wpAnyH_take (i := 18) (v := ?_) rfl (by kernel_rfl) (by kernel_rfl) (by kernel_rfl) (fun _ _ _ h => h) (Or.inl ⟨by rfl, ?_⟩) (by assumption) ?_
              rotate_left
              · (intro w hSw; (try dsimp only at hSw); (go_simp <;> with_reducible rfl))
              try go_simp
              refine wpAnyH_done (by kernel_rfl) ?_ _
              refine NoPanic.normal ?_
              go_wp2
              go_ret
              exact ⟨rfl, chain' HB8.out HB10.out⟩
            refine AllReadyH.cons rfl (fun K hK => ?_) ?_
            · skip
              go_simp
              refine hK.out _ _ ?_ (fun hHeld => ?_)
              · (try dsimp only); first | (exact HS.out _ HB10.out) | (exact HS.out _ (by repeat (first | exact Below.refl _ _ | exact HB9.out | apply below_drew1 | refine below_alloc ?_ _ | refine bytesStep ?_ _))) | go_keep
              clear hK K
              try go_simp
              refine wpAnyH_ready (rs := [9]) (by kernel_rfl) (by simp) ?_
              refine AllReadyH.cons rfl (fun K hK => ?_) AllReadyH.nil
              go_simp
              go_at_call 20
              refine (refClamp born _).mono ?_
              rintro e X ⟨rfl, rfl⟩
              try go_simp
              refine hK.out _ _ ?_ (fun hHeld => ?_)
              · (try dsimp only); first | (exact HS.out _ HB10.out) | (exact HS.out _ (by repeat (first | exact Below.refl _ _ | exact HB9.out | apply below_drew1 | refine below_alloc ?_ _ | refine bytesStep ?_ _))) | go_keep
              clear hK K
              try go_simp
              refine wpAnyH_take (i := 15) (v := ?_) rfl (by kernel_rfl) (by kernel_rfl) (by kernel_rfl) (fun _ _ _ h => h) (Or.inl ⟨by rfl, ?_⟩) (by assumption) ?_
              rotate_left
              · (intro w hSw; (try dsimp only at hSw); (go_simp <;> with_reducible rfl))
              try go_simp
              refine wpAnyH_ready (rs := [16]) (by kernel_rfl) (by simp) ?_
              refine AllReadyH.cons rfl (fun K hK => ?_) AllReadyH.nil
              go_simp
              go_at_call 19
              first | (with_reducible refine (HSA.out _ HB9.out _).mono ?_) | (with_reducible refine (HSB.out _ HB9.out _).mono ?_)
              rintro e W10 ⟨rfl, hb⟩
              have HB10 := Aside0.mk (chain' (W := W8) (by repeat (first | exact HB9.out | apply below_drew1 | refine below_alloc ?_ _ | refine bytesStep ?_ _)) hb)
              clear hb
              try go_simp
              refine hK.out _ _ ?_ (fun hHeld => ?_)
              · (try dsimp only); first | (exact HS.out _ HB10.out) | (exact HS.out _ (by repeat (first | exact Below.refl _ _ | exact HB9.out | apply below_drew1 | refine below_alloc ?_ _ | refine bytesStep ?_ _))) | go_keep
              clear hK K
              try go_simp
              refine wpAnyH_take (i := 17) (v := ?_) rfl (by kernel_rfl) (by kernel_rfl) (by kernel_rfl) (fun _ _ _ h => h) (Or.inl ⟨by rfl, ?_⟩) (by assumption) ?_
              rotate_left
              · (intro w hSw; (try dsimp only at hSw); (go_simp <;> with_reducible rfl))
              try go_simp
              refine wpAnyH_take (i := 18) (v := ?_) rfl (by kernel_rfl) (by kernel_rfl) (by kernel_rfl) (fun _ _ _ h => h) (Or.inl ⟨by rfl, ?_⟩) (by assumption) ?_
              rotate_left
              · (intro w hSw; (try dsimp only at hSw); (go_simp <;> with_reducible rfl))
              try go_simp
              refine wpAnyH_done (by kernel_rfl) ?_ _
              refine NoPanic.normal ?_
              go_wp2
              go_ret
              exact ⟨rfl, chain' HB8.out HB10.out⟩
            exact AllReadyH.nil
          refine AllReadyH.cons rfl (fun K hK => ?_) ?_
          · skip
            go_simp
            refine hK.out _ _ ?_ (fun hHeld => ?_)
            · (try dsimp only); first | (exact HS.out _ HB10.out) | (exact HS.out _ (by repeat (first | exact Below.refl _ _ | exact HB9.out | apply below_drew1 | refine below_alloc ?_ _ | refine bytesStep ?_ _))) | go_keep
            clear hK K
            try go_simp
            refine wpAnyH_ready (rs := [9, 12]) (by kernel_rfl) (by simp) ?_
            refine AllReadyH.cons rfl (fun K hK => ?_) ?_
            · skip
              go_simp
              go_at_call 20
              refine (refClamp born _).mono ?_
              rintro e X ⟨rfl, rfl⟩
              try go_simp
              refine hK.out _ _ ?_ (fun hHeld => ?_)
              · (try dsimp only); first | (exact HS.out _ HB10.out) | (exact HS.out _ (by repeat (first | exact Below.refl _ _ | exact HB9.out | apply below_drew1 | refine below_alloc ?_ _ | refine bytesStep ?_ _))) | go_keep
              clear hK K
              try go_simp
              refine wpAnyH_ready (rs := [12]) (by kernel_rfl) (by simp) ?_
              refine AllReadyH.cons rfl (fun K hK => ?_) AllReadyH.nil
              go_simp
              refine hK.out _ _ ?_ (fun hHeld => ?_)
              · (try dsimp only); first | (exact HS.out _ HB10.out) | (exact HS.out _ (by repeat (first | exact Below.refl _ _ | exact HB9.out | apply below_drew1 | refine below_alloc ?_ _ | refine bytesStep ?_ _))) | go_keep
              clear hK K
              try go_simp
              refine wpAnyH_take (i := 15) (v := ?_) rfl (by kernel_rfl) (by kernel_rfl) (by kernel_rfl) (fun _ _ _ h => h) (Or.inl ⟨by rfl, ?_⟩) (by assumption) ?_
              rotate_left
              · (intro w hSw; (try dsimp only at hSw); (go_simp <;> with_reducible rfl))
              try go_simp
              refine wpAnyH_ready (rs := [16]) (by kernel_rfl) (by simp) ?_
              refine AllReadyH.cons rfl (fun K hK => ?_) AllReadyH.nil
              go_simp
              go_at_call 19
              first | (with_reducible refine (HSA.out _ HB9.out _).mono ?_) | (with_reducible refine (HSB.out _ HB9.out _).mono ?_)
              rintro e W10 ⟨rfl, hb⟩
              have HB10 := Aside0.mk (chain' (W := W8) (by repeat (first | exact HB9.out | apply below_drew1 | refine below_alloc ?_ _ | refine bytesStep ?_ _)) hb)
              clear hb
              try go_simp
              refine hK.out _ _ ?_ (fun hHeld => ?_)
              · (try dsimp only); first | (exact HS.out _ HB10.out) | (exact HS.out _ (by repeat (first | exact Below.refl _ _ | exact HB9.out | apply below_drew1 | refine below_alloc ?_ _ | refine bytesStep ?_ _))) | go_keep
              clear hK K
              try go_simp
              refine wpAnyH_take (i := 17) (v := ?_) rfl (by kernel_rfl) (by kernel_rfl) (by kernel_rfl) (fun _ _ _ h => h) (Or.inl ⟨by rfl, ?_⟩) (by assumption) ?_
              rotate_left
              · (intro w hSw; (try dsimp only at hSw); (go_simp <;> with_reducible rfl))
              try go_simp
              refine wpAnyH_take (i := 18) (v := ?_) rfl (by kernel_rfl) (by kernel_rfl) (by kernel_rfl) (fun _ _ _ h => h) (Or.inl ⟨by rfl, ?_⟩) (by assumption) ?_
              rotate_left
              · (intro w hSw; (try dsimp only at hSw); (go_simp <;> with_reducible rfl))
              try go_simp
              refine wpAnyH_done (by kernel_rfl) ?_ _
              refine NoPanic.normal ?_
              go_wp2
              go_ret
              exact ⟨rfl, chain' HB8.out HB10.out⟩
            refine AllReadyH.cons rfl (fun K hK => ?_) ?_
            · skip
              go_simp
              refine hK.out _ _ ?_ (fun hHeld => ?_)
              · (try dsimp only); first | (exact HS.out _ HB10.out) | (exact HS.out _ (by repeat (first | exact Below.refl _ _ | exact HB9.out | apply below_drew1 | refine below_alloc ?_ _ | refine bytesStep ?_ _))) | go_keep
              clear hK K
              try go_simp
              refine wpAnyH_ready (rs := [9]) (by kernel_rfl) (by simp) ?_
              refine AllReadyH.cons rfl (fun K hK => ?_) AllReadyH.nil
              go_simp
              go_at_call 20
              refine (refClamp born _).mono ?_
              rintro e X ⟨rfl, rfl⟩
              try go_simp
              refine hK.out _ _ ?_ (fun hHeld => ?_)
              · (try dsimp only); first | (exact HS.out _ HB10.out) | (exact HS.out _ (by repeat (first | exact Below.refl _ _ | exact HB9.out | apply below_drew1 | refine below_alloc ?_ _ | refine bytesStep ?_ _))) | go_keep
              clear hK K
              try go_simp
              refine wpAnyH_take (i := 15) (v := ?_) rfl (by kernel_rfl) (by kernel_rfl) (by kernel_rfl) (fun _ _ _ h => h) (Or.inl ⟨by rfl, ?_⟩) (by assumption) ?_
              rotate_left
              · (intro w hSw; (try dsimp only at hSw); (go_simp <;> with_reducible rfl))
              try go_simp
              refine wpAnyH_ready (rs := [16]) (by kernel_rfl) (by simp) ?_
              refine AllReadyH.cons rfl (fun K hK => ?_) AllReadyH.nil
              go_simp
              go_at_call 19
              first | (with_reducible refine (HSA.out _ HB9.out _).mono ?_) | (with_reducible refine (HSB.out _ HB9.out _).mono ?_)
              rintro e W10 ⟨rfl, hb⟩
              have HB10 := Aside0.mk (chain' (W := W8) (by repeat (first | exact HB9.out | apply below_drew1 | refine below_alloc ?_ _ | refine bytesStep ?_ _)) hb)
              clear hb
              try go_simp
              refine hK.out _ _ ?_ (fun hHeld => ?_)
              · (try dsimp only); first | (exact HS.out _ HB10.out) | (exact HS.out _ (by repeat (first | exact Below.refl _ _ | exact HB9.out | apply below_drew1 | refine below_alloc ?_ _ | refine bytesStep ?_ _))) | go_keep
              clear hK K
              try go_simp
              refine wpAnyH_take (i := 17) (v := ?_) rfl (by kernel_rfl) (by kernel_rfl) (by kernel_rfl) (fun _ _ _ h => h) (Or.inl ⟨by rfl, ?_⟩) (by assumption) ?_
              rotate_left
              · (intro w hSw; (try dsimp only at hSw); (go_simp <;> with_reducible rfl))
              try go_simp
              refine wpAnyH_take (i := 18) (v := ?_) rfl (by kernel_rfl) (by kernel_rfl) (by kernel_rfl) (fun _ _ _ h => h) (Or.inl ⟨by rfl, ?_⟩) (by assumption) ?_
              rotate_left
              · (intro w hSw; (try dsimp only at hSw); (go_simp <;> with_reducible rfl))
              try go_simp
              refine wpAnyH_done (by kernel_rfl) ?_ _
              refine NoPanic.normal ?_
              go_wp2
              go_ret
              exact ⟨rfl, chain' HB8.out HB10.out⟩
            exact AllReadyH.nil
          exact AllReadyH.nil
          -- END
end Go.Proofs.YthdjeikfbbdehaaDoor.Fs
