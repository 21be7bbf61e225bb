/- law23: DsnGood. -/
import Derived.Test.YthdjeikfbbdehaaDoorDsnMakes
namespace Go.Proofs.YthdjeikfbbdehaaDoor.Fs
open Go.RowKit Go.Proofs.YthdjeikfbbdehaaDoor Go.Proofs.YthdjeikfbbdehaaDoor.Plain Go.Proofs.YthdjeikfbbdehaaDoorW.PrintWords Go.Maps
set_option linter.unusedVariables false
set_option linter.unusedSimpArgs false
theorem digits_no13 (n : Nat) : ∀ c ∈ Lib.decDigits n, c ≠ 13 := by
  induction n using Nat.strongRecOn with
  | ind n ih =>
    intro c hc e
    subst e
    rw [dec_step] at hc
    rcases List.mem_append.1 hc with hc | hc
    · split at hc
      · cases hc
      · exact ih (n / 10) (by omega) 13 hc rfl
    · rw [List.mem_singleton] at hc
      have := congrArg UInt8.toNat hc
      rw [digit_toNat] at this
      have h13 : (13 : UInt8).toNat = 13 := rfl
      omega
theorem itoa_no13 {n : Int} (h : 0 ≤ n) : ∀ c ∈ Lib.itoa n, c ≠ 13 := by
  unfold Lib.itoa
  rw [if_neg (by omega)]
  exact digits_no13 _
theorem failOf_no13 {r : Nm} (h : ∀ c ∈ r, c ≠ 13) : ∀ c ∈ failOf r, c ≠ 13 := by
  intro c hc
  unfold failOf at hc
  rcases List.mem_append.1 hc with hc | hc
  · rcases List.mem_append.1 hc with hc | hc
    · exact (show ∀ c ∈ failL, c ≠ 13 by decide) c hc
    · exact h c hc
  · exact (show ∀ c ∈ ([62] : Nm), c ≠ 13 by decide) c hc
theorem text_good {m : MailD} {l : List Int} (h : GoodD m) (hl : l.length = m.rcpts.length) : bodyB (textB m l) = true ∧ (textB m l).length ≤ 8192 := by
  have hs : ∀ c ∈ m.sender, c ≠ 13 := by
    rcases h.from_ with h | h
    · rw [h]; intro c hc; cases hc
    · exact (boxB_some h).2
  refine ⟨?_, ?_⟩
  · unfold bodyB
    rw [Bool.and_eq_true]
    constructor
    · rw [List.all_eq_true]
      intro c hc
      simp only [bne_iff_ne, ne_eq]
      rw [textB_eq] at hc
      rcases List.mem_append.1 hc with hc | hc
      · unfold headT at hc
        rcases List.mem_append.1 hc with hc | hc
        · rcases List.mem_append.1 hc with hc | hc
          · rcases List.mem_append.1 hc with hc | hc
            · rcases List.mem_append.1 hc with hc | hc
              · exact (show ∀ c ∈ frontL, c ≠ 13 by decide) c hc
              · exact hs c hc
            · exact (show ∀ c ∈ midL, c ≠ 13 by decide) c hc
          · exact itoa_no13 (by have := h.id1; omega) c hc
        · exact (show ∀ c ∈ ([10] : Nm), c ≠ 13 by decide) c hc
      · unfold ended at hc
        obtain ⟨s, hs2, hc⟩ := List.mem_flatMap.1 hc
        obtain ⟨r, hr, rfl⟩ := failed_mem hs2
        rcases List.mem_append.1 hc with hc | hc
        · exact failOf_no13 (boxB_some (h.box r hr)).2 c hc
        · exact (show ∀ c ∈ ([10] : Nm), c ≠ 13 by decide) c hc
    · unfold textB
      rw [List.getLast?_append]
      rfl
  · have := join_short m l (good_text h hl)
    unfold textB
    rw [List.length_append]
    show _ + 1 ≤ _
    omega
theorem clampI_in (n : Int) : 0 ≤ clampI n ∧ clampI n ≤ 1099511627776 := by
  unfold clampI
  split
  · omega
  · split <;> omega
def backD (m : MailD) (l : List Int) (born id : Int) : MailD := ⟨id, m.id, clampI born, [], [m.sender], textB m l⟩
theorem back_good {m : MailD} {l : List Int} (h : GoodD m) (hl : l.length = m.rcpts.length) (born id : Int) (hid : m.id < id) (hi : id ≤ 999999999) (hc : comesB m l = true) : GoodD (backD m l born id) := by
  have h1 := h.id1
  have ht := text_good h hl
  refine ⟨by show 1 ≤ id; omega, hi, by show 0 ≤ m.id; omega, hid, (clampI_in born).1, (clampI_in born).2, by show 1 ≤ 1; omega, by show 1 ≤ 8; omega, ht.2, ht.1, ?_, .inl rfl⟩
  intro s hs
  obtain rfl : s = m.sender := by simpa [backD] using hs
  unfold comesB at hc
  rw [Bool.and_eq_true] at hc
  rcases h.from_ with hf | hf
  · rw [hf] at hc; cases hc.1
  · exact hf
theorem back_text {m : MailD} {l : List Int} (h : GoodD m) (born id : Int) (h1 : 0 ≤ id) (hi : id ≤ 999999999) : TextOk (backD m l born id) [2] :=
  ⟨h1, hi, show ([] : Nm).length ≤ 64 by decide, (fun r hr => (by rw [show r = m.sender by simpa [backD] using hr]; exact sender_short h)), rfl, by decide⟩
theorem makeYes {w : World} {v : Value} (m : MailD) (h : MailAt w v m) (F : Option Addr) (c : Nat) (l : List Int) (hl : FatesAt w F l) (hok : TextOk m l) (hG : GI w) (born : Int) (W : World) (hW : Below w.heap.size w W) (hc : comesB m l = true) (tx : List UInt8) (ht : textB m l = tx) :
    Calls Tryd.prog 17 #[v, .slice F l.length c, .int .i64 born] W fun e W' => ∃ A7 c7 Q7 q7, e = .returned (.tuple #[.agg #[.int .i64 0, .int .i64 m.id, .int .i64 (clampI born), .string ⟨#[]⟩, .slice A7 1 c7, .slice Q7 tx.length q7], .bool true]) ∧ NamesAt W' A7 [m.sender] ∧ ReadsInt W' .u8 Q7 (B tx).length (B tx) ∧ Below W.heap.size W W' := by
  have h := makeIs m h F c l hl hok hG born W hW
  have hmk : makeD m l born = ⟨0, m.id, clampI born, [], [m.sender], tx⟩ := by unfold makeD; rw [hc, if_pos rfl, ht]
  rw [hmk, hc] at h
  refine h.mono ?_
  rintro e W' ⟨v', rfl, ⟨A, c, Q, q, rfl, -, -, hN, hB⟩, hb⟩
  exact ⟨A, c, Q, q, rfl, hN, hB, hb⟩
/-- of what came back nothing comes back -/
theorem makeNo {w : World} {v : Value} (m : MailD) (h : MailAt w v m) (hs : m.sender = []) (F : Option Addr) (hl : FatesAt w F [2]) (hok : TextOk m [2]) (hG : GI w) (born : Int) :
    Calls Tryd.prog 17 #[v, .slice F 1 1, .int .i64 born] w fun e W' => ∃ (A8 : Option Addr) (c8 : Nat) (Q8 : Option Addr) (q8 : Nat), e = .returned (.tuple #[.agg #[.int .i64 0, .int .i64 0, .int .i64 0, .string ⟨#[]⟩, .slice A8 0 c8, .slice Q8 0 q8], .bool false]) ∧ Below w.heap.size w W' := by
  have h := makeIs m h F 1 [2] hl hok hG born w (Below.refl _ _)
  have hc : comesB m [2] = false := by unfold comesB; rw [hs]; rfl
  have hz : makeD m [2] born = zeroM := by unfold makeD; rw [hc]; rfl
  rw [hc, hz] at h
  refine h.mono ?_
  rintro e W' ⟨v', rfl, ⟨A, c, Q, q, rfl, -, -, hN, hB⟩, hb⟩
  exact ⟨A, c, Q, q, rfl, hb⟩
theorem backAt {W7 : World} {A7 Q7 : Option Addr} {c7 q7 : Nat} {s tx : List UInt8} (hs : s.length ≤ 140737488351232) (id par born : Int) (Y : World) (hY : Below W7.heap.size W7 Y) (hN : NamesAt W7 A7 [s]) (hR : ReadsInt W7 .u8 Q7 (B tx).length (B tx)) :
    MailAt Y (.agg #[.int .i64 id, .int .i64 par, .int .i64 born, .string ⟨#[]⟩, .slice A7 1 c7, .slice Q7 tx.length q7]) ⟨id, par, born, [], [s], tx⟩ :=
  ⟨A7, c7, Q7, q7, rfl, by simp, by simp, hN.below hY, readsBelow hR hY⟩
set_option maxHeartbeats 4000000 in
set_option maxRecDepth 100000 in
theorem dsnGood {w : World} (v : Value) (hv : MailOf w v) (u : Value) (hu : FatesOf w u) (born : Int) (hborn : (Lit.int .i64 born).wf = true) (id : Int) (hidw : (Lit.int .i64 id).wf = true) (hG : GI w) :
    Calls Tryd.prog 8 #[v, u, .int .i64 born, .int .i64 id] w fun e W' => e = .returned (.bool true) ∧ Below w.heap.size w W' := by
  obtain ⟨m, hm, -, -, -⟩ := hv
  obtain ⟨F, c, l, rfl, hl63, hF⟩ := hu
  have HM := Aside0.mk hm
  have HF := Aside0.mk hF
  have HG := Aside0.mk hG
  have HB0 := Aside0.mk (Below.refl w.heap.size w)
  have HAN := Aside0.mk (fun (X : World) (hX : Below w.heap.size w X) => answers X (hG.below hX))
  have HGD := Aside0.mk (fun (X : World) (hX : Below w.heap.size w X) => goodLaw m hm F c l X hX)
  obtain ⟨A, cc, Q, q, rfl, hs, hr, hN, hB⟩ := hm
  have HN := Aside0.mk hN
  clear hN hB hF hG
  obtain ⟨g, hg⟩ : ∃ g, (goodB m && (l.length == m.rcpts.length)) = g := ⟨_, rfl⟩
  rw [hg] at HGD
  cases g with
  | false =>
    clear hg
    go_enter Tryd.func8, Tryd.ntmps8
    go_wp2_with (first
      | (go_at_call 14; refine (HGD.out _ (below_alloc HB0.out _)).mono ?_; rintro e W3 ⟨rfl, hb⟩; have HB3 := Aside0.mk (chain' (below_alloc HB0.out _) hb); clear hb)
      | (go_at_call 15; refine (HAN.out _ HB3.out).mono ?_; rintro e W4 ⟨rfl, hb⟩; have HB4 := Aside0.mk (chain' HB3.out hb); clear hb))
    go_ret
    exact ⟨rfl, HB4.out⟩
  | true =>
    rw [Bool.and_eq_true, goodB_iff, beq_iff_eq] at hg
    obtain ⟨hgd, hlen⟩ := hg
    have HOK := Aside0.mk (good_text hgd hlen)
    have HGO := Aside0.mk hgd
    have HLEN := Aside0.mk hlen
    have hid2 := hgd.id2
    have HID1 := Aside0.mk hgd.id1
    clear hgd hlen
    by_cases hle : id ≤ m.id
    · go_enter Tryd.func8, Tryd.ntmps8
      go_wp2_with (first
        | (go_at_call 14; refine (HGD.out _ (below_alloc HB0.out _)).mono ?_; rintro e W3 ⟨rfl, hb⟩; obtain ⟨m0, m1, m2, m3, m4, m5⟩ := boxCells hb; have HB3 := Aside0.mk (chain' (below_alloc HB0.out _) hb); clear hb)
        | (go_at_call 15; refine (HAN.out _ HB3.out).mono ?_; rintro e W4 ⟨rfl, hb⟩; have HB4 := Aside0.mk (chain' HB3.out hb); clear hb))
      go_ret
      exact ⟨rfl, HB4.out⟩
    by_cases hgt : id > 999999999
    · go_enter Tryd.func8, Tryd.ntmps8
      go_wp2_with (first
        | (go_at_call 14; refine (HGD.out _ (below_alloc HB0.out _)).mono ?_; rintro e W3 ⟨rfl, hb⟩; obtain ⟨m0, m1, m2, m3, m4, m5⟩ := boxCells hb; have HB3 := Aside0.mk (chain' (below_alloc HB0.out _) hb); clear hb)
        | (go_at_call 15; refine (HAN.out _ HB3.out).mono ?_; rintro e W4 ⟨rfl, hb⟩; have HB4 := Aside0.mk (chain' HB3.out hb); clear hb))
      go_ret
      exact ⟨rfl, HB4.out⟩
    have HMK := Aside0.mk (fun (X : World) (hX : Below w.heap.size w X) => makeIs m HM.out F c l HF.out HOK.out HG.out born X hX)
    obtain ⟨cb, hcb⟩ : ∃ cb, comesB m l = cb := ⟨_, rfl⟩
    rw [hcb] at HMK
    have HCB := Aside0.mk hcb
    clear hcb
    cases cb with
    | false =>
      go_enter Tryd.func8, Tryd.ntmps8
      go_wp2_with (first
        | (go_at_call 14; refine (HGD.out _ (below_alloc HB0.out _)).mono ?_; rintro e W3 ⟨rfl, hb⟩; obtain ⟨m0, m1, m2, m3, m4, m5⟩ := boxCells hb; have HB3 := Aside0.mk (chain' (below_alloc HB0.out _) hb); clear hb)
        | (go_at_call 17; refine (HMK.out _ HB3.out).mono ?_; rintro e W7 ⟨v7, rfl, ⟨A7, c7, Q7, q7, rfl, hs7, hr7, hN7, hB7⟩, hb⟩; have HB7 := Aside0.mk (chain' HB3.out hb); clear hs7 hr7 hN7 hB7 hb m0 m1 m2 m3 m4 m5)
        | (go_at_call 15; refine (HAN.out _ (below_alloc HB7.out _)).mono ?_; rintro e W4 ⟨rfl, hb⟩; have HB4 := Aside0.mk (chain' (below_alloc HB7.out _) hb); clear hb))
      go_ret
      exact ⟨rfl, HB4.out⟩
    | true =>
      clear HMK
      have HGB := Aside0.mk (back_good HGO.out HLEN.out born id (by omega) (by omega) HCB.out)
      have HTB := Aside0.mk (back_text (l := l) HGO.out born id (by have := HID1.out; omega) (by omega))
      obtain ⟨tx, htx⟩ : ∃ tx, textB m l = tx := ⟨_, rfl⟩
      have HMK := Aside0.mk (fun (X : World) (hX : Below w.heap.size w X) => makeYes m HM.out F c l HF.out HOK.out HG.out born X hX HCB.out tx htx)
      have hbk : backD m l born id = ⟨id, m.id, clampI born, [], [m.sender], tx⟩ := by unfold backD; rw [htx]
      rw [hbk] at HGB HTB
      clear hbk htx
      have HFIRST : Aside0 True := ⟨trivial⟩
      have HBK := Aside0.mk (fun {W7 : World} {A7 Q7 : Option Addr} {c7 q7 : Nat} (Y : World) (hY : Below W7.heap.size W7 Y) hN hR => backAt (W7 := W7) (A7 := A7) (Q7 := Q7) (c7 := c7) (q7 := q7) (tx := tx) hs id m.id (clampI born) Y hY hN hR)
      go_enter Tryd.func8, Tryd.ntmps8
      go_wp2_with (first
        | (go_at_call 14; refine (HGD.out _ (below_alloc HB0.out _)).mono ?_; rintro e W3 ⟨rfl, hb⟩; obtain ⟨m0, m1, m2, m3, m4, m5⟩ := boxCells hb; have HB3 := Aside0.mk (chain' (below_alloc HB0.out _) hb); clear hb)
        | (go_at_call 17; clear HFIRST; refine (HMK.out _ HB3.out).mono ?_; rintro e W7 ⟨A7, c7, Q7, q7, rfl, hN7, hB7, hb⟩; have HB7 := Aside0.mk (chain' HB3.out hb); have HN7 := Aside0.mk hN7; have HR7 := Aside0.mk hB7; clear hN7 hB7 hb m0 m1 m2 m3 m4 m5)
        | (go_at_call 17; refine (makeNo ⟨id, m.id, clampI born, [], [m.sender], tx⟩ (HBK.out _ (below_alloc (below_alloc (Below.refl _ _) _) _) HN7.out HR7.out) rfl _ (f0_at _ _ (by simp)) HTB.out (HG.out.below (below_alloc (below_alloc HB7.out _) _)) born).mono ?_; rintro e W8 ⟨A8, c8, Q8, q8, rfl, hb⟩; have HX8 := Aside0.mk (Below.trans (below_alloc (Below.refl _ _) _) (hb.mono (by simp))); have HB8 := Aside0.mk (chain' (below_alloc (below_alloc HB7.out _) _) hb); clear hb)
        | (go_at_call 15; refine (HAN.out _ (below_alloc HB8.out _)).mono ?_; rintro e W9 ⟨rfl, hb⟩; have HB9 := Aside0.mk (chain' (below_alloc HB8.out _) hb); have hx9 := HX8.out.trans ((chain' (below_alloc (Below.refl _ _) _) hb).mono HX8.out.size); obtain ⟨x0, x1, x2, x3, x4, x5⟩ := boxCells hx9; have HX9 := Aside0.mk hx9; clear hx9 hb)
        | (go_at_call 21; refine (goodIs (w := W9) ⟨id, m.id, clampI born, [], [m.sender], tx⟩ (HBK.out _ (chain' (below_alloc (Below.refl _ _) _) HX9.out) HN7.out HR7.out) W9 (Below.refl _ _)).mono ?_; rintro e W10 ⟨rfl, hb⟩; rw [(goodB_iff _).2 HGB.out]; have HB10 := Aside0.mk (chain' HB9.out hb); clear hb))
      go_ret
      exact ⟨rfl, HB10.out⟩
end Go.Proofs.YthdjeikfbbdehaaDoor.Fs
