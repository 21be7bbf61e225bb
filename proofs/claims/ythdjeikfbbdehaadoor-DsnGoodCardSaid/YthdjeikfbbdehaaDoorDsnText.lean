/- law23: dsn.Text. -/
import Derived.Test.YthdjeikfbbdehaaDoorDsnMail
import Derived.Test.YthdjeikfbbdehaaDoorStrRow
import Derived.Test.YthdjeikfbbdehaaDoorDsnGlob
namespace Go.Proofs.YthdjeikfbbdehaaDoor.Fs
open Go.RowKit Go.Proofs.YthdjeikfbbdehaaDoor Go.Proofs.YthdjeikfbbdehaaDoor.Plain Go.Proofs.YthdjeikfbbdehaaDoorW.PrintWords Go.Maps
set_option linter.unusedVariables false
set_option linter.unusedSimpArgs false
def fromL : Nm := [70, 114, 111, 109, 58, 32, 60, 62]
def toL : Nm := [84, 111, 58, 32, 60]
def subjL : Nm := [83, 117, 98, 106, 101, 99, 116, 58, 32, 110, 111, 116, 32, 100, 101, 108, 105, 118, 101, 114, 101, 100]
def mailL : Nm := [77, 97, 105, 108, 58, 32]
def failL : Nm := [70, 97, 105, 108, 101, 100, 58, 32, 60]
def failOf (r : Nm) : Nm := failL ++ r ++ [62]
/-- the lines of those of the first i that bounced -/
def failed (rc : List Nm) (l : List Int) (i : Nat) : List Nm := ((rc.zip l).take i).filterMap fun p => if p.2 == 2 then some (failOf p.1) else none
theorem failed_zero (rc : List Nm) (l : List Int) : failed rc l 0 = [] := by simp [failed]
theorem failed_succ {rc : List Nm} {l : List Int} {i : Nat} {r : Nm} {s : Int} (h : i < rc.length) (h' : i < l.length) (hr : rc[i] = r) (hs : l[i] = s) : failed rc l (i + 1) = failed rc l i ++ (if s == 2 then [failOf r] else []) := by
  unfold failed
  have hz : i < (rc.zip l).length := by rw [List.length_zip]; omega
  rw [List.take_add_one, List.getElem?_eq_getElem hz, List.getElem_zip, hr, hs, List.filterMap_append]
  congr 1
  by_cases hb : s = 2 <;> simp [hb]
def headL (m : MailD) : List Nm := [fromL, toL ++ m.sender ++ [62], subjL, [], mailL ++ Lib.itoa m.id]
def linesL (m : MailD) (l : List Int) : List Nm := headL m ++ failed m.rcpts l l.length
def textB (m : MailD) (l : List Int) : List UInt8 := Lib.join (linesL m l) [10] ++ [10]
structure TextOk (m : MailD) (l : List Int) : Prop where
  id1 : 0 ≤ m.id
  id2 : m.id ≤ 999999999
  send : m.sender.length ≤ 64
  rc : ∀ r ∈ m.rcpts, r.length ≤ 64
  len : l.length = m.rcpts.length
  n : l.length ≤ 8
theorem itoaIs (n : Int) (h0 : -9223372036854775808 ≤ n) (h1 : n ≤ 9223372036854775807) (w : World) (hG : GI w) : Calls Tryd.prog 27 #[.int .i64 n] w fun e w' => e = .returned (.string (S (Lib.itoa n))) ∧ Below w.heap.size w w' := by
  refine (Tryd.strconv_Itoa n h0 h1 w hG.tab).mono ?_
  rintro e w' ⟨rfl, k, os, rfl⟩
  refine ⟨rfl, rfl, rfl, rfl, by simp [Sort.grow, World.drewN], fun i hi => ?_⟩
  simp only [Sort.grow, World.drewN]
  rw [Array.getElem?_append_left hi]
theorem itoa_len {n : Int} (h0 : 0 ≤ n) (h1 : n ≤ 999999999) : (Lib.itoa n).length ≤ 9 := by
  unfold Lib.itoa
  rw [if_neg (by omega)]
  exact dec_len (m := 8) (by omega)
theorem failed_length (rc : List Nm) (l : List Int) (i : Nat) : (failed rc l i).length ≤ i := by
  unfold failed
  exact Nat.le_trans (List.length_filterMap_le _ _) (by rw [List.length_take]; omega)
theorem lines_length (m : MailD) (l : List Int) (i : Nat) : (headL m ++ failed m.rcpts l i).length ≤ 5 + i := by
  have := failed_length m.rcpts l i
  rw [List.length_append]
  show 5 + _ ≤ _
  omega
theorem failOf_eq (r : Nm) : (⟨#[70, 97, 105, 108, 101, 100, 58, 32, 60]⟩ : ByteArray) ++ S r ++ ⟨#[62]⟩ = S (failOf r) := by
  rw [show (⟨#[70, 97, 105, 108, 101, 100, 58, 32, 60]⟩ : ByteArray) = S failL from rfl, show (⟨#[62]⟩ : ByteArray) = S [62] from rfl, S_append, S_append]
  rfl
theorem bytesBelow (w : World) (s : ByteArray) : Below w.heap.size w (Lib.bytesWorld w 5 s) :=
  ⟨rfl, rfl, rfl, by rw [Lib.bytesWorld_size]; omega, fun k hk => Lib.bytesWorld_at_old w _ s k hk⟩
theorem bytesReads (w : World) (u : List UInt8) (hz : u.length ≤ 1000000) : ReadsInt (Lib.bytesWorld w 5 (S u)) .u8 (some ⟨w.heap.size, 0, none⟩) (B u).length (B u) := by
  refine ⟨rfl, by rw [B_length]; omega, fun _ => ⟨_, rfl, fun j hj => ?_⟩⟩
  rw [B_length] at hj
  have e : (⟨w.heap.size, 0, none⟩ : Addr).add j = ⟨w.heap.size, j, none⟩ := by unfold Addr.add; split <;> simp_all
  rw [e, Lib.bytesWorld_cell w _ (S u) j (by simpa using hj), S_data]
  congr 2
  simp [B, List.getD, hj]
theorem convText (w : World) (u : List UInt8) : (convert 9 24 (.string (S u ++ ⟨#[10]⟩))).run Tryd.prog w = .ok (.slice (some ⟨w.heap.size, 0, none⟩) (u ++ [10]).length (grownCap w (u ++ [10]).length 0 5)) (Lib.bytesWorld w 5 (S (u ++ [10]))) := by
  have := Lib.run_convert_string_bytes (P := Tryd.prog) w 9 24 5 (S (u ++ [10])) Tryd.underlying9 Tryd.underlying24 Tryd.underlying5
  rw [S_size] at this
  rw [show (⟨#[10]⟩ : ByteArray) = S [10] from rfl, S_append]
  exact this
theorem lens_le {l : List Nm} {k : Nat} (h : ∀ s ∈ l, s.length ≤ k) : Lib.lens l ≤ k * l.length := by
  unfold Lib.lens
  induction l with
  | nil => simp
  | cons a l ih =>
    have h1 := h a (by simp)
    have h2 := ih (fun s hs => h s (by simp [hs]))
    simp only [List.map_cons, List.sum_cons, List.length_cons, Nat.mul_add, Nat.mul_one]
    omega
theorem failed_mem {rc : List Nm} {l : List Int} {i : Nat} {s : Nm} (h : s ∈ failed rc l i) : ∃ r ∈ rc, s = failOf r := by
  unfold failed at h
  obtain ⟨p, hp, e⟩ := List.mem_filterMap.1 h
  have h2 := List.mem_of_mem_take hp
  split at e
  · exact ⟨p.1, (List.of_mem_zip h2).1, (Option.some.inj e).symm⟩
  · cases e
theorem join_short (m : MailD) (l : List Int) (h : TextOk m l) : (Lib.join (linesL m l) [10]).length ≤ 2000 := by
  have h1 : ∀ s ∈ linesL m l, s.length ≤ 100 := by
    intro s hs
    unfold linesL at hs
    have hi := itoa_len h.id1 h.id2
    have hsd := h.send
    rcases List.mem_append.1 hs with hs | hs
    · simp only [headL, List.mem_cons, List.not_mem_nil, or_false] at hs
      rcases hs with rfl | rfl | rfl | rfl | rfl
      · decide
      · simp only [List.length_append, toL, List.length_cons, List.length_nil]; omega
      · decide
      · decide
      · simp only [List.length_append, mailL, List.length_cons, List.length_nil]; omega
    · obtain ⟨r, hr, rfl⟩ := failed_mem hs
      have := h.rc r hr
      simp only [failOf, List.length_append, failL, List.length_cons, List.length_nil]
      omega
  have h2 := lens_le h1
  have h3 := lines_length m l l.length
  have h4 := h.n
  have h5 : (linesL m l).length ≤ 13 := by unfold linesL; omega
  have e : linesL m l = fromL :: (linesL m l).tail := rfl
  rw [e] at h2 h5 ⊢
  rw [Lib.join_length]
  simp only [List.length_cons, List.length_nil] at h2 h5 ⊢
  omega
/-- the cells of a mail that was laid in a new block -/
theorem boxCells {W X : World} {c0 c1 c2 c3 c4 c5 : Value} {t : TypeId} (hb : Below (W.alloc (.cells #[c0, c1, c2, c3, c4, c5] t)).heap.size (W.alloc (.cells #[c0, c1, c2, c3, c4, c5] t)) X) :
    X.cell? ⟨W.heap.size, 0, none⟩ = some c0 ∧ X.cell? ⟨W.heap.size, 1, none⟩ = some c1 ∧ X.cell? ⟨W.heap.size, 2, none⟩ = some c2 ∧ X.cell? ⟨W.heap.size, 3, none⟩ = some c3 ∧ X.cell? ⟨W.heap.size, 4, none⟩ = some c4 ∧ X.cell? ⟨W.heap.size, 5, none⟩ = some c5 := by
  have h := (hb.block W.heap.size (by simp)).trans (heap_alloc_new W _)
  unfold World.cell?
  simp only []
  rw [h]
  exact ⟨rfl, rfl, rfl, rfl, rfl, rfl⟩
set_option maxHeartbeats 1000000 in
set_option maxRecDepth 100000 in
theorem textIs {w : World} {v : Value} (m : MailD) (h : MailAt w v m) (F : Option Addr) (c : Nat) (l : List Int) (hl : FatesAt w F l) (hok : TextOk m l) (hG : GI w) (W : World) (hW : Below w.heap.size w W) :
    Calls Tryd.prog 18 #[v, .slice F l.length c] W fun e W' => ∃ g c', W.heap.size ≤ g ∧ e = .returned (.slice (some ⟨g, 0, none⟩) (textB m l).length c') ∧ ReadsInt W' .u8 (some ⟨g, 0, none⟩) (B (textB m l)).length (B (textB m l)) ∧ Below W.heap.size W W' := by
  obtain ⟨A, cc, Q, q, rfl, hs, hr, hn, hb⟩ := h
  have HN := Aside0.mk hn
  have HF := Aside0.mk hl
  have HOK := Aside0.mk hok
  have HG := Aside0.mk (hG.below hW)
  have HSL := Aside0.mk hok.send
  have hs2 : (S m.sender).size ≤ 64 := by rw [S_size]; exact hok.send
  have hln : l.length ≤ 8 := hok.n
  have hid1 := hok.id1
  have hid2 := hok.id2
  clear hn hl hok hb hG
  go_enter Tryd.func18, Tryd.ntmps18
  have XI := fun X (hX : Below W.heap.size W X) => itoaIs m.id (by omega) (by omega) X (HG.out.below hX)
  have hil := itoa_len hid1 hid2
  obtain ⟨t, ht⟩ : ∃ t, Lib.itoa m.id = t := ⟨_, rfl⟩
  rw [ht] at XI hil
  have HT := Aside0.mk ht
  have hzt : (S t).size ≤ 9 := by rw [S_size]; exact hil
  have HXI := Aside0.mk XI
  have HB0 := Aside0.mk (Below.refl W.heap.size W)
  have HLIT := Aside0.mk (fun (X : World) => SRow.lit (Below.refl X.heap.size X) (headL m) 5 rfl (by decide) #[.string ⟨#[70, 114, 111, 109, 58, 32, 60, 62]⟩, .string (⟨#[84, 111, 58, 32, 60]⟩ ++ S m.sender ++ ⟨#[62]⟩), .string ⟨#[83, 117, 98, 106, 101, 99, 116, 58, 32, 110, 111, 116, 32, 100, 101, 108, 105, 118, 101, 114, 101, 100]⟩, .string ⟨#[]⟩, .string (⟨#[77, 97, 105, 108, 58, 32]⟩ ++ S t)] (by
    rw [headL, ht, show (⟨#[84, 111, 58, 32, 60]⟩ : ByteArray) = S toL from rfl, show (⟨#[62]⟩ : ByteArray) = S [62] from rfl, show (⟨#[77, 97, 105, 108, 58, 32]⟩ : ByteArray) = S mailL from rfl, S_append, S_append, S_append]
    rfl))
  have HID := Aside0.mk hid1
  have HID2 := Aside0.mk hid2
  have hc1 : (9223372036854775807 < 5 + List.length m.sender) = False := by have := HSL.out; simp; omega
  have hc2 : (9223372036854775807 < 5 + List.length m.sender + 1) = False := by have := HSL.out; simp; omega
  have hc3 : (9223372036854775807 < 6 + List.length t) = False := by simp; omega
  clear ht XI hil hid1 hid2
  go_wp2
  go_region_law (first
    | (go_simp; go_at_call 27; refine (HXI.out _ (by repeat (first | exact HB0.out | apply below_drew1 | refine below_alloc ?_ _))).mono ?_; rintro e W1 ⟨rfl, hb⟩; have HB1 := Aside0.mk (chain' (W := W.alloc _) (by repeat (first | exact Below.refl _ _ | apply below_drew1)) hb); obtain ⟨hk0, hk1, hk2, hk3, hk4, hk5⟩ := boxCells HB1.out; clear hb; try go_simp))
  all_goals
    have hb01 : Below W.heap.size W W1 := chain' (below_alloc (Below.refl _ _) _) HB1.out
    have HL0 := Aside0.mk (HLIT.out W1)
    have HB01 := Aside0.mk hb01
    clear hb01 hk0 hk1 hk2 hk3 hk4 hk5 hc1 hc2 hc3
    go_wp2
    go_loopw [5, 6, 7, 19] (fun v5 v6 v7 v19 wr => ∃ i : Nat, i ≤ l.length ∧ v19 = .int .i64 i ∧ Aside0 (SRow W1 v5 (headL m ++ failed m.rcpts l i) wr)) (fun _ _ _ v19 _ => l.length - (intOf v19).toNat)
    case atStart => exact ⟨0, by omega, rfl, ⟨by rw [failed_zero, List.append_nil]; exact HL0.out⟩⟩
    case round =>
      obtain ⟨i, hi, rfl, HR⟩ := hrel
      have HB := Aside0.mk HR.out.below
      have HBV := Aside0.mk (chain' HB01.out HR.out.below)
      have HBW := Aside0.mk (hW.trans (HBV.out.mono hW.size))
      by_cases hlt : i < l.length
      · have hlt2 : i < m.rcpts.length := by rw [← HOK.out.len]; exact hlt
        obtain ⟨ad, x, y, z, o, rfl, hc⟩ := HF.out i hlt
        obtain ⟨s, hs3⟩ : ∃ s, l[i] = s := ⟨_, rfl⟩
        rw [hs3] at hc
        obtain ⟨d0, d1, d2, d3, d4⟩ := fateCells hc HBW.out
        obtain ⟨adr, hA, hcell, -⟩ := (HN.out.below HBW.out) i hlt2
        subst hA
        have hr64 := HOK.out.rc _ (List.getElem_mem hlt2)
        obtain ⟨r, hr3⟩ : ∃ r, m.rcpts[i] = r := ⟨_, rfl⟩
        rw [hr3] at hcell hr64
        have HF2 := Aside0.mk (failed_succ hlt2 hlt hr3 hs3)
        obtain ⟨hk0, hk1, hk2, hk3, hk4, hk5⟩ := boxCells (HB1.out.trans (HB.out.mono HB1.out.size))
        have HK4 := Aside0.mk (fun X (hX : Below wr.heap.size wr X) => (boxCells (chain' (HB1.out.trans (HB.out.mono HB1.out.size)) hX)).2.2.2.2.1)
        have HCE := Aside0.mk (fun X (hX : Below wr.heap.size wr X) => (World.cell?_of_block (hX.block _ (World.block_lt_of_cell? _ _ hcell))).trans hcell)
        have HLE := Aside0.mk (lines_length m l i)
        have HEQ := Aside0.mk (failOf_eq r)
        have XB := fun X => bounced s x y z o X
        clear hc hs3 hr3 hk0 hk1 hk2 hk3 hk4 hk5 hcell
        obtain ⟨b, hb3⟩ : ∃ b, (s == 2) = b := ⟨_, rfl⟩
        rw [hb3] at XB HF2
        clear hb3
        cases b with
        | false =>
          go_wp2_with (go_at_call 25; refine (XB _).mono ?_; rintro e W3 ⟨rfl, hb⟩; have HB3 := Aside0.mk (chain' (W := wr) (below_alloc (Below.refl _ _) _) hb); clear hb XB)
          go_roundw
          case rel => exact ⟨i + 1, by omega, by go_num, ⟨by rw [HF2.out]; simpa using (HR.out.step HB3.out)⟩⟩
          case measure => simp [intOf]; omega
        | true =>
          go_wp2_with (first
            | (go_at_call 25; refine (XB _).mono ?_; rintro e W3 ⟨rfl, hb⟩; have hb3 := chain' (W := wr) (below_alloc (Below.refl _ _) _) hb; have hk4 := HK4.out W3 hb3; have hcell := HCE.out W3 hb3; have HB3 := Aside0.mk hb3; clear hb XB hb3 d0 d1 d2 d3 d4)
            | (at_builtin; refine appendS ((HR.out.step HB3.out).step (below_alloc (Below.refl _ _) _)) (failOf r) (by have := HLE.out; omega) rfl _ _ rfl rfl _ _ rfl (by rw [← HEQ.out]; exact cell_one_new _ _ _) ?_; rintro v1 W4 h; have HR4 := Aside0.mk h; clear h))
          go_roundw
          case rel => exact ⟨i + 1, by omega, by go_num, ⟨by rw [HF2.out]; simpa [List.append_assoc] using HR4.out⟩⟩
          case measure => simp [intOf]; omega
      · obtain rfl : i = l.length := by omega
        have hjl := join_short m l HOK.out
        have XJ := joinIs HR.out [10] (by have := lines_length m l l.length; omega) (show (Lib.join (headL m ++ failed m.rcpts l l.length) [10]).length ≤ _ by have := hjl; unfold linesL at this; omega) ⟨#[10]⟩ rfl
        have HTX := Aside0.mk (show textB m l = Lib.join (headL m ++ failed m.rcpts l l.length) [10] ++ [10] from rfl)
        have hjl2 : (Lib.join (headL m ++ failed m.rcpts l l.length) [10]).length ≤ 2000 := by have := hjl; unfold linesL at this; omega
        obtain ⟨T, hT⟩ : ∃ T, Lib.join (headL m ++ failed m.rcpts l l.length) [10] = T := ⟨_, rfl⟩
        rw [hT] at XJ HTX hjl2
        have HCV := Aside0.mk (fun X => convText X T)
        clear hT hjl
        go_wp2_with (go_at_call 28; refine XJ.mono ?_; rintro e W3 ⟨rfl, hb⟩; have HB3 := Aside0.mk (chain' HBV.out hb); have hcv := HCV.out W3; clear hb XJ)
        go_ret
        rw [HTX.out]
        refine ⟨W3.heap.size, grownCap W3 (T.length + 1) 0 5, HB3.out.size, by rw [List.length_append]; rfl, bytesReads _ _ (by rw [List.length_append]; show T.length + 1 ≤ _; omega), ?_⟩
        exact chain' HB3.out (bytesBelow _ _)
end Go.Proofs.YthdjeikfbbdehaaDoor.Fs
