/- fs: Crash. -/
import Derived.Test.YtibmgcihpbofdaaFsB3
namespace Go.Proofs.Ytibmgcihpbofdaa.Fs
open Go.RowKit Go.Proofs.Ytibmgcihpbofdaa Go.Proofs.Ytibmgcihpbofdaa.Plain Go.Proofs.YtibmgcihpbofdaaW.PrintWords Go.Proofs.YtibmgcihpbofdaaW.PrintMore Go.Maps
set_option linter.unusedVariables false
set_option linter.unusedSimpArgs false
attribute [local go_sem] max2_int min2_int
set_option maxHeartbeats 1000000 in
set_option maxRecDepth 100000 in
theorem crash {w0 W : World} {f : Nat} {d : Disk} {N : Nat} {T : Nat → Prop} (h : FsAt w0 f d N T W) (hN : N ≤ 1000000) (n m : Int) :
    Calls Try.prog 20 #[.pointer (some ⟨f, 0, none⟩), .int .i64 n, .int .i64 m] W fun e W' => e = .returned (.tuple #[]) ∧ ∃ T', FsAt w0 f (d.crash n m) N T' W' ∧ Turn T W T' W' := by
  obtain ⟨bn, bs, vl, fs, vb, c0⟩ := h
  obtain ⟨_, _, hc2, _, _, _⟩ := c0.cells
  obtain ⟨A, cp, hv⟩ := own_slice c0.row
  subst hv
  have hLc : d.loose.length ≤ cp := own_cap c0.row
  have hL6 : d.loose.length ≤ 1000000 := by have := c0.small.1; omega
  have HC := Aside0.mk c0
  obtain ⟨L, hL⟩ : ∃ L, d.loose.length = L := ⟨_, rfl⟩
  rw [hL] at hc2 hLc hL6
  have hb1 : 0 ≤ min (max n 0) (L : Int) := by omega
  have hb2 : min (max n 0) (L : Int) ≤ (cp : Int) := by omega
  have HL := Aside0.mk hL
  clear c0 hL
  go_enter Try.func20, Try.ntmps20
  go_wp2
  obtain ⟨k, hk⟩ : ∃ k : Nat, min (max n 0) (L : Int) = k := ⟨(min (max n 0) (L : Int)).toNat, by omega⟩
  obtain ⟨M, hM⟩ : ∃ M : Nat, max m 0 = (M : Int) := ⟨(max m 0).toNat, by omega⟩
  rw [hk, hM]
  have hk0 : max (k : Int) 0 = k := by omega
  simp only [Int.toNat_natCast, hk0]
  clear hk0
  have hkL : k ≤ L := by omega
  have HK := Aside0.mk hk
  have HM := Aside0.mk hM
  clear hk hM hb1 hb2
  go_loopw [7, 29] (fun v7 v29 wr => ∃ i : Nat, i ≤ k ∧ v29 = .int .i64 i ∧ Aside0 (W.grownBy wr (some bs)) ∧ Aside0 (OwnDir wr bs (apps d.sure (d.loose.take i)))) (fun _ v29 _ => k - (intOf v29).toNat)
  case atStart => exact ⟨0, by omega, rfl, ⟨.refl _ _⟩, ⟨HC.out.sure⟩⟩
  case round =>
    obtain ⟨i, hi, rfl, HG, HD⟩ := hrel
    by_cases hlt : i < k
    · have hil : i < d.loose.length := by have := HL.out; omega
      obtain ⟨g, v, rfl, hcell, hc1, hclo, fn, cap, hv, hcall⟩ := HC.out.crashStep rfl hN HG.out i hil HD.out
      subst hv
      have X := hcall
      cases hch : d.loose[i]'hil with
      | create n x =>
        rw [hch] at hclo
        obtain ⟨a, b, e, _⟩ := hclo
        cases e
        clear hch hcall hc2
        go_wp2_with (go_at_call 35; refine X.mono ?_; rintro e W2 ⟨rfl, h1, h2⟩; clear X; have H1 := Aside0.mk h1; have H2 := Aside0.mk h2; clear h1 h2)
        go_roundw
        case rel => exact ⟨i + 1, by omega, by go_num, H2, H1⟩
        case measure => simp [intOf]; omega
      | rename n m =>
        rw [hch] at hclo
        obtain ⟨a, b, e, _⟩ := hclo
        cases e
        clear hch hcall hc2
        go_wp2_with (go_at_call 41; refine X.mono ?_; rintro e W2 ⟨rfl, h1, h2⟩; clear X; have H1 := Aside0.mk h1; have H2 := Aside0.mk h2; clear h1 h2)
        go_roundw
        case rel => exact ⟨i + 1, by omega, by go_num, H2, H1⟩
        case measure => simp [intOf]; omega
      | unlink n =>
        rw [hch] at hclo
        obtain ⟨a, e, _⟩ := hclo
        cases e
        clear hch hcall hc2
        go_wp2_with (go_at_call 40; refine X.mono ?_; rintro e W2 ⟨rfl, h1, h2⟩; clear X; have H1 := Aside0.mk h1; have H2 := Aside0.mk h2; clear h1 h2)
        go_roundw
        case rel => exact ⟨i + 1, by omega, by go_num, H2, H1⟩
        case measure => simp [intOf]; omega
    · obtain rfl : i = k := by omega
      have hc1 : wr.cell? ⟨f, 1, none⟩ = some (.map (some bs)) := by
        have := (HC.out.turned HG.out).1
        simp [World.cell?, this, HC.out.head]
      clear hc2
      go_wp2_with (at_range; refine wpList_range_own _ rfl _ 61 rfl 9 66 keyed Try.underlying61 ptrElem bs (apps d.sure (d.loose.take i)).length (D (apps d.sure (d.loose.take i))) rfl HD.out ?_; intro W1 hr1 hg1 hs1; have HR := Aside0.mk hr1; have HG1 := Aside0.mk hg1; clear hr1 hg1 hs1)
      go_frame
      have hF0 : Files w0 W1 (apps d.sure (d.loose.take i)) d.bytes d.firm N T vb := by
        obtain ⟨es, c, hs⟩ := map_obj HC.out.sure
        refine (HC.out.files _ (fun x hx => has_take hx)).move (fun k hT ⟨c', t, hc, _⟩ => ?_) (Nat.le_trans HG.out.size HG1.out.size) ?_
        · have e1 := HG.out.block k (HC.out.mine k hT).2 (fun e => ne_of_obj hc hs (by simp) (Option.some.inj e))
          exact (HG1.out.block k (Nat.lt_of_lt_of_le (HC.out.mine k hT).2 HG.out.size) (by simp)).trans e1
        · exact (HC.out.below.grown HG.out HC.out.below.size (fun j hj => by cases hj; exact (HC.out.mine bs HC.out.inS).1)).grown HG1.out (Nat.le_trans HC.out.below.size HG.out.size) (fun j hj => by cases hj)
      have hhead : W1.heap[f]? = W.heap[f]? := (HG1.out.block f (Nat.lt_of_lt_of_le (HC.out.mine f HC.out.inF).2 HG.out.size) (by simp)).trans (HC.out.turned HG.out).1
      have hturn : Turn T W T W1 := ⟨fun _ h => .inl h, fun _ h => h, fun j hj hT => (HG1.out.block j (Nat.lt_of_lt_of_le hj HG.out.size) (by simp)).trans (HG.out.block j hj (fun e => hT (Option.some.inj e ▸ HC.out.inS))), Nat.le_trans HG.out.size HG1.out.size⟩
      have hr0 : ¬ T wr.heap.size := fun hT => by have := (HC.out.mine _ hT).2; have := HG.out.size; omega
      have hrw : W.heap.size ≤ wr.heap.size := HG.out.size
      obtain ⟨r, hr⟩ : ∃ r, wr.heap.size = r := ⟨_, rfl⟩
      rw [hr] at HR hr0 hrw ⊢
      obtain ⟨s, hs⟩ : ∃ s, apps d.sure (d.loose.take i) = s := ⟨_, rfl⟩
      rw [hs] at HR hF0 HD
      have HS := Aside0.mk hs
      have HKE := Aside0.mk (keys_of HD.out)
      have HF0b := Aside0.mk (fun x hx => (hF0.file x hx).2.2)
      have HF0 := Aside0.mk hF0
      have HHD := Aside0.mk hhead
      have HTU := Aside0.mk hturn
      have HR0 := Aside0.mk hr0
      have HRW := Aside0.mk hrw
      clear hrw hs hF0 hhead hturn hr0 hr
      go_loopw [9] (fun v9 wr => ∃ (left : Lit → Bool) (cnt : Nat) (bb : Nat → List UInt8) (ff : Nat → Nat) (vb2 : Nat → Value) (T2 : Nat → Prop), Aside0 (wr.ranges Try.prog 9 ptrElem bs r s.length (D s) left cnt) ∧ Aside0 (Files w0 wr s bb ff N T2 vb2) ∧ Aside0 (Half s d m left bb ff) ∧ Aside0 (wr.heap[f]? = W.heap[f]?) ∧ Aside0 (Turn T W T2 wr) ∧ Aside0 (¬ T2 r)) (fun _ wr => wr.rangeLeft bs r)
      case atStart => exact ⟨_, _, d.bytes, d.firm, vb, T, HR, HF0, ⟨⟨fun x hx => .inl ⟨rfl, rfl⟩, fun p hp h => by
        have := HS.out
        rw [D_has, mem_get HKE.out (x := p.2) hp] at h
        cases h⟩⟩, HHD, HTU, HR0⟩
      case round =>
        obtain ⟨left, cnt, bb, ff, vb2, T2, HRg, HFi, HHa, HHe, HTu, HNr⟩ := hrel
        clear HR HF0 HHD HTU HR0
        go_wp2_with (at_next; refine wpList_next_ranges _ rfl _ rfl 9 keyed ptrElem mkK mkV invK invV bs r s.length _ _ _ rfl HRg.out ?_ ?_)
        · intro _ hl0
          have HL0 := Aside0.mk hl0
          clear hl0
          have hT2f := HTu.out.2.1 f HC.out.inF
          have hc1' : wr.cell? ⟨f, 1, none⟩ = some (.map (some bs)) := by simp [World.cell?, HHe.out, HC.out.head]
          have hown : OwnDir wr bs s := HRg.out.owns
          have HOD := Aside0.mk hown
          have HCS := Aside0.mk (fun X (hX : Below wr.heap.size wr X) => headCells (HHe.out.trans HC.out.head) hX)
          clear hT2f hown
          go_wp2_with (go_at_call 39; refine (mapsClone HOD.out).mono ?_; rintro e W3 ⟨rfl, hd3, hb3⟩; clear hc1'; have HD3 := Aside0.mk hd3; have HB3 := Aside0.mk hb3; obtain ⟨c0, c1, c2, c3, c4, c5, z⟩ := HCS.out W3 hb3; have z0 := z 0; have z2 := z 2; have z4 := z 4; have z5 := z 5; clear hd3 hb3 z)
          go_end0
          refine ⟨rfl, ?_⟩
          have hW3 : W3.heap[f]? = some (.cells #[.map (some bn), .map (some bs), .slice A d.loose.length cp, .int .i64 d.room, .int .i64 d.fuse, .bool d.down] 64 (0, 0)) := (HB3.out.block f (HFi.out.mine f (HTu.out.2.1 f HC.out.inF)).2).trans (HHe.out.trans HC.out.head)
          have lf := (HC.out.mine f HC.out.inF).1
          exact crashEnd HC.out HK.out HS.out HFi.out HHa.out HL0.out HHe.out HTu.out HOD.out HD3.out HB3.out HL.out (by simp [World.setCell, Array.getElem?_modify, hW3])
            (fun j hj => by rw [Below.heap_setCell _ ⟨f, 5, none⟩ _ j hj, Below.heap_setCell _ ⟨f, 4, none⟩ _ j hj, Below.heap_setCell _ ⟨f, 2, none⟩ _ j hj, Below.heap_setCell _ ⟨f, 0, none⟩ _ j hj]) (by simp [World.setCell])
            (((((HFi.out.below.trans (HB3.out.mono HFi.out.below.size)).setCell lf _).setCell lf _).setCell lf _).setCell lf _)
        · intro x c kl yd yp w1 cnt1 hkey hlx hv hat hrg1 hlt hg1 hs1 hen
          obtain rfl := keyIs hkey
          obtain ⟨b, rfl, hgb⟩ := at_get (y := (yd, yp)) hat hv
          have hF1 : Files w0 w1 s bb ff N T2 vb2 := HFi.out.move (fun k hT _ => hg1.block k (HFi.out.mine k hT).2 (fun e => HNr.out (Option.some.inj e ▸ hT))) hg1.size (HFi.out.below.grown hg1 HFi.out.below.size (fun j hj => by cases hj; exact Nat.le_trans HC.out.below.size HRW.out))
          have hT2f : T2 f := HTu.out.2.1 f HC.out.inF
          have hh1 : w1.heap[f]? = W.heap[f]? := (hg1.block f (HFi.out.mine f hT2f).2 (fun e => HNr.out (Option.some.inj e ▸ hT2f))).trans HHe.out
          have ht1 : Turn T W T2 w1 := ⟨HTu.out.1, HTu.out.2.1, fun k hk hT => (hg1.block k (Nat.lt_of_lt_of_le hk HTu.out.2.2.2) (fun e => by have := HRW.out; have := Option.some.inj e; omega)).trans (HTu.out.2.2.1 k hk hT), Nat.le_trans HTu.out.2.2.2 hg1.size⟩
          have hin : InD s b := ⟨x, get_mem hgb⟩
          have hfile := hF1.file b hin
          obtain ⟨A1, k1, hv1⟩ := own_slice hfile.2.1
          have hcap1 : (bb b).length ≤ k1 := by have := hfile.2.1; rw [hv1] at this; have := own_cap this; rwa [B_length] at this
          have hsm := hF1.small b hin
          have hrd : ReadsInt w1 .u8 A1 (B (bb b)).length (B (bb b)) := own_reads' (by have := hfile.2.1; rw [hv1] at this; exact this)
          obtain ⟨l1, hl1⟩ : ∃ l1, (bb b).length = l1 := ⟨_, rfl⟩
          obtain ⟨f1, hf1⟩ : ∃ f1, ff b = f1 := ⟨_, rfl⟩
          have hcA : w1.cell? ⟨b, 0, none⟩ = some (.slice A1 l1 k1) := by simp [World.cell?, hfile.1, hv1, B_length, hl1]
          have hcB : w1.cell? ⟨b, 1, none⟩ = some (.int .i64 (f1 : Int)) := by simp [World.cell?, hfile.1, hf1]
          have hfA : w1.frozen? ⟨b, 0, none⟩ = false := by simp [World.frozen?, hfile.1]
          have hfB : w1.frozen? ⟨b, 1, none⟩ = false := by simp [World.frozen?, hfile.1]
          have hfl : f1 ≤ l1 := by have := hfile.2.2; rw [hl1, hf1] at this; exact this
          rw [hl1] at hcap1 hsm
          have hl6 : l1 ≤ 1000000 := by omega
          have HR1 := Aside0.mk hrg1
          have HLT := Aside0.mk hlt
          have HF1 := Aside0.mk hF1
          have HH1 := Aside0.mk hh1
          have HT1 := Aside0.mk ht1
          have HIN := Aside0.mk hin
          have HRD := Aside0.mk hrd
          have HGB := Aside0.mk hgb
          have HL1 := Aside0.mk hl1
          have HFF := Aside0.mk hf1
          have HV1 := Aside0.mk hv1
          have hsub : IntKind.i64.wrap ((l1 : Int) - (f1 : Int)) = (l1 : Int) - f1 := IntWalk.i64_in _ (by omega)
          obtain ⟨m1, hm1⟩ : ∃ m1, f1 + min M (l1 - f1) = m1 := ⟨_, rfl⟩
          have hsum : IntKind.i64.wrap ((f1 : Int) + min (M : Int) ((l1 : Int) - (f1 : Int))) = (m1 : Int) := by rw [IntWalk.i64_in _ (by omega)]; omega
          have hml : m1 ≤ l1 := by omega
          have HM1 := Aside0.mk hm1
          clear hF1 hT2f hh1 ht1 hin hfile hrd hrg1 hlt hg1 hs1 hat hv hl1 hf1 hgb hv1 hsm hm1
          simp only [mkK, mkV, Option.map_some] at hen ⊢
          go_wp2
          apply wp_held (R := fun X => X.heap = (w1.setCell ⟨b, 1, none⟩ (.int .i64 (m1 : Int))).heap ∧ Below w0.heap.size w1 X)
          case hreg =>
            have HX := Aside0.mk (show Below w0.heap.size w1 w1 from Below.refl _ _)
            have HBW := Aside0.mk (show w0.heap.size ≤ b from (HF1.out.mine b (HF1.out.inX b HIN.out).1).1)
            go_region_with (fail)
            all_goals exact ⟨rfl, rfl, by repeat (first | exact HX.out | apply below_drew1 | refine Below.setCell ?_ HBW.out _)⟩
          rintro w2 ⟨hheap, hbel⟩
          have hcA2 : w2.cell? ⟨b, 0, none⟩ = some (.slice A1 l1 k1) := HF1.out.setA HIN.out hheap hcA
          have hcB2 : w2.cell? ⟨b, 1, none⟩ = some (.int .i64 (m1 : Int)) := HF1.out.setB HIN.out hheap
          have hfA2 : w2.frozen? ⟨b, 0, none⟩ = false := HF1.out.setF HIN.out hheap 0
          have HBE := Aside0.mk hbel
          have HHP := Aside0.mk hheap
          have HKM := Aside0.mk (HHa.out.step HKE.out HGB.out (HF0b.out b HIN.out) HM.out (show m1 = ff b + min M ((bb b).length - ff b) by rw [HFF.out, HL1.out]; exact HM1.out.symm))
          have hrd2 : ReadsInt w2 .u8 A1 (B ((bb b).take m1)).length (B ((bb b).take m1)) := HF1.out.takeReads HIN.out HV1.out HHP.out (by rw [HL1.out]; exact hml)
          have HCL := Aside0.mk (fun X (hX : Below w2.heap.size w2 X) => cloneAny A1 m1 k1 ((bb b).take m1) X (hrd2.below hX) (by rw [List.length_take]; have := HL1.out; omega) (by rw [List.length_take, HL1.out]; omega))
          have HCE := Aside0.mk (fun X (hX : Below w2.heap.size w2 X) => crashCells hcA2 hfA2 hX)
          have HLB := Aside0.mk (show (B ((bb b).take m1)).length = m1 by rw [B_length, List.length_take, HL1.out]; omega)
          have HFB := Aside0.mk (show f ≠ b from ne_of_obj (HH1.out.trans HC.out.head) (HF1.out.file b HIN.out).1 (by simp))
          have HBB := Aside0.mk (show bs ≠ b by obtain ⟨es, c, hm⟩ := map_obj HR1.out.owns; exact ne_of_obj hm (HF1.out.file b HIN.out).1 (by simp))
          have HT2 := Aside0.mk (HTu.out.2.1 f HC.out.inF)
          have HBW := Aside0.mk (show w0.heap.size ≤ b from (HF1.out.mine b (HF1.out.inX b HIN.out).1).1)
          clear hheap hbel hcA hcB hfA hfB hsub hsum hrd2
          have hb1 : (0 : Int) ≤ (m1 : Int) := by omega
          have hb2 : (m1 : Int) ≤ (k1 : Int) := by omega
          go_wp2
          go_region_with (first | (go_at_call 38; go_must (refine (HCL.out _ (by repeat (first | exact Below.refl _ _ | apply below_drew1))).mono ?_; rintro e w3 ⟨v', rfl, hown, hb⟩; obtain ⟨A2, c2, hv2⟩ := own_slice hown; subst hv2; obtain ⟨hcA3, hfA3⟩ := HCE.out w3 (Below.trans (by repeat (first | exact Below.refl _ _ | apply below_drew1)) hb); have HOW := Aside0.mk hown; have HB3 := Aside0.mk (Below.trans (by repeat (first | exact Below.refl w2.heap.size w2 | apply below_drew1)) hb); clear hown hb)))
          all_goals
            have HLN := Aside0.mk (show (B ((bb b).take m1)).length = min m1 (bb b).length by rw [B_length, List.length_take])
            go_wp2
            go_roundw
            case rel =>
              exact crashRel HF1.out HIN.out (by rw [HL1.out]; exact hml) HHP.out HB3.out HOW.out HLN.out.symm rfl (by repeat (first | exact HBE.out.trans (HB3.out.mono (Nat.le_trans HF1.out.below.size HBE.out.size)) | apply below_drew1 | refine Below.setCell ?_ HBW.out _)) HR1.out HT2.out HH1.out HFB.out HT1.out HNr.out HBB.out HKM.out.2
            case measure =>
              refine Nat.lt_of_le_of_lt (Nat.le_of_eq (crashMeasure HF1.out HIN.out HHP.out HB3.out rfl (by repeat (first | exact HBE.out.trans (HB3.out.mono (Nat.le_trans HF1.out.below.size HBE.out.size)) | apply below_drew1 | refine Below.setCell ?_ HBW.out _)) HR1.out HNr.out HBB.out)) ?_
              rw [HRg.out.left_eq]
              exact HLT.out
end Go.Proofs.Ytibmgcihpbofdaa.Fs
