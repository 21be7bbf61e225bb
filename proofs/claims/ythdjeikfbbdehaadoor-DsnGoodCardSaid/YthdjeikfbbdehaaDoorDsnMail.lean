/- law23: ref10.Good. -/
import Derived.Test.YthdjeikfbbdehaaDoorDsnBox
namespace Go.Proofs.YthdjeikfbbdehaaDoor.Fs
open Go.RowKit Go.Proofs.YthdjeikfbbdehaaDoor Go.Proofs.YthdjeikfbbdehaaDoor.Plain Go.Proofs.YthdjeikfbbdehaaDoorW.PrintWords Go.Maps
set_option linter.unusedVariables false
set_option linter.unusedSimpArgs false
theorem readsBelow {w W : World} {Q : Option Addr} {u : List UInt8} (h : ReadsInt w .u8 Q (B u).length (B u)) (hb : Below w.heap.size w W) : ReadsInt W .u8 Q (B u).length (B u) := by
  obtain ⟨h1, h2, h3⟩ := h
  refine ⟨h1, h2, fun h0 => ?_⟩
  obtain ⟨ad, e, hc⟩ := h3 h0
  exact ⟨ad, e, fun j hj => (World.cell?_of_block (hb.block _ (World.block_lt_of_cell? _ _ (hc j hj)))).trans (hc j hj)⟩
structure GoodD (m : MailD) : Prop where
  id1 : 1 ≤ m.id
  id2 : m.id ≤ 999999999
  par1 : 0 ≤ m.par
  par2 : m.par < m.id
  born1 : 0 ≤ m.born
  born2 : m.born ≤ 1099511627776
  rc1 : 1 ≤ m.rcpts.length
  rc2 : m.rcpts.length ≤ 8
  bd1 : m.body.length ≤ 8192
  bd2 : bodyB m.body = true
  box : ∀ s ∈ m.rcpts, boxB s = true
  from_ : m.sender = [] ∨ boxB m.sender = true
open Classical in
noncomputable def goodB (m : MailD) : Bool := decide (GoodD m)
theorem goodB_iff (m : MailD) : goodB m = true ↔ GoodD m := by unfold goodB; simp
theorem goodB_not {m : MailD} (h : ¬ GoodD m) : goodB m = false := by cases e : goodB m with | false => rfl | true => exact absurd ((goodB_iff m).1 e) h
set_option maxHeartbeats 1000000 in
set_option maxRecDepth 100000 in
theorem goodIs {w : World} {v : Value} (m : MailD) (h : MailAt w v m) (W : World) (hW : Below w.heap.size w W) : Calls Tryd.prog 21 #[v] W fun e W' => e = .returned (.bool (goodB m)) ∧ Below W.heap.size W W' := by
  obtain ⟨A, c, Q, q, rfl, hs, hr, hn, hb⟩ := h
  have HN := Aside0.mk hn
  have HB := Aside0.mk hb
  have XB := bodyIs Q q m.body
  have HXB := Aside0.mk XB
  clear hn hb XB
  go_enter Tryd.func21, Tryd.ntmps21
  by_cases c0 : m.id < 1
  · go_wp2
    go_ret
    exact ⟨by rw [goodB_not (fun h => by have := h.id1; omega)]; rfl, below_alloc (Below.refl _ _) _⟩
  by_cases c1 : m.id > 999999999
  · go_wp2
    go_ret
    exact ⟨by rw [goodB_not (fun h => by have := h.id2; omega)]; rfl, below_alloc (Below.refl _ _) _⟩
  by_cases c2 : m.par < 0
  · go_wp2
    go_ret
    exact ⟨by rw [goodB_not (fun h => by have := h.par1; omega)]; rfl, below_alloc (Below.refl _ _) _⟩
  by_cases c3 : m.par ≥ m.id
  · go_wp2
    go_ret
    exact ⟨by rw [goodB_not (fun h => by have := h.par2; omega)]; rfl, below_alloc (Below.refl _ _) _⟩
  by_cases c4 : m.born < 0
  · go_wp2
    go_ret
    exact ⟨by rw [goodB_not (fun h => by have := h.born1; omega)]; rfl, below_alloc (Below.refl _ _) _⟩
  by_cases c5 : m.born > 1099511627776
  · go_wp2
    go_ret
    exact ⟨by rw [goodB_not (fun h => by have := h.born2; omega)]; rfl, below_alloc (Below.refl _ _) _⟩
  by_cases c6 : (m.rcpts.length : Int) < 1
  · go_wp2
    go_ret
    exact ⟨by rw [goodB_not (fun h => by have := h.rc1; omega)]; rfl, below_alloc (Below.refl _ _) _⟩
  by_cases c7 : (m.rcpts.length : Int) > 8
  · go_wp2
    go_ret
    exact ⟨by rw [goodB_not (fun h => by have := h.rc2; omega)]; rfl, below_alloc (Below.refl _ _) _⟩
  by_cases c8 : (m.body.length : Int) > 8192
  · go_wp2
    go_ret
    exact ⟨by rw [goodB_not (fun h => by have := h.bd1; omega)]; rfl, below_alloc (Below.refl _ _) _⟩
  have XB2 := fun X (hX : ReadsInt X .u8 Q (B m.body).length (B m.body)) => HXB.out X hX (by omega)
  cases hbd : bodyB m.body with
  | false =>
    go_wp2_with (go_at_call 30; refine (XB2 _ (readsBelow HB.out (hW.trans ((below_alloc (Below.refl _ _) _).mono hW.size)))).mono ?_; rintro e W1 ⟨rfl, rfl⟩; rw [hbd])
    go_ret
    exact ⟨by rw [goodB_not (fun h => by have := h.bd2; rw [hbd] at this; cases this)]; rfl, below_alloc (Below.refl _ _) _⟩
  | true =>
    obtain ⟨W2, hW2⟩ : ∃ W2, W2 = W.alloc (.cells #[.int .i64 m.id, .int .i64 m.par, .int .i64 m.born, .string (S m.sender), .slice A m.rcpts.length c, .slice Q m.body.length q] 40) := ⟨_, rfl⟩
    have HW2 := Aside0.mk hW2
    have hb2 : Below W.heap.size W W2 := by rw [hW2]; exact below_alloc (Below.refl _ _) _
    have HB2 := Aside0.mk hb2
    clear hb2
    go_wp2_with (go_at_call 30; refine (XB2 _ (readsBelow HB.out (hW.trans ((below_alloc (Below.refl _ _) _).mono hW.size)))).mono ?_; rintro e W1 ⟨rfl, rfl⟩; rw [hbd])
    rw [← hW2]
    have hc4 : W2.cell? ⟨W.heap.size, 4, none⟩ = some (.slice A m.rcpts.length c) := by rw [hW2]; unfold World.cell?; simp only []; rw [heap_alloc_new]; rfl
    have hc3 : W2.cell? ⟨W.heap.size, 3, none⟩ = some (.string (S m.sender)) := by rw [hW2]; unfold World.cell?; simp only []; rw [heap_alloc_new]; rfl
    have HC4 := Aside0.mk (fun X (hX : Below W2.heap.size W2 X) => (World.cell?_of_block (hX.block _ (World.block_lt_of_cell? _ _ hc4))).trans hc4)
    have HC3 := Aside0.mk (fun X (hX : Below W2.heap.size W2 X) => (World.cell?_of_block (hX.block _ (World.block_lt_of_cell? _ _ hc3))).trans hc3)
    clear hc3 hc4 hW2 XB2
    go_loopw [3] (fun v3 wr => ∃ i : Nat, i ≤ m.rcpts.length ∧ v3 = .int .i64 i ∧ Aside0 (∀ j (hj : j < m.rcpts.length), j < i → boxB m.rcpts[j] = true) ∧ Aside0 (Below W2.heap.size W2 wr)) (fun v3 _ => m.rcpts.length - (intOf v3).toNat)
    case atStart => exact ⟨0, by omega, rfl, ⟨fun j hj h => by omega⟩, ⟨Below.refl _ _⟩⟩
    case round =>
      obtain ⟨i, hi, rfl, HI, HX⟩ := hrel
      have hc3 := HC3.out _ HX.out
      have hc4 := HC4.out _ HX.out
      by_cases hlt : i < m.rcpts.length
      · obtain ⟨ad, hA, hcell, hsl⟩ := (HN.out.below (hW.trans ((HB2.out.trans (HX.out.mono HB2.out.size)).mono hW.size))) i hlt
        subst hA
        obtain ⟨t, ht⟩ : ∃ t, m.rcpts[i] = t := ⟨_, rfl⟩
        rw [ht] at hcell hsl
        have HT := Aside0.mk ht
        have XX := boxIs t hsl wr
        clear ht hsl
        cases hbx : boxB t with
        | false =>
          rw [hbx] at XX
          have HBX := Aside0.mk hbx
          clear hbx
          go_wp2_with (go_at_call 31; refine XX.mono ?_; clear XX; rintro e W3 ⟨rfl, hb⟩; have HY := Aside0.mk hb; clear hb)
          go_ret
          exact ⟨by rw [goodB_not (fun h => by have := h.box _ (List.getElem_mem hlt); rw [HT.out, HBX.out] at this; cases this)]; rfl, HB2.out.trans ((HX.out.trans (HY.out.mono HX.out.size)).mono HB2.out.size)⟩
        | true =>
          rw [hbx] at XX
          have HBX := Aside0.mk hbx
          clear hbx
          go_wp2_with (go_at_call 31; refine XX.mono ?_; clear XX; rintro e W3 ⟨rfl, hb⟩; have HY := Aside0.mk hb; clear hb)
          go_roundw
          case rel =>
            refine ⟨i + 1, by omega, by go_num, ⟨fun j hj h => ?_⟩, ⟨HX.out.trans (HY.out.mono HX.out.size)⟩⟩
            by_cases e : j = i
            · subst e; rw [HT.out]; exact HBX.out
            · exact HI.out j hj (by omega)
          case measure => simp [intOf]; omega
      · have hall : ∀ s ∈ m.rcpts, boxB s = true := fun s hs => by
          obtain ⟨j, hj, rfl⟩ := List.getElem_of_mem hs
          exact HI.out j hj (by omega)
        have HALL := Aside0.mk hall
        have HBD := Aside0.mk hbd
        clear hall hbd HI
        have hsl := Aside0.mk hs
        obtain ⟨sd, hsd⟩ : ∃ sd, m.sender = sd := ⟨_, rfl⟩
        rw [hsd] at hc3 hsl
        have HSD := Aside0.mk hsd
        clear hsd
        have hchain : Below W.heap.size W wr := HB2.out.trans (HX.out.mono HB2.out.size)
        have HCH := Aside0.mk hchain
        clear hchain
        cases sd with
        | nil =>
          go_wp2
          go_ret
          exact ⟨by rw [(goodB_iff m).2 ⟨by omega, by omega, by omega, by omega, by omega, by omega, by omega, by omega, by omega, HBD.out, HALL.out, .inl HSD.out⟩]; rfl, HCH.out⟩
        | cons x sd =>
          have XX := boxIs (x :: sd) hsl.out wr
          have hne : ((x :: sd) == ([] : List UInt8)) = false := rfl
          obtain ⟨y, hy⟩ : ∃ y, boxB (x :: sd) = y := ⟨_, rfl⟩
          rw [hy] at XX
          have HY := Aside0.mk hy
          clear hy
          go_wp2_with (go_at_call 31; refine XX.mono ?_; clear XX; rintro e W3 ⟨rfl, hb⟩; have HZ := Aside0.mk hb; clear hb)
          go_ret
          refine ⟨?_, chain' HCH.out HZ.out⟩
          cases y with
          | true => rw [(goodB_iff m).2 ⟨by omega, by omega, by omega, by omega, by omega, by omega, by omega, by omega, by omega, HBD.out, HALL.out, .inr (by rw [HSD.out]; exact HY.out)⟩]; rfl
          | false =>
            rw [goodB_not (fun h => by
              rcases h.from_ with h | h
              · rw [HSD.out] at h; cases h
              · rw [HSD.out, HY.out] at h; cases h)]
            rfl
end Go.Proofs.YthdjeikfbbdehaaDoor.Fs
