/- The law BoxQuota: a list of deliveries, opened; the walk. -/
import Derived.Test.YtilgfpljjjbgdaaGreatDoorBoxList
namespace Go.Proofs.YtilgfpljjjbgdaaGreatDoor.Fs
open Go.RowKit Go.Proofs.YtilgfpljjjbgdaaGreatDoor Go.Proofs.YtilgfpljjjbgdaaGreatDoor.Plain Go.Proofs.YtilgfpljjjbgdaaGreatDoorW.PrintWords Go.Maps Go.ChangeShapes Go.WideShapes
set_option linter.unusedVariables false
set_option linter.unusedSimpArgs false
def OpR (W : World) (o : OpD) : Prop := ReadsInt W .u8 o.A (B o.body).length (B o.body) ∧ (-9223372036854775808 ≤ o.id ∧ o.id ≤ 9223372036854775807)
def OpsOf (W : World) (v : Value) : Prop := ∃ (A : Option Addr) (c : Nat) (l : List OpD), v = .slice A l.length c ∧ l.length ≤ 9223372036854775807 ∧ OpsAt W A l ∧ ∀ o ∈ l, OpR W o
set_option maxRecDepth 100000 in
theorem openOp1 {H : Type} {enc : TypeId × Value → H} {W : World} {fuel : Nat} {cs : List Value} {x : DataW H × List MemPlace} (h : DataW.trod enc Tryz.prog W 0 (fun _ => true) true fuel 29 cs = some x) : ∃ o : OpD, cs = (opV o).toList ∧ OpR W o := by
  obtain ⟨xs, n, _, hx, hl, hxl, hf⟩ := DataW.trod_struct Tryz.underlying29 h
  rw [cellsOfOp] at hl
  obtain ⟨c0, c1, c2, c3, rfl⟩ := fourE hl
  obtain ⟨y0, y1, y2, y3, rfl⟩ := fourE (l := xs) (by simpa using hxl)
  have k3 : Tryz.prog.cellsOf 3 = 1 := by kernel_rfl
  have k9 : Tryz.prog.cellsOf 9 = 1 := by kernel_rfl
  have k22 : Tryz.prog.cellsOf 27 = 1 := by kernel_rfl
  have f0 := hf 0 _ rfl
  have f1 := hf 1 _ rfl
  have f2 := hf 2 _ rfl
  have f3 := hf 3 _ rfl
  simp only [k3, k9, k22, List.drop_succ_cons, List.drop_zero, List.take_succ_cons, List.take_zero, List.getElem?_cons_zero, List.getElem?_cons_succ] at f0 f1 f2 f3
  obtain ⟨s0, e0, q0, -⟩ := DataW.trod_string Tryz.underlying9 f0
  obtain ⟨u0, rfl⟩ := exS s0
  obtain ⟨m1, e1, -, w1⟩ := DataW.trod_int Tryz.underlying3 f1
  obtain ⟨m2, e2, -, w2⟩ := DataW.trod_int Tryz.underlying3 f2
  injection e0 with e0
  injection e1 with e1
  injection e2 with e2
  subst e0 e1 e2
  rcases open_ints Tryz.underlying27 Tryz.underlying5 (by kernel_rfl) f3 with ⟨e3, _⟩ | ⟨ad, l, cp, zs, e3, _, hl1, hl2, hl3, _, hcell, hwf⟩
  · injection e3 with e3
    subst e3
    exact ⟨⟨u0, m1, m2, none, 0, []⟩, rfl, ⟨rfl, Nat.zero_le _, fun h => absurd h (Nat.lt_irrefl 0)⟩, i64_of w1⟩
  · injection e3 with e3
    subst e3
    have hzl : l ≤ zs.length := by rw [hl3]; split <;> omega
    obtain ⟨u, hu⟩ := exB (zs.take l) (fun z hz => hwf z (List.mem_of_mem_take hz))
    have hul : u.length = l := by have := congrArg List.length hu; rw [B_length, List.length_take] at this; omega
    refine ⟨⟨u0, m1, m2, some ad, cp, u⟩, by rw [← hul]; rfl, ⟨rfl, by rw [B_length, hul]; simp only [maxLen] at hl2; omega, fun _ => ⟨ad, rfl, fun j hj => ?_⟩⟩, i64_of w1⟩
    have hj' : j < l := by rw [B_length, hul] at hj; exact hj
    rw [hcell j (by omega)]
    show some (Value.int .u8 (zs.getD j 0)) = some (Value.int .u8 ((B u).getD j 0))
    rw [← hu]
    simp [List.getD_eq_getElem?_getD, List.getElem?_take, hj']
set_option maxRecDepth 100000 in
theorem opsOf {H : Type} {enc : TypeId × Value → H} {W : World} {base : Nat} {v : Value} {d : DataW H} {p : List MemPlace} (hv : Value.okWide Tryz.prog W .any base 22 v) (h : DataW.Trod enc Tryz.prog W 0 (fun _ => true) true 22 v d p) (hw : ∀ x ∈ d.weights Tryz.prog 22, x ≤ reachBytes) : OpsOf W v := by
  obtain ⟨A, n, c, rfl⟩ := okWide_slice Tryz.underlying22 hv
  obtain ⟨fuel, hf⟩ := h
  rcases Deep.open_slice Tryz.underlying22 hf with ⟨hcs, _⟩ | ⟨a, len, cap, m, k, D, Pl, hcs, _, hl, hm, hmm, hx, hr⟩
  · simp [Value.cells] at hcs
    obtain ⟨rfl, rfl, rfl⟩ := hcs
    exact ⟨none, 0, [], rfl, by simp, fun j hj => by simp at hj, fun o ho => by simp at ho⟩
  · simp [Value.cells] at hcs
    obtain ⟨rfl, rfl, rfl⟩ := hcs
    have hop : ∀ j, j < n → ∃ s : OpD, (∀ i, i < 4 → W.cell? (a.add (j * 4 + i)) = (opV s)[i]?) ∧ OpR W s := by
      intro j hj
      obtain ⟨cs', hc, ht⟩ := hr j (by rw [hmm]; split <;> omega)
      obtain ⟨s, e, hs⟩ := openOp1 ht
      refine ⟨s, fun i hi => ?_, hs⟩
      obtain ⟨_, _, h3⟩ := World.cells?_some hc
      rw [cellsOfOp] at h3
      have h4 := h3 i hi
      rw [e] at h4
      rw [← Addr.add_add, h4, Array.getElem?_toList]
    refine ⟨some a, c, (List.range n).map fun j => if hj : j < n then (hop j hj).choose else ⟨[], 0, 0, none, 0, []⟩, by simp, by simp only [List.length_map, List.length_range]; simp only [maxLen] at hm; omega, fun j hj => ?_, fun x hx2 => ?_⟩
    · have hjn : j < n := by simpa using hj
      refine ⟨a, rfl, ?_⟩
      have e : ((List.range n).map fun j => if hj : j < n then (hop j hj).choose else (⟨[], 0, 0, none, 0, []⟩ : OpD))[j] = (hop j hjn).choose := by simp [hjn]
      rw [e]
      exact (hop j hjn).choose_spec.1
    · obtain ⟨j, hj, rfl⟩ := List.mem_map.1 hx2
      have hjn : j < n := List.mem_range.1 hj
      simp only [hjn, dif_pos]
      exact (hop j hjn).choose_spec.2
/-- the disk behind so many deliveries -/
structure QD (X0 : World) (f : Nat) (quota : Int) (m : Nat) (d : Disk) (N : Nat) (T : Nat → Prop) (X : World) : Prop where
  fs : FsAt X0 f d N T X
  box : BoxD d
  room : d.room = 1048576
  bytes : used d.bytes d.now ≤ 1000 * m
  files : d.now.length ≤ m
  quota : ∀ v, (usedL d v : Int) ≤ quota
  small : N ≤ 1010 * m
theorem QD.step {X0 X Y : World} {f m N : Nat} {quota : Int} {d : Disk} {T : Nat → Prop} (h : QD X0 f quota m d N T X) (hb : Below X.heap.size X Y) : QD X0 f quota m d N T Y := ⟨h.fs.step hb, h.box, h.room, h.bytes, h.files, h.quota, h.small⟩
theorem QD.next {X0 X : World} {f m N : Nat} {quota : Int} {d : Disk} {T : Nat → Prop} (h : QD X0 f quota m d N T X) : QD X0 f quota (m + 1) d N T X := ⟨h.fs, h.box, h.room, by have := h.bytes; omega, by have := h.files; omega, h.quota, by have := h.small; omega⟩
theorem FsAt.mine0 {w0 W : World} {f : Nat} {d : Disk} {N : Nat} {T : Nat → Prop} (h : FsAt w0 f d N T W) : ∀ k, T k → w0.heap.size ≤ k := by
  obtain ⟨bn, bs, vl, fs, vb, c⟩ := h
  exact fun k hk => (c.mine k hk).1
theorem sync_box {d : Disk} (h : BoxD d) : d.dirSync.1 = 0 ∧ BoxD d.dirSync.2 ∧ d.dirSync.2.now = d.now ∧ d.dirSync.2.bytes = d.bytes ∧ d.dirSync.2.room = d.room := by
  rw [on_dirSync h.on]
  exact ⟨rfl, ⟨h.on, h.files, h.got⟩, rfl, rfl, rfl⟩
set_option maxHeartbeats 4000000 in
set_option maxRecDepth 100000 in
theorem boxQuota {w : World} (quota : Int) (hqt : (Lit.int .u8 quota).wf = true) (v : Value) (hv : OpsOf w v) (hG : GI w) : Calls Tryz.prog 3 #[.int .u8 quota, v] w fun e w' => e = .returned (.bool true) ∧ Below w.heap.size w w' := by
  obtain ⟨A0, c0, l, rfl, hl, hops, hrd⟩ := hv
  have hq0 : 0 ≤ quota ∧ quota ≤ 255 := by
    simp [Lit.wf] at hqt
    have e1 : IntKind.u8.min = 0 := by decide
    have e2 : IntKind.u8.max = 255 := by decide
    omega
  have HG := Aside0.mk hG
  have HOPS := Aside0.mk hops
  have HRD := Aside0.mk hrd
  have HB0 := Aside0.mk (Below.refl w.heap.size w)
  have HLT := Aside0.mk (fun (X : World) (hX : Below w.heap.size w X) => lightIs A0 c0 l hl X (hops.below hX))
  have HAN := Aside0.mk (fun (X : World) (hX : Below w.heap.size w X) => boxAnswers X (hG.below hX))
  have HLP := Aside0.mk (lightL_true (l := l))
  obtain ⟨lg, hlg⟩ : ∃ b, lightL l = b := ⟨_, rfl⟩
  rw [hlg] at HLT HLP
  clear hG hops hrd hlg hqt
  cases lg with
  | false =>
    go_enter Tryz.func3, Tryz.ntmps3
    go_wp2_with (first
      | (go_at_call 6; refine (HLT.out _ HB0.out).mono ?_; rintro e W1 ⟨rfl, hb⟩; have HB1 := Aside0.mk hb; clear hb)
      | (go_at_call 7; refine (HAN.out _ HB1.out).mono ?_; rintro e W9 ⟨rfl, hb⟩; have HB9 := Aside0.mk (chain' HB1.out hb); clear hb))
    all_goals go_ret
    all_goals exact ⟨rfl, HB9.out⟩
  | true =>
    have HLL := Aside0.mk (HLP.out.1 rfl)
    have HNW := Aside0.mk (fun (X : World) => new (w0 := X) (W := X) (Below.refl _ _) 1048576)
    clear HLP
    go_enter Tryz.func3, Tryz.ntmps3
    go_wp2_with (first
      | (go_at_call 6; refine (HLT.out _ HB0.out).mono ?_; rintro e X0 ⟨rfl, hb⟩; have HB1 := Aside0.mk hb; clear hb)
      | (go_at_call 8; refine (HNW.out _).mono ?_; rintro e W2 ⟨f, T0, rfl, hF, hT, hb⟩; have HB2 := Aside0.mk (chain' HB1.out hb); have HQ0 := Aside0.mk (show QD X0 f quota 0 (Disk.fresh 1048576) 0 T0 W2 from ⟨hF, box_fresh 1048576, rfl, Nat.le_refl _, Nat.le_refl _, fun v => by rw [usedL_sum (box_fresh 1048576)]; show ((0 : Nat) : Int) ≤ quota; omega, Nat.le_refl _⟩); clear hb hF hT))
    go_loopw [6, 7, 8, 9, 10, 11, 12, 13] (fun v6 v7 v8 v9 v10 v11 v12 v13 wr => ∃ i : Nat, i ≤ l.length ∧ v6 = .int .i64 i ∧ Aside0 (∃ d N T, QD X0 f quota i d N T wr)) (fun v6 _ _ _ _ _ _ _ _ => l.length - (intOf v6).toNat)
    case atStart => exact ⟨0, by omega, rfl, ⟨_, _, _, HQ0.out⟩⟩
    case round =>
      obtain ⟨i, hi, rfl, HST⟩ := hrel
      obtain ⟨d, N, T, hQ⟩ := HST.out
      have HBW := Aside0.mk (chain' HB1.out hQ.fs.below')
      by_cases hlt : i < l.length
      · obtain ⟨ad, rfl, hcell⟩ := (HOPS.out.below HBW.out) i hlt
        have hlo := HLL.out _ (List.getElem_mem hlt)
        have hro := HRD.out _ (List.getElem_mem hlt)
        obtain ⟨x, hx⟩ : ∃ x, l[i] = x := ⟨_, rfl⟩
        rw [hx] at hcell hlo hro
        obtain ⟨hl40, hu, hb⟩ := hlo
        obtain ⟨u, n, q, A, c, b⟩ := x
        obtain ⟨d0, d1, d2, d3⟩ := opCells hcell
        dsimp only at d0 d1 d2 d3 hu hb hro
        obtain ⟨hrb, hn64⟩ := hro
        have hi40 : i ≤ 39 := by omega
        have hN : N ≤ 39390 := by have := hQ.small; omega
        have hGw : GI wr := HG.out.below HBW.out
        have HGW := Aside0.mk hGw
        have HQW := Aside0.mk hQ
        have HRW := Aside0.mk (hrb.below HBW.out)
        have HNI := Aside0.mk (notIn (W := X0) (hrb.below HB1.out) hQ.fs.mine0)
        obtain ⟨Y, hY⟩ : ∃ Y, wr.alloc (.cells #[.string (S u), .int .i64 n, .int .i64 q, .slice A b.length c] 29) = Y := ⟨_, rfl⟩
        have HY := Aside0.mk (show Y.heap[wr.heap.size]? = some (.cells #[.string (S u), .int .i64 n, .int .i64 q, .slice A b.length c] 29 (0, 0)) by rw [← hY]; exact heapAt rfl (Below.refl _ _))
        have HBY := Aside0.mk (show Below wr.heap.size wr Y by rw [← hY]; exact below_alloc (Below.refl _ _) _)
        obtain ⟨k0, k1, k2, k3⟩ := fourC HY.out
        have HNT := Aside0.mk (show ¬ T wr.heap.size from fun hh => by have := hQ.fs.mine _ hh; omega)
        have HF := Aside0.mk True.intro
        have HR2 := Aside0.mk (fun (X : World) (d' : Disk) (N' : Nat) (T' : Nat → Prop) (is_ : Bool) (h : QD X0 f quota (i + 1) d' N' T' X) (hs : (readB d' u n).2 = is_) => show Calls Tryz.prog 9 #[.pointer (some ⟨f, 0, none⟩), .string (S u), .int .i64 n] X (fun e W' => ∃ v, e = .returned (.tuple #[v, .bool is_]) ∧ Below X.heap.size X W') from by
          have k := boxReadIs h.fs (by have := h.small; omega) u (by omega) n (HG.out.below (chain' HB1.out h.fs.below'))
          rw [hs] at k
          exact k.mono fun e W' ⟨v, he, ho⟩ => ⟨v, he, ho.2⟩)
        have HUS := Aside0.mk (fun (X : World) (d' : Disk) (N' : Nat) (T' : Nat → Prop) (h : QD X0 f quota (i + 1) d' N' T' X) => show Calls Tryz.prog 11 #[.pointer (some ⟨f, 0, none⟩), .string (S u)] X (fun e W' => ∃ U : Int, e = .returned (.int .i64 U) ∧ (0 ≤ U ∧ U ≤ quota) ∧ Below X.heap.size X W') from
          (boxUsedIs h.fs (by have := h.small; omega) h.box.on.1 h.box.short u (by omega) (HG.out.below (chain' HB1.out h.fs.below'))).mono fun e W' ⟨he, hb⟩ => ⟨_, he, ⟨by omega, h.quota u⟩, hb⟩)
        have HR1 := Aside0.mk (fun (X : World) (hX : Below wr.heap.size wr X) => (boxReadIs (hQ.fs.step hX) (by omega) u (by omega) n (hGw.below hX)).mono (fun e W' (h : ∃ v, e = .returned (.tuple #[v, .bool (readB d u n).2]) ∧ RdOf X (readB d u n).1 v W') => (by obtain ⟨v, he, ho⟩ := h; exact ⟨v, he, ho.2⟩ : ∃ v, e = .returned (.tuple #[v, .bool (readB d u n).2]) ∧ Below X.heap.size X W')))
        obtain ⟨g, hg⟩ : ∃ g, goodB u n = g := ⟨_, rfl⟩
        cases g with
        | false =>
          have hrd := readB_bad d hg
          rw [hrd] at HR1
          have HDL := Aside0.mk (fun (X : World) (hX : Below wr.heap.size wr X) => show Calls Tryz.prog 10 #[.pointer (some ⟨f, 0, none⟩), .string (S u), .int .i64 n, .slice A b.length c, .int .i64 quota] X (fun e W' => e = .returned (.tuple #[.bool false, .int .i64 1]) ∧ ∃ d' N' T', QD X0 f quota (i + 1) d' N' T' W' ∧ Turn T X T' W' ∧ (readB d' u n).2 = false) from
            (deliverBad f u (by omega) n hg A b.length c quota X (HGW.out.below hX)).mono fun e W' ⟨he, hb⟩ => ⟨he, d, N, T, (HQW.out.step (chain' hX hb)).next, Turn.of_below hb, by rw [readB_bad d hg]⟩)
          clear hrd hg hcell hx hGw hQ hrb hN hu hb hl40 hn64
          go_wp2_with (first
            | (go_at_call 9; clear HF; (try rw [hY]); refine (HR1.out Y HBY.out).mono ?_; rintro e W1 ⟨v1, rfl, hb⟩; have HB1 := Aside0.mk (chain' HBY.out hb); have HY1 := Aside0.mk (carry hb HY.out); clear k0 k1 k2 k3; obtain ⟨k0, k1, k2, k3⟩ := fourC HY1.out; clear hb)
            | (go_at_call 10; refine (HDL.out _ HB1.out).mono ?_; rintro e W2 ⟨rfl, d', N', T', hQ, hT, his⟩; have HQ2 := Aside0.mk hQ; have HI2 := Aside0.mk his; have HY2 := Aside0.mk ((hT.2.2.1 _ (Array.getElem?_eq_some_iff.1 HY1.out).1 HNT.out).trans HY1.out); clear k0 k1 k2 k3; obtain ⟨k0, k1, k2, k3⟩ := fourC HY2.out; clear hQ hT his)
            | (go_at_call 9; refine (HR2.out _ _ _ _ _ HQ2.out HI2.out).mono ?_; rintro e W3 ⟨v3, rfl, hb⟩; have HQ3 := Aside0.mk (HQ2.out.step hb); have HY3 := Aside0.mk (carry hb HY2.out); clear k0 k1 k2 k3; obtain ⟨k0, k1, k2, k3⟩ := fourC HY3.out; clear hb)
            | (go_at_call 11; refine (HUS.out _ _ _ _ HQ3.out).mono ?_; rintro e W4 ⟨U, rfl, hU, hb⟩; have HQ4 := Aside0.mk (HQ3.out.step hb); clear hb))
          go_roundw
          case rel => exact ⟨i + 1, by omega, by go_num, ⟨d', N', T', HQ4.out⟩⟩
          case measure => simp [intOf] <;> omega
        | true =>
          obtain ⟨was, hwas⟩ : ∃ b, (readB d u n).2 = b := ⟨_, rfl⟩
          rw [hwas] at HR1
          cases was with
          | true =>
            have HDL := Aside0.mk (fun (X : World) (hX : Below wr.heap.size wr X) => show Calls Tryz.prog 10 #[.pointer (some ⟨f, 0, none⟩), .string (S u), .int .i64 n, .slice A b.length c, .int .i64 quota] X (fun e W' => e = .returned (.tuple #[.bool true, .int .i64 0]) ∧ ∃ d' N' T', QD X0 f quota (i + 1) d' N' T' W' ∧ Turn T X T' W' ∧ (readB d' u n).2 = true) from
              (deliverThere (HQW.out.fs.step hX) (by omega) (HG.out.below HB1.out) HQW.out.box.on.1 (sync_box HQW.out.box).1 u (by omega) n hg hwas A b.length c quota).mono fun e W' ⟨he, T', hF, hT⟩ => by
                obtain ⟨-, s1, s2, s3, s4⟩ := sync_box HQW.out.box
                have hq := HQW.out
                refine ⟨he, d.dirSync.2, N, T', ⟨hF, s1, s4.trans hq.room, by rw [s2, s3]; have := hq.bytes; omega, by rw [s2]; have := hq.files; omega, fun v => ?_, by have := hq.small; omega⟩, hT, ?_⟩
                · have : usedL d.dirSync.2 v = usedL d v := by
                    rw [usedL_sum s1, usedL_sum hq.box, s2]
                    congr 1
                    exact List.map_congr_left (fun p _ => by unfold held; rw [s3])
                  rw [this]
                  exact hq.quota v
                · obtain ⟨hbx, k, rfl, hk1, hk2⟩ := good_parts hg
                  rw [readB_good s1 hbx hk1 hk2, s2]
                  rw [readB_good hq.box hbx hk1 hk2] at hwas
                  cases hgt : get d.now (fileN u 43 k) with
                  | none => rw [hgt] at hwas; cases hwas
                  | some y => rfl)
            clear hwas hg hcell hx hGw hQ hrb hN hu hb hl40 hn64
            go_wp2_with (first
              | (go_at_call 9; clear HF; (try rw [hY]); refine (HR1.out Y HBY.out).mono ?_; rintro e W1 ⟨v1, rfl, hb⟩; have HB1 := Aside0.mk (chain' HBY.out hb); have HY1 := Aside0.mk (carry hb HY.out); clear k0 k1 k2 k3; obtain ⟨k0, k1, k2, k3⟩ := fourC HY1.out; clear hb)
              | (go_at_call 10; refine (HDL.out _ HB1.out).mono ?_; rintro e W2 ⟨rfl, d', N', T', hQ, hT, his⟩; have HQ2 := Aside0.mk hQ; have HI2 := Aside0.mk his; have HY2 := Aside0.mk ((hT.2.2.1 _ (Array.getElem?_eq_some_iff.1 HY1.out).1 HNT.out).trans HY1.out); clear k0 k1 k2 k3; obtain ⟨k0, k1, k2, k3⟩ := fourC HY2.out; clear hQ hT his)
              | (go_at_call 9; refine (HR2.out _ _ _ _ _ HQ2.out HI2.out).mono ?_; rintro e W3 ⟨v3, rfl, hb⟩; have HQ3 := Aside0.mk (HQ2.out.step hb); have HY3 := Aside0.mk (carry hb HY2.out); clear k0 k1 k2 k3; obtain ⟨k0, k1, k2, k3⟩ := fourC HY3.out; clear hb)
              | (go_at_call 11; refine (HUS.out _ _ _ _ HQ3.out).mono ?_; rintro e W4 ⟨U, rfl, hU, hb⟩; have HQ4 := Aside0.mk (HQ3.out.step hb); clear hb))
            go_roundw
            case rel => exact ⟨i + 1, by omega, by go_num, ⟨d', N', T', HQ4.out⟩⟩
            case measure => simp [intOf] <;> omega
          | false =>
            by_cases hfull : (b.length : Int) > max quota 0 - (usedL d u : Int)
            · have HDL := Aside0.mk (fun (X : World) (hX : Below wr.heap.size wr X) => show Calls Tryz.prog 10 #[.pointer (some ⟨f, 0, none⟩), .string (S u), .int .i64 n, .slice A b.length c, .int .i64 quota] X (fun e W' => e = .returned (.tuple #[.bool false, .int .i64 0]) ∧ ∃ d' N' T', QD X0 f quota (i + 1) d' N' T' W' ∧ Turn T X T' W' ∧ (readB d' u n).2 = false) from
                (deliverFull (HQW.out.fs.step hX) (by omega) (HG.out.below HB1.out) HQW.out.box.on.1 HQW.out.box.short u (by omega) n hg hwas A b.length c (by omega) quota (by omega) hfull).mono fun e W' ⟨he, hb⟩ => ⟨he, d, N, T, (HQW.out.step (chain' hX hb)).next, Turn.of_below hb, hwas⟩)
              clear hwas hfull hg hcell hx hGw hQ hrb hN hu hb hl40 hn64
              go_wp2_with (first
                | (go_at_call 9; clear HF; (try rw [hY]); refine (HR1.out Y HBY.out).mono ?_; rintro e W1 ⟨v1, rfl, hb⟩; have HB1 := Aside0.mk (chain' HBY.out hb); have HY1 := Aside0.mk (carry hb HY.out); clear k0 k1 k2 k3; obtain ⟨k0, k1, k2, k3⟩ := fourC HY1.out; clear hb)
                | (go_at_call 10; refine (HDL.out _ HB1.out).mono ?_; rintro e W2 ⟨rfl, d', N', T', hQ, hT, his⟩; have HQ2 := Aside0.mk hQ; have HI2 := Aside0.mk his; have HY2 := Aside0.mk ((hT.2.2.1 _ (Array.getElem?_eq_some_iff.1 HY1.out).1 HNT.out).trans HY1.out); clear k0 k1 k2 k3; obtain ⟨k0, k1, k2, k3⟩ := fourC HY2.out; clear hQ hT his)
                | (go_at_call 9; refine (HR2.out _ _ _ _ _ HQ2.out HI2.out).mono ?_; rintro e W3 ⟨v3, rfl, hb⟩; have HQ3 := Aside0.mk (HQ2.out.step hb); have HY3 := Aside0.mk (carry hb HY2.out); clear k0 k1 k2 k3; obtain ⟨k0, k1, k2, k3⟩ := fourC HY3.out; clear hb)
                | (go_at_call 11; refine (HUS.out _ _ _ _ HQ3.out).mono ?_; rintro e W4 ⟨U, rfl, hU, hb⟩; have HQ4 := Aside0.mk (HQ3.out.step hb); clear hb))
              go_roundw
              case rel => exact ⟨i + 1, by omega, by go_num, ⟨d', N', T', HQ4.out⟩⟩
              case measure => simp [intOf] <;> omega
            · have HDL := Aside0.mk (fun (X : World) (hX : Below wr.heap.size wr X) => show Calls Tryz.prog 10 #[.pointer (some ⟨f, 0, none⟩), .string (S u), .int .i64 n, .slice A b.length c, .int .i64 quota] X (fun e W' => e = .returned (.tuple #[.bool true, .int .i64 0]) ∧ ∃ d' N' T', QD X0 f quota (i + 1) d' N' T' W' ∧ Turn T X T' W' ∧ (readB d' u n).2 = true) from by
                have hq := HQW.out
                obtain ⟨hbx, k, hnk, hk1, hk2⟩ := good_parts hg
                have hfree : get d.now (fileN u 43 k) = none := by
                  rw [hnk, readB_good hq.box hbx hk1 hk2] at hwas
                  cases hgt : get d.now (fileN u 43 k) with
                  | none => rfl
                  | some y => rw [hgt] at hwas; cases hwas
                have hroom : Room d u k b := ⟨hbx, hk1, hk2, hfree, by have := hq.files; omega, by rw [hq.room]; have := hq.bytes; omega⟩
                refine (deliverNew (hq.fs.step hX) (by omega) (HG.out.below HB1.out) hq.box.on.1 hq.box.short u (by omega) n hg hwas b (by omega) A b.length c rfl (HRW.out.below hX) HNI.out (fun k' hk' => ?_) quota (by omega) hfull).mono ?_
                · obtain rfl : k' = k := by omega
                  exact lay_ok hq.box hroom
                · rintro e W' ⟨rfl, y, hy, T', hF, hT⟩
                  have e5 := (lay_steps hq.box hroom hy).2.2.2.2.2
                  rw [show n.toNat = k by omega, e5] at hF
                  obtain ⟨l1, l2⟩ := laid_box hq.box hroom hy
                  have hnx : ∀ p ∈ d.now, p.2 ≠ y := fun p hp e => hy (e ▸ has_now hp)
                  refine ⟨rfl, laidD d y u k b, _, T', ⟨hF, l1, hq.room, ?_, by rw [l2.length_eq]; have := hq.files; simp; omega, fun v => ?_, by have := hq.small; omega⟩, hT, ?_⟩
                  · rw [used_perm l2]
                    show (setAt d.bytes y b y).length + used (setAt d.bytes y b) d.now ≤ _
                    rw [setAt_same, used_setAt hnx]
                    have := hq.bytes
                    omega
                  · rw [laid_held hq.box hroom hy v]
                    by_cases hvu : v = u
                    · subst hvu
                      rw [if_pos rfl]
                      omega
                    · rw [if_neg hvu]
                      exact hq.quota v
                  · rw [hnk, laid_read hq.box hroom hy])
              clear hwas hfull hg hcell hx hGw hQ hrb hN hu hb hl40 hn64
              go_wp2_with (first
                | (go_at_call 9; clear HF; (try rw [hY]); refine (HR1.out Y HBY.out).mono ?_; rintro e W1 ⟨v1, rfl, hb⟩; have HB1 := Aside0.mk (chain' HBY.out hb); have HY1 := Aside0.mk (carry hb HY.out); clear k0 k1 k2 k3; obtain ⟨k0, k1, k2, k3⟩ := fourC HY1.out; clear hb)
                | (go_at_call 10; refine (HDL.out _ HB1.out).mono ?_; rintro e W2 ⟨rfl, d', N', T', hQ, hT, his⟩; have HQ2 := Aside0.mk hQ; have HI2 := Aside0.mk his; have HY2 := Aside0.mk ((hT.2.2.1 _ (Array.getElem?_eq_some_iff.1 HY1.out).1 HNT.out).trans HY1.out); clear k0 k1 k2 k3; obtain ⟨k0, k1, k2, k3⟩ := fourC HY2.out; clear hQ hT his)
                | (go_at_call 9; refine (HR2.out _ _ _ _ _ HQ2.out HI2.out).mono ?_; rintro e W3 ⟨v3, rfl, hb⟩; have HQ3 := Aside0.mk (HQ2.out.step hb); have HY3 := Aside0.mk (carry hb HY2.out); clear k0 k1 k2 k3; obtain ⟨k0, k1, k2, k3⟩ := fourC HY3.out; clear hb)
                | (go_at_call 11; refine (HUS.out _ _ _ _ HQ3.out).mono ?_; rintro e W4 ⟨U, rfl, hU, hb⟩; have HQ4 := Aside0.mk (HQ3.out.step hb); clear hb))
              go_roundw
              case rel => exact ⟨i + 1, by omega, by go_num, ⟨d', N', T', HQ4.out⟩⟩
              case measure => simp [intOf] <;> omega
      · obtain rfl : i = l.length := by omega
        clear hQ
        go_wp2_with (go_at_call 7; refine (HAN.out _ HBW.out).mono ?_; rintro e W9 ⟨rfl, hb⟩; have HB9 := Aside0.mk (chain' HBW.out hb); clear hb)
        all_goals go_ret
        all_goals exact ⟨rfl, HB9.out⟩
end Go.Proofs.YtilgfpljjjbgdaaGreatDoor.Fs
