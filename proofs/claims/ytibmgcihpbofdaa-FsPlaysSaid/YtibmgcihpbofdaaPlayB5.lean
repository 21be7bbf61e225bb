/- law04: alike: both disks are found alike. Printed by genplayalike.py. law04: alike: both disks are found alike. Printed by genplayalike.py. law04: alike: both disks are found alike. Printed by genplayalike.py. -/
import Derived.Test.YtibmgcihpbofdaaPlayB2
import Derived.Test.YtibmgcihpbofdaaFsB4
namespace Go.Proofs.Ytibmgcihpbofdaa.Fs
open Go.RowKit Go.Proofs.Ytibmgcihpbofdaa Go.Proofs.Ytibmgcihpbofdaa.Plain Go.Proofs.YtibmgcihpbofdaaW.PrintWords Go.Maps
set_option linter.unusedVariables false
set_option linter.unusedSimpArgs false
theorem infoStr2 : (Try.prog.info? 9).map (fun i => (i.zero, i.size, i.bytes)) = some (some (.string ByteArray.empty), 1, 16) := by kernel_rfl
def strsOf (l : List Nm) : List Value := l.map fun n => .string (S n)
/-- a list of names that the call owns -/
structure NRow (w0 : World) (v : Value) (l : List Nm) (W : World) : Prop where
  row : W.ownsRow w0.heap.size 9 1 v l.length (strsOf l)
  below : Below w0.heap.size w0 W
theorem NRow.nil {w0 W : World} (hb : Below w0.heap.size w0 W) : NRow w0 (.slice none 0 0) [] W := ⟨World.ownsRow_nil _ _ _ _, hb⟩
theorem NRow.step {w0 W X : World} {v : Value} {l : List Nm} (h : NRow w0 v l W) (hb : Below W.heap.size W X) : NRow w0 v l X :=
  ⟨own_move h.row (fun k hk => hb.block k (h.row.lt k hk).2), h.below.trans (hb.mono h.below.size)⟩
theorem NRow.slice {w0 W : World} {v : Value} {l : List Nm} (h : NRow w0 v l W) : ∃ A c, v = .slice A l.length c := own_slice h.row
theorem appendN {w0 X : World} {v : Value} {l : List Nm} (h : NRow w0 v l X) (s : Nm) (hn : l.length ≤ 8796093022207) {ops : Array Oper} {rest : List Oper} {o : Oper} {a : Act} {Q : Exit → Act → World → Prop} (hgd : o.guard = none) (x y : Operand)
    (ho : o.op = .call { callee := .builtin .append, args := #[x, y], argTypes := #[43, 43] }) (hx : a.eval x = v) (ad : Addr) (c : Nat) (hy : a.eval y = .slice (some ad) 1 c)
    (hc : ∀ j u, [Value.string (S s)][j]? = some u → X.cell? (ad.add j) = some u)
    (hK : ∀ v1 w1, NRow w0 v1 (l ++ [s]) w1 → wpList Try.prog ops Q rest (a.put o.dst v1) w1) : wpList Try.prog ops Q (o :: rest) a X := by
  obtain ⟨i0, hi, hzz⟩ := Option.map_eq_some_iff.1 infoStr2
  simp only [Prod.mk.injEq] at hzz
  obtain ⟨hz0, hz1, hz2⟩ := hzz
  refine wpList_append_own_at (P := Try.prog) _ hgd x y 43 ho w0.heap.size 9 i0 (.string ByteArray.empty) 1 16 Try.underlying43 hi hz0 hz1 hz2 rfl (by decide) v l.length (strsOf l) hx h.row ad 1 c [.string (S s)] hy rfl hc (by intro u hu; simp only [List.mem_singleton] at hu; subst hu; rfl) (by simp only [maxLen]; omega) (by omega) h.below.size ?_
  intro v1 w1 h1 h2 _ _
  refine hK v1 w1 ⟨?_, h.below.grown h2 h.below.size (fun k hk => (World.ownsRow.lt h.row k hk).1)⟩
  rw [List.length_append, show strsOf (l ++ [s]) = strsOf l ++ [.string (S s)] by simp [strsOf]]
  exact h1
theorem right80 {n : Nm} (h : rightB n = true) : n.length ≤ 80 := by
  unfold rightB at h
  simp only [Bool.and_eq_true, decide_eq_true_eq] at h
  exact h.2.2
theorem fileCells2 {w0 W : World} {r g cf : Nat} {p : RDisk} {R : Nat → Prop} {vs vl : Value} {fl : List RFile} (h : RCore w0 W r p R vs vl (.slice (some ⟨g, 0, none⟩) fl.length cf) fl) {i : Nat} (hi : i < fl.length) :
    W.cell? ⟨g, i * 2, none⟩ = some fl[i].1 ∧ W.cell? ⟨g, i * 2 + 1, none⟩ = some (.int .i64 (fl[i].2.2 : Int)) := by
  obtain ⟨g', c', e, _, _, h1, h2, _, _⟩ := h.file i hi
  injection e with e _ _
  injection e with e
  injection e with e _ _
  subst e
  exact ⟨h1, h2⟩
theorem bytesReads2 {X : World} {base n c : Nat} {A : Option Addr} {u : List UInt8} (h : BytesIs X base (.slice A n c) u) : ReadsInt X .u8 A (B u).length (B u) := by
  obtain ⟨A', c', e⟩ := own_slice h
  injection e with e1 e2 e3
  subst e1 e2 e3
  exact own_reads' h
theorem B_len02 : (B ([] : List UInt8)).length = 0 := by rw [B_length]; rfl
theorem namesLe {l : Dir} (h : ∀ p ∈ l, p.1.length ≤ 80) : ∀ x ∈ l.map (·.1), x.length ≤ 140737488351232 := fun x hx => by
  obtain ⟨p, hp, rfl⟩ := List.mem_map.1 hx
  have := h p hp
  omega
set_option maxHeartbeats 1000000 in
set_option maxRecDepth 100000 in
theorem listDown2 {w0 W : World} {f : Nat} {d : Disk} {N : Nat} {T : Nat → Prop} (h : FsAt w0 f d N T W) (hd : d.down = true) :
    Calls Try.prog 24 #[.pointer (some ⟨f, 0, none⟩)] W fun e W' => e = .returned (.slice none 0 0) ∧ W' = W := by
  obtain ⟨bn, bs, vl, fs, vb, c0⟩ := h
  obtain ⟨_, _, _, _, _, hc⟩ := c0.cells
  rw [hd] at hc
  clear c0 hd
  go_enter Try.func24, Try.ntmps24
  go_wp2
  go_ret
  exact ⟨rfl, rfl⟩
set_option maxHeartbeats 4000000 in
set_option maxRecDepth 100000 in
theorem alikeOn {w0 W : World} {f r : Nat} {d : Disk} {rd : RDisk} {N : Nat} {T R : Nat → Prop} {blk : Nat → Nat} (hF : FsAt w0 f d N T W) (hR : RAt w0 r rd R W) (hS : Sim blk d rd) (hok : ROk rd N) (hN : N ≤ 900000) (hoff : rd.off = false) :
    Calls Try.prog 30 #[.pointer (some ⟨f, 0, none⟩), .pointer (some ⟨r, 0, none⟩)] W fun e W' => e = .returned (.bool true) ∧ Below W.heap.size W W' := by
  have HF := Aside0.mk hF
  have HR := Aside0.mk hR
  have HN := Aside0.mk hN
  have HOK := Aside0.mk hok
  have hdn : d.down = false := hS.down.trans hoff
  have HDN := Aside0.mk hdn
  have HUS := Aside0.mk hS.used
  have HLO := Aside0.mk (show d.loose.length = rd.loose.length by rw [hS.loose, List.length_map])
  have HNM := Aside0.mk hS.names
  have HNL := Aside0.mk (show d.now.length = rd.dir.length by rw [hS.now.1]; simp [onto])
  have HRT := Aside0.mk (fun p hp => right80 (hok.right p hp))
  have HTH := Aside0.mk hok.there
  have HRD := Aside0.mk (fun p (hp : p ∈ rd.dir) => hS.read hok hp (sorted_mem hok.sorted hp))
  have HBY := Aside0.mk (fun i => (bytes_le hok i).1)
  have hll : rd.dir.length ≤ 900000 := Nat.le_trans hok.dirLen hN
  have XD := dirIs hR hok (by omega)
  obtain ⟨vs, vl, vf, fl, c0⟩ := hR
  obtain ⟨-, ⟨Al, cl, rfl⟩, ⟨Af, cf, rfl⟩⟩ := c0.slices
  have HC := Aside0.mk c0
  have HCL := Aside0.mk (fun X (hX : Below W.heap.size W X) => (c0.step hX).cells)
  obtain ⟨l, hl⟩ : ∃ l, rd.dir = l := ⟨_, rfl⟩
  obtain ⟨L, hL⟩ : ∃ L, rd.loose.length = L := ⟨_, rfl⟩
  obtain ⟨U, hU⟩ : ∃ U, rd.used = U := ⟨_, rfl⟩
  have HOF := Aside0.mk hoff
  rw [hl] at XD hll HNM HNL HRT HTH HRD
  rw [hL] at HCL HLO
  rw [hoff] at HCL HRD
  rw [hU] at HUS
  have HU := Aside0.mk hU
  clear hF hS hok hN hoff hdn c0 hl hL hU
  go_enter Try.func30, Try.ntmps30
  go_wp2_with (go_at_call 46; refine XD.mono ?_; rintro e W1 ⟨v1, rfl, hD⟩; have HD := Aside0.mk hD; obtain ⟨A, c, rfl⟩ := hD.slice; clear hD XD)
  have HFx := Aside0.mk (HF.out.step HD.out.below)
  have HRx := Aside0.mk (HR.out.step HD.out.below)
  have HCx := Aside0.mk (HC.out.step HD.out.below)
  have HLx := Aside0.mk (fun X (hX : Below W1.heap.size W1 X) => HCL.out X (chain' HD.out.below hX))
  clear HF HR HC HCL
  have HF := HFx
  have HR := HRx
  have HC := HCx
  have HCL := HLx
  clear HFx HRx HCx HLx
  go_loopw [6, 7] (fun v6 v7 wr => ∃ i : Nat, i ≤ l.length ∧ v7 = .int .i64 i ∧ Aside0 (NRow W1 v6 ((l.take i).map (·.1)) wr)) (fun _ v7 _ => l.length - (intOf v7).toNat)
  case atStart => exact ⟨0, by omega, rfl, ⟨NRow.nil (Below.refl _ _)⟩⟩
  case round =>
    obtain ⟨i, hi, rfl, HV⟩ := hrel
    obtain ⟨-, s1, -, -, -, s5⟩ := HCL.out _ HV.out.below
    by_cases hlt : i < l.length
    · obtain ⟨g, rfl, -, k0, k1⟩ := (HD.out.at_.below HV.out.below) i hlt
      have HTK := Aside0.mk (show (l.take (i + 1)).map (·.1) = (l.take i).map (·.1) ++ [l[i].1] by rw [List.take_add_one, List.getElem?_eq_getElem hlt, Option.toList_some, List.map_append]; rfl)
      have HLE := Aside0.mk (show ((l.take i).map (·.1)).length ≤ 8796093022207 by rw [List.length_map, List.length_take]; omega)
      obtain ⟨nm, hnm⟩ : ∃ nm, l[i].1 = nm := ⟨_, rfl⟩
      rw [hnm] at k0
      simp only [hnm] at HTK
      clear hnm
      go_wp2_with (at_builtin; refine appendN (HV.out.step (below_alloc (Below.refl _ _) _)) nm HLE.out rfl _ _ rfl rfl _ 1 rfl (cell_one_new _ _ _) ?_; rintro v1 W4 h; have HV4 := Aside0.mk h; clear h)
      go_roundw
      case rel => exact ⟨i + 1, by omega, by go_num, ⟨by rw [HTK.out]; exact HV4.out⟩⟩
      case measure => simp [intOf]; omega
    · have HVN := Aside0.mk (show NRow W1 _ (l.map (·.1)) wr by have := HV.out; rw [List.take_of_length_le (by omega)] at this; exact this)
      obtain ⟨A6, c6, rfl⟩ := HVN.out.slice
      have HB2 := Aside0.mk HVN.out.below
      clear HV
      go_wp2
      refine wp_region_noPanic ?_
      refine wp_region_held_drew (S := (fun X => X.cell? ⟨r, 1, none⟩ = some (.slice Al L cl) ∧ X.cell? ⟨r, 5, none⟩ = some (.bool false))) (by kernel_rfl) ?_ (fun hHeld => ?_)
      · (try dsimp only); first | go_keep | exact ⟨s1, s5⟩ | assumption
      refine wpAnyH_take (i := 0) (v := ?_) rfl (by kernel_rfl) (by kernel_rfl) (by kernel_rfl) (fun _ _ _ h => h) (Or.inl ⟨by rfl, ?_⟩) (by assumption) ?_
      rotate_left
      · (intro w hSw; (try dsimp only at hSw); (go_simp <;> with_reducible rfl))
      try go_simp
      refine wpAnyH_take (i := 2) (v := ?_) rfl (by kernel_rfl) (by kernel_rfl) (by kernel_rfl) (fun _ _ _ h => h) (Or.inl ⟨by rfl, ?_⟩) (by assumption) ?_
      rotate_left
      · (intro w hSw; (try dsimp only at hSw); (go_simp <;> with_reducible rfl))
      try go_simp
      refine wpAnyH_ready (rs := [1]) (by kernel_rfl) (by simp) ?_
      refine AllReadyH.cons rfl (fun K hK => ?_) AllReadyH.nil
      go_simp
      go_at_call 24
      refine (list (HF.out.step (by repeat (first | exact HB2.out | apply below_drew1))) (by have := HN.out; omega) HDN.out).mono ?_
      rintro e W3 ⟨v3, rfl, hown, hb⟩
      rw [HNL.out, HNM.out] at hown
      have HNA := Aside0.mk hown
      have HB3 := Aside0.mk (chain' (by repeat (first | exact HB2.out | apply below_drew1)) hb)
      have HV3 := Aside0.mk (HVN.out.step (chain' (W := wr) (by repeat (first | exact Below.refl _ _ | apply below_drew1)) hb))
      obtain ⟨A3, c3, rfl⟩ := own_slice hown
      clear hown hb s1 s5
      obtain ⟨-, s1, -, -, -, s5⟩ := HCL.out _ HB3.out
      try go_simp
      refine hK.out _ _ ?_ (fun hHeld => ?_)
      · (try dsimp only); first | go_keep | exact ⟨s1, s5⟩ | assumption
      clear hK K
      try go_simp
      refine wpAnyH_ready (rs := [3]) (by kernel_rfl) (by simp) ?_
      refine AllReadyH.cons rfl (fun K hK => ?_) AllReadyH.nil
      go_simp
      go_at_call 26
      refine (texts (names_at HNA.out (namesLe HRT.out)).1 (names_at HV3.out.row (namesLe HRT.out)).1 (by rw [List.length_map]) (by rw [List.length_map]) (by omega) (by omega)).mono ?_
      rintro e W4 ⟨rfl, hb⟩
      rw [beq_self_eq_true]
      have HB4 := Aside0.mk (chain' HB3.out hb)
      clear hb s1 s5
      obtain ⟨-, s1, -, -, -, s5⟩ := HCL.out _ HB4.out
      try go_simp
      refine hK.out _ _ ?_ (fun hHeld => ?_)
      · (try dsimp only); first | go_keep | exact ⟨s1, s5⟩ | assumption
      clear hK K
      try go_simp
      refine wpAnyH_take (i := 4) (v := ?_) rfl (by kernel_rfl) (by kernel_rfl) (by kernel_rfl) (fun _ _ _ h => h) (Or.inl ⟨by rfl, ?_⟩) (by assumption) ?_
      rotate_left
      · (intro w hSw; (try dsimp only at hSw); (go_simp <;> with_reducible rfl))
      try go_simp
      refine wpAnyH_take (i := 5) (v := ?_) rfl (by kernel_rfl) (by kernel_rfl) (by kernel_rfl) (fun _ _ _ h => h) (Or.inl ⟨by rfl, ?_⟩) (by assumption) ?_
      rotate_left
      · (intro w hSw; (try dsimp only at hSw); (go_simp <;> with_reducible rfl))
      try go_simp
      refine wpAnyH_take (i := 6) (v := ?_) rfl (by kernel_rfl) (by kernel_rfl) (by kernel_rfl) (fun _ _ _ h => h) (Or.inl ⟨by rfl, ?_⟩) (by assumption) ?_
      rotate_left
      · (intro w hSw; (try dsimp only at hSw); (go_simp <;> with_reducible rfl))
      try go_simp
      refine wpAnyH_take (i := 8) (v := ?_) rfl (by kernel_rfl) (by kernel_rfl) (by kernel_rfl) (fun _ _ _ h => h) (Or.inl ⟨by rfl, ?_⟩) (by assumption) ?_
      rotate_left
      · (intro w hSw; (try dsimp only at hSw); (go_simp <;> with_reducible rfl))
      try go_simp
      refine wpAnyH_ready (rs := [7]) (by kernel_rfl) (by simp) ?_
      refine AllReadyH.cons rfl (fun K hK => ?_) AllReadyH.nil
      go_simp
      go_at_call 25
      refine (usedIs (HF.out.step HB4.out) (by have := HN.out; omega)).mono ?_
      rintro e W5 ⟨rfl, hb⟩
      rw [HUS.out]
      have HB5 := Aside0.mk (chain' HB4.out hb)
      clear hb s1 s5
      obtain ⟨-, s1, -, -, -, s5⟩ := HCL.out _ HB5.out
      try go_simp
      refine hK.out _ _ ?_ (fun hHeld => ?_)
      · (try dsimp only); first | go_keep | exact ⟨s1, s5⟩ | assumption
      clear hK K
      try go_simp
      refine wpAnyH_ready (rs := [9]) (by kernel_rfl) (by simp) ?_
      refine AllReadyH.cons rfl (fun K hK => ?_) AllReadyH.nil
      go_simp
      go_at_call 47
      refine (usedR (HR.out.step HB5.out) HOK.out (by have := HN.out; omega)).mono ?_
      rintro e W6 ⟨rfl, hb⟩
      rw [HU.out]
      have HB6 := Aside0.mk (chain' HB5.out hb)
      clear hb s1 s5
      obtain ⟨-, s1, -, -, -, s5⟩ := HCL.out _ HB6.out
      try go_simp
      refine hK.out _ _ ?_ (fun hHeld => ?_)
      · (try dsimp only); first | go_keep | exact ⟨s1, s5⟩ | assumption
      clear hK K
      try go_simp
      refine wpAnyH_take (i := 10) (v := ?_) rfl (by kernel_rfl) (by kernel_rfl) (by kernel_rfl) (fun _ _ _ h => h) (Or.inl ⟨by rfl, ?_⟩) (by assumption) ?_
      rotate_left
      · (intro w hSw; (try dsimp only at hSw); (go_simp <;> with_reducible rfl))
      try go_simp
      refine wpAnyH_take (i := 11) (v := ?_) rfl (by kernel_rfl) (by kernel_rfl) (by kernel_rfl) (fun _ _ _ h => h) (Or.inl ⟨by rfl, ?_⟩) (by assumption) ?_
      rotate_left
      · (intro w hSw; (try dsimp only at hSw); (go_simp <;> with_reducible rfl))
      try go_simp
      refine wpAnyH_take (i := 12) (v := ?_) rfl (by kernel_rfl) (by kernel_rfl) (by kernel_rfl) (fun _ _ _ h => h) (Or.inl ⟨by rfl, ?_⟩) (by assumption) ?_
      rotate_left
      · (intro w hSw; (try dsimp only at hSw); (go_simp <;> with_reducible rfl))
      try go_simp
      refine wpAnyH_take (i := 13) (v := ?_) rfl (by kernel_rfl) (by kernel_rfl) (by kernel_rfl) (fun _ _ _ h => h) (Or.inl ⟨by rfl, ?_⟩) (by assumption) ?_
      rotate_left
      · (intro w hSw; (try dsimp only at hSw); (go_simp <;> with_reducible rfl))
      try go_simp
      refine wpAnyH_take (i := 15) (v := ?_) rfl (by kernel_rfl) (by kernel_rfl) (by kernel_rfl) (fun _ _ _ h => h) (Or.inl ⟨by rfl, ?_⟩) (by assumption) ?_
      rotate_left
      · (intro w hSw; (try dsimp only at hSw); (go_simp <;> with_reducible rfl))
      try go_simp
      refine wpAnyH_take (i := 16) (v := ?_) rfl (by kernel_rfl) (by kernel_rfl) (by kernel_rfl) (fun _ _ _ h => h) (Or.inl ⟨by rfl, ?_⟩) (by assumption) ?_
      rotate_left
      · (intro w hSw; (try dsimp only at hSw); (go_simp <;> with_reducible rfl))
      try go_simp
      refine wpAnyH_take (i := 17) (v := ?_) rfl (by kernel_rfl) (by kernel_rfl) (by kernel_rfl) (fun _ _ _ h => h) (Or.inl ⟨by rfl, ?_⟩) (by assumption) ?_
      rotate_left
      · (intro w hSw; (try dsimp only at hSw); (go_simp <;> with_reducible rfl))
      try go_simp
      refine wpAnyH_take (i := 18) (v := ?_) rfl (by kernel_rfl) (by kernel_rfl) (by kernel_rfl) (fun _ _ _ h => h) (Or.inl ⟨by rfl, ?_⟩) (by assumption) ?_
      rotate_left
      · (intro w hSw; (try dsimp only at hSw); (go_simp <;> with_reducible rfl))
      try go_simp
      refine wpAnyH_take (i := 19) (v := ?_) rfl (by kernel_rfl) (by kernel_rfl) (by kernel_rfl) (fun _ _ _ h => h) (Or.inl ⟨by rfl, ?_⟩) (by assumption) ?_
      rotate_left
      · (intro w hSw; (try dsimp only at hSw); (go_simp <;> with_reducible rfl))
      try go_simp
      refine wpAnyH_ready (rs := [14]) (by kernel_rfl) (by simp) ?_
      refine AllReadyH.cons rfl (fun K hK => ?_) AllReadyH.nil
      go_simp
      go_at_call 32
      refine (loose (HF.out.step HB6.out)).mono ?_
      rintro e W7 ⟨rfl, rfl⟩
      rw [HLO.out]
      try go_simp
      refine hK.out _ _ ?_ (fun hHeld => ?_)
      · (try dsimp only); first | go_keep | exact ⟨s1, s5⟩ | assumption
      clear hK K
      try go_simp
      refine wpAnyH_take (i := 20) (v := ?_) rfl (by kernel_rfl) (by kernel_rfl) (by kernel_rfl) (fun _ _ _ h => h) (Or.inl ⟨by rfl, ?_⟩) (by assumption) ?_
      rotate_left
      · (intro w hSw; (try dsimp only at hSw); (go_simp <;> with_reducible rfl))
      try go_simp
      refine wpAnyH_take (i := 21) (v := ?_) rfl (by kernel_rfl) (by kernel_rfl) (by kernel_rfl) (fun _ _ _ h => h) (Or.inl ⟨by rfl, ?_⟩) (by assumption) ?_
      rotate_left
      · (intro w hSw; (try dsimp only at hSw); (go_simp <;> with_reducible rfl))
      try go_simp
      refine wpAnyH_take (i := 22) (v := ?_) rfl (by kernel_rfl) (by kernel_rfl) (by kernel_rfl) (fun _ _ _ h => h) (Or.inl ⟨by rfl, ?_⟩) (by assumption) ?_
      rotate_left
      · (intro w hSw; (try dsimp only at hSw); (go_simp <;> with_reducible rfl))
      try go_simp
      refine wpAnyH_take (i := 23) (v := ?_) rfl (by kernel_rfl) (by kernel_rfl) (by kernel_rfl) (fun _ _ _ h => h) (Or.inl ⟨by rfl, ?_⟩) (by assumption) ?_
      rotate_left
      · (intro w hSw; (try dsimp only at hSw); (go_simp <;> with_reducible rfl))
      try go_simp
      refine wpAnyH_take (i := 25) (v := ?_) rfl (by kernel_rfl) (by kernel_rfl) (by kernel_rfl) (fun _ _ _ h => h) (Or.inl ⟨by rfl, ?_⟩) (by assumption) ?_
      rotate_left
      · (intro w hSw; (try dsimp only at hSw); (go_simp <;> with_reducible rfl))
      try go_simp
      refine wpAnyH_take (i := 26) (v := ?_) rfl (by kernel_rfl) (by kernel_rfl) (by kernel_rfl) (fun _ _ _ h => h) (Or.inl ⟨by rfl, ?_⟩) (by assumption) ?_
      rotate_left
      · (intro w hSw; (try dsimp only at hSw); (go_simp <;> with_reducible rfl))
      try go_simp
      refine wpAnyH_take (i := 27) (v := ?_) rfl (by kernel_rfl) (by kernel_rfl) (by kernel_rfl) (fun _ _ _ h => h) (Or.inl ⟨by rfl, ?_⟩) (by assumption) ?_
      rotate_left
      · (intro w hSw; (try dsimp only at hSw); (go_simp <;> with_reducible rfl))
      try go_simp
      refine wpAnyH_take (i := 28) (v := ?_) rfl (by kernel_rfl) (by kernel_rfl) (by kernel_rfl) (fun _ _ _ h => h) (Or.inl ⟨by rfl, ?_⟩) (by assumption) ?_
      rotate_left
      · (intro w hSw; (try dsimp only at hSw); (go_simp <;> with_reducible rfl))
      try go_simp
      refine wpAnyH_ready (rs := [24]) (by kernel_rfl) (by simp) ?_
      refine AllReadyH.cons rfl (fun K hK => ?_) AllReadyH.nil
      go_simp
      go_at_call 23
      refine (down (HF.out.step HB6.out)).mono ?_
      rintro e W8 ⟨rfl, rfl⟩
      rw [HDN.out]
      try go_simp
      refine hK.out _ _ ?_ (fun hHeld => ?_)
      · (try dsimp only); first | go_keep | exact ⟨s1, s5⟩ | assumption
      clear hK K
      try go_simp
      refine wpAnyH_take (i := 29) (v := ?_) rfl (by kernel_rfl) (by kernel_rfl) (by kernel_rfl) (fun _ _ _ h => h) (Or.inl ⟨by rfl, ?_⟩) (by assumption) ?_
      rotate_left
      · (intro w hSw; (try dsimp only at hSw); (go_simp <;> with_reducible rfl))
      try go_simp
      refine wpAnyH_take (i := 30) (v := ?_) rfl (by kernel_rfl) (by kernel_rfl) (by kernel_rfl) (fun _ _ _ h => h) (Or.inl ⟨by rfl, ?_⟩) (by assumption) ?_
      rotate_left
      · (intro w hSw; (try dsimp only at hSw); (go_simp <;> with_reducible rfl))
      try go_simp
      refine wpAnyH_done (by kernel_rfl) ?_ _
      refine NoPanic.normal ?_
      go_wp2
      clear s1 s5 HV3 HNA
      go_loopw [8, 9, 10] (fun v8 v9 v10 wr => ∃ i : Nat, i ≤ l.length ∧ v8 = .int .i64 i ∧ Aside0 (Below W1.heap.size W1 wr)) (fun v8 _ _ _ => l.length - (intOf v8).toNat)
      case atStart => exact ⟨0, by omega, rfl, HB6⟩
      case round =>
        obtain ⟨i, hi, rfl, HBW⟩ := hrel
        by_cases hlt : i < l.length
        · obtain ⟨g, rfl, -, k0, k1⟩ := (HD.out.at_.below HBW.out) i hlt
          have HXB := Aside0.mk (fun (X : World) (hX : Below wr.heap.size wr X) => (HD.out.at_.below (chain' HBW.out hX)) i hlt)
          have HRi := Aside0.mk (HRD.out _ (List.getElem_mem hlt))
          have hTi := HTH.out _ (List.getElem_mem hlt)
          have hn80 := HRT.out _ (List.getElem_mem hlt)
          obtain ⟨p, hp⟩ : ∃ p, l[i] = p := ⟨_, rfl⟩
          simp only [hp] at k0 k1 HRi hTi hn80 HXB
          obtain ⟨pn, pf⟩ := p
          clear hp
          have hif : pf < fl.length := by rw [← HC.out.len]; exact hTi
          obtain ⟨gf, cf', efl, -, -, -⟩ := HC.out.file pf hif
          injection efl with efl _ e3
          subst efl
          subst e3
          have HFX := Aside0.mk (fun (X : World) (hX : Below W1.heap.size W1 X) => fileCells2 (HC.out.step hX) hif)
          have hby := (HC.out.bytes pf hif).1
          have HEB := Aside0.mk (HC.out.each _ (List.getElem_mem hif))
          obtain ⟨q, hq⟩ : ∃ q, fl[pf] = q := ⟨_, rfl⟩
          rw [hq] at hby HEB
          simp only [hq] at HFX
          obtain ⟨bv, ub, sf⟩ := q
          clear hq
          have hbb : ∃ A c, bv = .slice A (B ub).length c := own_slice HEB.out
          obtain ⟨Ab, cb, rfl⟩ := hbb
          have HRE := Aside0.mk (fun X (hX : Below W1.heap.size W1 X) => bytesReads2 (BytesIs.below HEB.out hX))
          obtain ⟨m0, hm0⟩ : ∃ m0, (B ub).length = m0 := ⟨_, rfl⟩
          simp only [hm0] at HFX
          have HM0 := Aside0.mk (show m0 = ub.length by rw [← hm0, B_length])
          have HRI := Aside0.mk (show d.read pn = (ub, 0) by rw [HRi.out, if_neg (by simp), hby])
          have HHM := Aside0.mk hm0
          clear hby hm0 HRi hTi
          go_wp2_with (go_at_call 16; refine (read (HF.out.step HBW.out) (by have := HN.out; omega) pn (by omega)).mono ?_; rintro e W9 ⟨v9, rfl, hown, hb⟩; rw [HRI.out] at hown ⊢; obtain ⟨A9, c9, rfl⟩ := own_slice hown; have HB9 := Aside0.mk (chain' HBW.out hb); obtain ⟨-, -, s2, -, -, s5⟩ := HCL.out _ HB9.out; obtain ⟨k2, -⟩ := HFX.out _ HB9.out; obtain ⟨g9, e9, -, k3, k4⟩ := HXB.out _ hb; injection e9 with e9; injection e9 with e9 _ _; subst e9; have hcv1 : ∀ q, (convert 22 9 (.slice A9 m0 c9)).run Try.prog (W9.drewN q) = .ok (.string (S ub)) (W9.drewN q) := (fun q => convAny (c := c9) (ReadsInt.below (own_reads' hown) (pw_below_drewN (Below.refl _ _) q)) HM0.out); have hcv2 : ∀ q, (convert 22 9 (.slice Ab m0 cb)).run Try.prog (W9.drewN q) = .ok (.string (S ub)) (W9.drewN q) := (fun q => convAny (c := cb) (HRE.out _ (pw_below_drewN HB9.out q)) HM0.out); rw [HHM.out]; clear hown hb)
          go_quiet (fail)
          go_wp2
          go_roundw
          case rel => exact ⟨i + 1, by omega, by go_num, ⟨pw_below_drewN HB9.out _⟩⟩
          case measure => simp [intOf]; omega
        · go_wp2
          go_ret
          exact ⟨rfl, chain' HD.out.below HBW.out⟩
      -- END
end Go.Proofs.Ytibmgcihpbofdaa.Fs
namespace Go.Proofs.Ytibmgcihpbofdaa.Fs
open Go.RowKit Go.Proofs.Ytibmgcihpbofdaa Go.Proofs.Ytibmgcihpbofdaa.Plain Go.Proofs.YtibmgcihpbofdaaW.PrintWords Go.Maps
set_option linter.unusedVariables false
set_option linter.unusedSimpArgs false
set_option maxHeartbeats 4000000 in
set_option maxRecDepth 100000 in
theorem alikeOff0 {w0 W : World} {f r : Nat} {d : Disk} {rd : RDisk} {N : Nat} {T R : Nat → Prop} {blk : Nat → Nat} (hF : FsAt w0 f d N T W) (hR : RAt w0 r rd R W) (hS : Sim blk d rd) (hok : ROk rd N) (hN : N ≤ 900000) (hoff : rd.off = true) (hlen : rd.dir.length = 0) :
    Calls Try.prog 30 #[.pointer (some ⟨f, 0, none⟩), .pointer (some ⟨r, 0, none⟩)] W fun e W' => e = .returned (.bool true) ∧ Below W.heap.size W W' := by
  have HF := Aside0.mk hF
  have HR := Aside0.mk hR
  have HN := Aside0.mk hN
  have HOK := Aside0.mk hok
  have hdn : d.down = true := hS.down.trans hoff
  have HDN := Aside0.mk hdn
  have HUS := Aside0.mk hS.used
  have HLO := Aside0.mk (show d.loose.length = rd.loose.length by rw [hS.loose, List.length_map])
  have HNM := Aside0.mk hS.names
  have HNL := Aside0.mk (show d.now.length = rd.dir.length by rw [hS.now.1]; simp [onto])
  have HRT := Aside0.mk (fun p hp => right80 (hok.right p hp))
  have HTH := Aside0.mk hok.there
  have HRD := Aside0.mk (fun p (hp : p ∈ rd.dir) => hS.read hok hp (sorted_mem hok.sorted hp))
  have HBY := Aside0.mk (fun i => (bytes_le hok i).1)
  have hll : rd.dir.length ≤ 900000 := Nat.le_trans hok.dirLen hN
  have XD := dirIs hR hok (by omega)
  obtain ⟨vs, vl, vf, fl, c0⟩ := hR
  obtain ⟨-, ⟨Al, cl, rfl⟩, ⟨Af, cf, rfl⟩⟩ := c0.slices
  have HC := Aside0.mk c0
  have HCL := Aside0.mk (fun X (hX : Below W.heap.size W X) => (c0.step hX).cells)
  obtain ⟨l, hl⟩ : ∃ l, rd.dir = l := ⟨_, rfl⟩
  obtain ⟨L, hL⟩ : ∃ L, rd.loose.length = L := ⟨_, rfl⟩
  obtain ⟨U, hU⟩ : ∃ U, rd.used = U := ⟨_, rfl⟩
  have HOF := Aside0.mk hoff
  rw [hl] at XD hll HNM HNL HRT HTH HRD hlen
  rw [hL] at HCL HLO
  rw [hoff] at HCL HRD
  rw [hU] at HUS
  have HU := Aside0.mk hU
  clear hF hS hok hN hoff hdn c0 hl hL hU
  go_enter Try.func30, Try.ntmps30
  go_wp2_with (go_at_call 46; refine XD.mono ?_; rintro e W1 ⟨v1, rfl, hD⟩; have HD := Aside0.mk hD; obtain ⟨A, c, rfl⟩ := hD.slice; clear hD XD)
  have HFx := Aside0.mk (HF.out.step HD.out.below)
  have HRx := Aside0.mk (HR.out.step HD.out.below)
  have HCx := Aside0.mk (HC.out.step HD.out.below)
  have HLx := Aside0.mk (fun X (hX : Below W1.heap.size W1 X) => HCL.out X (chain' HD.out.below hX))
  clear HF HR HC HCL
  have HF := HFx
  have HR := HRx
  have HC := HCx
  have HCL := HLx
  clear HFx HRx HCx HLx
  go_loopw [6, 7] (fun v6 v7 wr => v6 = .slice none 0 0 ∧ v7 = .int .i64 0 ∧ Aside0 (wr = W1)) (fun _ _ _ => 0)
  case atStart => exact ⟨rfl, rfl, ⟨rfl⟩⟩
  case round =>
    obtain ⟨rfl, rfl, HW⟩ := hrel
    have hw := HW.out.symm
    subst hw
    have HB2 := Aside0.mk (Below.refl W1.heap.size W1)
    obtain ⟨-, s1, -, -, -, s5⟩ := HCL.out _ HB2.out
    have hle : ((l.length : Int)) = 0 := by omega
    go_wp2
    refine wp_region_noPanic ?_
    refine wp_region_held_drew (S := (fun X => X.cell? ⟨r, 1, none⟩ = some (.slice Al L cl) ∧ X.cell? ⟨r, 5, none⟩ = some (.bool true))) (by kernel_rfl) ?_ (fun hHeld => ?_)
    · (try dsimp only); first | go_keep | exact ⟨s1, s5⟩ | assumption
    refine wpAnyH_take (i := 0) (v := ?_) rfl (by kernel_rfl) (by kernel_rfl) (by kernel_rfl) (fun _ _ _ h => h) (Or.inl ⟨by rfl, ?_⟩) (by assumption) ?_
    rotate_left
    · (intro w hSw; (try dsimp only at hSw); (go_simp <;> with_reducible rfl))
    try go_simp
    refine wpAnyH_take (i := 2) (v := ?_) rfl (by kernel_rfl) (by kernel_rfl) (by kernel_rfl) (fun _ _ _ h => h) (Or.inl ⟨by rfl, ?_⟩) (by assumption) ?_
    rotate_left
    · (intro w hSw; (try dsimp only at hSw); (go_simp <;> with_reducible rfl))
    try go_simp
    refine wpAnyH_ready (rs := [1]) (by kernel_rfl) (by simp) ?_
    refine AllReadyH.cons rfl (fun K hK => ?_) AllReadyH.nil
    go_simp
    go_at_call 24
    refine (listDown2 (HF.out.step (by repeat (first | exact HB2.out | apply below_drew1))) HDN.out).mono ?_
    rintro e W3 ⟨rfl, rfl⟩
    try go_simp
    refine hK.out _ _ ?_ (fun hHeld => ?_)
    · (try dsimp only); first | go_keep | exact ⟨s1, s5⟩ | assumption
    clear hK K
    try go_simp
    refine wpAnyH_ready (rs := [3]) (by kernel_rfl) (by simp) ?_
    refine AllReadyH.cons rfl (fun K hK => ?_) AllReadyH.nil
    go_simp
    go_at_call 26
    refine (texts (l := []) (r := []) (fun j hj => absurd hj (Nat.not_lt_zero j)) (fun j hj => absurd hj (Nat.not_lt_zero j)) rfl rfl (Nat.zero_le _) (Nat.zero_le _)).mono ?_
    rintro e W4 ⟨rfl, hb⟩
    rw [beq_self_eq_true]
    have HB4 := Aside0.mk (chain' (W := W1) (by repeat (first | exact HB2.out | apply below_drew1)) hb)
    clear hb s1 s5
    obtain ⟨-, s1, -, -, -, s5⟩ := HCL.out _ HB4.out
    try go_simp
    refine hK.out _ _ ?_ (fun hHeld => ?_)
    · (try dsimp only); first | go_keep | exact ⟨s1, s5⟩ | assumption
    clear hK K
    try go_simp
    refine wpAnyH_take (i := 4) (v := ?_) rfl (by kernel_rfl) (by kernel_rfl) (by kernel_rfl) (fun _ _ _ h => h) (Or.inl ⟨by rfl, ?_⟩) (by assumption) ?_
    rotate_left
    · (intro w hSw; (try dsimp only at hSw); (go_simp <;> with_reducible rfl))
    try go_simp
    refine wpAnyH_take (i := 5) (v := ?_) rfl (by kernel_rfl) (by kernel_rfl) (by kernel_rfl) (fun _ _ _ h => h) (Or.inl ⟨by rfl, ?_⟩) (by assumption) ?_
    rotate_left
    · (intro w hSw; (try dsimp only at hSw); (go_simp <;> with_reducible rfl))
    try go_simp
    refine wpAnyH_take (i := 6) (v := ?_) rfl (by kernel_rfl) (by kernel_rfl) (by kernel_rfl) (fun _ _ _ h => h) (Or.inl ⟨by rfl, ?_⟩) (by assumption) ?_
    rotate_left
    · (intro w hSw; (try dsimp only at hSw); (go_simp <;> with_reducible rfl))
    try go_simp
    refine wpAnyH_take (i := 8) (v := ?_) rfl (by kernel_rfl) (by kernel_rfl) (by kernel_rfl) (fun _ _ _ h => h) (Or.inl ⟨by rfl, ?_⟩) (by assumption) ?_
    rotate_left
    · (intro w hSw; (try dsimp only at hSw); (go_simp <;> with_reducible rfl))
    try go_simp
    refine wpAnyH_ready (rs := [7]) (by kernel_rfl) (by simp) ?_
    refine AllReadyH.cons rfl (fun K hK => ?_) AllReadyH.nil
    go_simp
    go_at_call 25
    refine (usedIs (HF.out.step HB4.out) (by have := HN.out; omega)).mono ?_
    rintro e W5 ⟨rfl, hb⟩
    rw [HUS.out]
    have HB5 := Aside0.mk (chain' HB4.out hb)
    clear hb s1 s5
    obtain ⟨-, s1, -, -, -, s5⟩ := HCL.out _ HB5.out
    try go_simp
    refine hK.out _ _ ?_ (fun hHeld => ?_)
    · (try dsimp only); first | go_keep | exact ⟨s1, s5⟩ | assumption
    clear hK K
    try go_simp
    refine wpAnyH_ready (rs := [9]) (by kernel_rfl) (by simp) ?_
    refine AllReadyH.cons rfl (fun K hK => ?_) AllReadyH.nil
    go_simp
    go_at_call 47
    refine (usedR (HR.out.step HB5.out) HOK.out (by have := HN.out; omega)).mono ?_
    rintro e W6 ⟨rfl, hb⟩
    rw [HU.out]
    have HB6 := Aside0.mk (chain' HB5.out hb)
    clear hb s1 s5
    obtain ⟨-, s1, -, -, -, s5⟩ := HCL.out _ HB6.out
    try go_simp
    refine hK.out _ _ ?_ (fun hHeld => ?_)
    · (try dsimp only); first | go_keep | exact ⟨s1, s5⟩ | assumption
    clear hK K
    try go_simp
    refine wpAnyH_take (i := 10) (v := ?_) rfl (by kernel_rfl) (by kernel_rfl) (by kernel_rfl) (fun _ _ _ h => h) (Or.inl ⟨by rfl, ?_⟩) (by assumption) ?_
    rotate_left
    · (intro w hSw; (try dsimp only at hSw); (go_simp <;> with_reducible rfl))
    try go_simp
    refine wpAnyH_take (i := 11) (v := ?_) rfl (by kernel_rfl) (by kernel_rfl) (by kernel_rfl) (fun _ _ _ h => h) (Or.inl ⟨by rfl, ?_⟩) (by assumption) ?_
    rotate_left
    · (intro w hSw; (try dsimp only at hSw); (go_simp <;> with_reducible rfl))
    try go_simp
    refine wpAnyH_take (i := 12) (v := ?_) rfl (by kernel_rfl) (by kernel_rfl) (by kernel_rfl) (fun _ _ _ h => h) (Or.inl ⟨by rfl, ?_⟩) (by assumption) ?_
    rotate_left
    · (intro w hSw; (try dsimp only at hSw); (go_simp <;> with_reducible rfl))
    try go_simp
    refine wpAnyH_take (i := 13) (v := ?_) rfl (by kernel_rfl) (by kernel_rfl) (by kernel_rfl) (fun _ _ _ h => h) (Or.inl ⟨by rfl, ?_⟩) (by assumption) ?_
    rotate_left
    · (intro w hSw; (try dsimp only at hSw); (go_simp <;> with_reducible rfl))
    try go_simp
    refine wpAnyH_take (i := 15) (v := ?_) rfl (by kernel_rfl) (by kernel_rfl) (by kernel_rfl) (fun _ _ _ h => h) (Or.inl ⟨by rfl, ?_⟩) (by assumption) ?_
    rotate_left
    · (intro w hSw; (try dsimp only at hSw); (go_simp <;> with_reducible rfl))
    try go_simp
    refine wpAnyH_take (i := 16) (v := ?_) rfl (by kernel_rfl) (by kernel_rfl) (by kernel_rfl) (fun _ _ _ h => h) (Or.inl ⟨by rfl, ?_⟩) (by assumption) ?_
    rotate_left
    · (intro w hSw; (try dsimp only at hSw); (go_simp <;> with_reducible rfl))
    try go_simp
    refine wpAnyH_take (i := 17) (v := ?_) rfl (by kernel_rfl) (by kernel_rfl) (by kernel_rfl) (fun _ _ _ h => h) (Or.inl ⟨by rfl, ?_⟩) (by assumption) ?_
    rotate_left
    · (intro w hSw; (try dsimp only at hSw); (go_simp <;> with_reducible rfl))
    try go_simp
    refine wpAnyH_take (i := 18) (v := ?_) rfl (by kernel_rfl) (by kernel_rfl) (by kernel_rfl) (fun _ _ _ h => h) (Or.inl ⟨by rfl, ?_⟩) (by assumption) ?_
    rotate_left
    · (intro w hSw; (try dsimp only at hSw); (go_simp <;> with_reducible rfl))
    try go_simp
    refine wpAnyH_take (i := 19) (v := ?_) rfl (by kernel_rfl) (by kernel_rfl) (by kernel_rfl) (fun _ _ _ h => h) (Or.inl ⟨by rfl, ?_⟩) (by assumption) ?_
    rotate_left
    · (intro w hSw; (try dsimp only at hSw); (go_simp <;> with_reducible rfl))
    try go_simp
    refine wpAnyH_ready (rs := [14]) (by kernel_rfl) (by simp) ?_
    refine AllReadyH.cons rfl (fun K hK => ?_) AllReadyH.nil
    go_simp
    go_at_call 32
    refine (loose (HF.out.step HB6.out)).mono ?_
    rintro e W7 ⟨rfl, rfl⟩
    rw [HLO.out]
    try go_simp
    refine hK.out _ _ ?_ (fun hHeld => ?_)
    · (try dsimp only); first | go_keep | exact ⟨s1, s5⟩ | assumption
    clear hK K
    try go_simp
    refine wpAnyH_take (i := 20) (v := ?_) rfl (by kernel_rfl) (by kernel_rfl) (by kernel_rfl) (fun _ _ _ h => h) (Or.inl ⟨by rfl, ?_⟩) (by assumption) ?_
    rotate_left
    · (intro w hSw; (try dsimp only at hSw); (go_simp <;> with_reducible rfl))
    try go_simp
    refine wpAnyH_take (i := 21) (v := ?_) rfl (by kernel_rfl) (by kernel_rfl) (by kernel_rfl) (fun _ _ _ h => h) (Or.inl ⟨by rfl, ?_⟩) (by assumption) ?_
    rotate_left
    · (intro w hSw; (try dsimp only at hSw); (go_simp <;> with_reducible rfl))
    try go_simp
    refine wpAnyH_take (i := 22) (v := ?_) rfl (by kernel_rfl) (by kernel_rfl) (by kernel_rfl) (fun _ _ _ h => h) (Or.inl ⟨by rfl, ?_⟩) (by assumption) ?_
    rotate_left
    · (intro w hSw; (try dsimp only at hSw); (go_simp <;> with_reducible rfl))
    try go_simp
    refine wpAnyH_take (i := 23) (v := ?_) rfl (by kernel_rfl) (by kernel_rfl) (by kernel_rfl) (fun _ _ _ h => h) (Or.inl ⟨by rfl, ?_⟩) (by assumption) ?_
    rotate_left
    · (intro w hSw; (try dsimp only at hSw); (go_simp <;> with_reducible rfl))
    try go_simp
    refine wpAnyH_take (i := 25) (v := ?_) rfl (by kernel_rfl) (by kernel_rfl) (by kernel_rfl) (fun _ _ _ h => h) (Or.inl ⟨by rfl, ?_⟩) (by assumption) ?_
    rotate_left
    · (intro w hSw; (try dsimp only at hSw); (go_simp <;> with_reducible rfl))
    try go_simp
    refine wpAnyH_take (i := 26) (v := ?_) rfl (by kernel_rfl) (by kernel_rfl) (by kernel_rfl) (fun _ _ _ h => h) (Or.inl ⟨by rfl, ?_⟩) (by assumption) ?_
    rotate_left
    · (intro w hSw; (try dsimp only at hSw); (go_simp <;> with_reducible rfl))
    try go_simp
    refine wpAnyH_take (i := 27) (v := ?_) rfl (by kernel_rfl) (by kernel_rfl) (by kernel_rfl) (fun _ _ _ h => h) (Or.inl ⟨by rfl, ?_⟩) (by assumption) ?_
    rotate_left
    · (intro w hSw; (try dsimp only at hSw); (go_simp <;> with_reducible rfl))
    try go_simp
    refine wpAnyH_take (i := 28) (v := ?_) rfl (by kernel_rfl) (by kernel_rfl) (by kernel_rfl) (fun _ _ _ h => h) (Or.inl ⟨by rfl, ?_⟩) (by assumption) ?_
    rotate_left
    · (intro w hSw; (try dsimp only at hSw); (go_simp <;> with_reducible rfl))
    try go_simp
    refine wpAnyH_ready (rs := [24]) (by kernel_rfl) (by simp) ?_
    refine AllReadyH.cons rfl (fun K hK => ?_) AllReadyH.nil
    go_simp
    go_at_call 23
    refine (down (HF.out.step HB6.out)).mono ?_
    rintro e W8 ⟨rfl, rfl⟩
    rw [HDN.out]
    try go_simp
    refine hK.out _ _ ?_ (fun hHeld => ?_)
    · (try dsimp only); first | go_keep | exact ⟨s1, s5⟩ | assumption
    clear hK K
    try go_simp
    refine wpAnyH_take (i := 29) (v := ?_) rfl (by kernel_rfl) (by kernel_rfl) (by kernel_rfl) (fun _ _ _ h => h) (Or.inl ⟨by rfl, ?_⟩) (by assumption) ?_
    rotate_left
    · (intro w hSw; (try dsimp only at hSw); (go_simp <;> with_reducible rfl))
    try go_simp
    refine wpAnyH_take (i := 30) (v := ?_) rfl (by kernel_rfl) (by kernel_rfl) (by kernel_rfl) (fun _ _ _ h => h) (Or.inl ⟨by rfl, ?_⟩) (by assumption) ?_
    rotate_left
    · (intro w hSw; (try dsimp only at hSw); (go_simp <;> with_reducible rfl))
    try go_simp
    refine wpAnyH_done (by kernel_rfl) ?_ _
    refine NoPanic.normal ?_
    go_wp2
    clear s1 s5
    go_loopw [8, 9, 10] (fun v8 v9 v10 wr => ∃ i : Nat, i ≤ l.length ∧ v8 = .int .i64 i ∧ Aside0 (Below W1.heap.size W1 wr)) (fun v8 _ _ _ => l.length - (intOf v8).toNat)
    case atStart => exact ⟨0, by omega, rfl, HB6⟩
    case round =>
      obtain ⟨i, hi, rfl, HBW⟩ := hrel
      by_cases hlt : i < l.length
      · exact absurd hlt (by omega)
      · go_wp2
        go_ret
        exact ⟨rfl, chain' HD.out.below HBW.out⟩
    -- END
end Go.Proofs.Ytibmgcihpbofdaa.Fs
namespace Go.Proofs.Ytibmgcihpbofdaa.Fs
open Go.RowKit Go.Proofs.Ytibmgcihpbofdaa Go.Proofs.Ytibmgcihpbofdaa.Plain Go.Proofs.YtibmgcihpbofdaaW.PrintWords Go.Maps
set_option linter.unusedVariables false
set_option linter.unusedSimpArgs false
set_option maxHeartbeats 4000000 in
set_option maxRecDepth 100000 in
theorem alikeOff1 {w0 W : World} {f r : Nat} {d : Disk} {rd : RDisk} {N : Nat} {T R : Nat → Prop} {blk : Nat → Nat} (hF : FsAt w0 f d N T W) (hR : RAt w0 r rd R W) (hS : Sim blk d rd) (hok : ROk rd N) (hN : N ≤ 900000) (hoff : rd.off = true) (hlen : 0 < rd.dir.length) :
    Calls Try.prog 30 #[.pointer (some ⟨f, 0, none⟩), .pointer (some ⟨r, 0, none⟩)] W fun e W' => e = .returned (.bool true) ∧ Below W.heap.size W W' := by
  have HF := Aside0.mk hF
  have HR := Aside0.mk hR
  have HN := Aside0.mk hN
  have HOK := Aside0.mk hok
  have hdn : d.down = true := hS.down.trans hoff
  have HDN := Aside0.mk hdn
  have HUS := Aside0.mk hS.used
  have HLO := Aside0.mk (show d.loose.length = rd.loose.length by rw [hS.loose, List.length_map])
  have HNM := Aside0.mk hS.names
  have HNL := Aside0.mk (show d.now.length = rd.dir.length by rw [hS.now.1]; simp [onto])
  have HRT := Aside0.mk (fun p hp => right80 (hok.right p hp))
  have HTH := Aside0.mk hok.there
  have HRD := Aside0.mk (fun p (hp : p ∈ rd.dir) => hS.read hok hp (sorted_mem hok.sorted hp))
  have HBY := Aside0.mk (fun i => (bytes_le hok i).1)
  have hll : rd.dir.length ≤ 900000 := Nat.le_trans hok.dirLen hN
  have XD := dirIs hR hok (by omega)
  obtain ⟨vs, vl, vf, fl, c0⟩ := hR
  obtain ⟨-, ⟨Al, cl, rfl⟩, ⟨Af, cf, rfl⟩⟩ := c0.slices
  have HC := Aside0.mk c0
  have HCL := Aside0.mk (fun X (hX : Below W.heap.size W X) => (c0.step hX).cells)
  obtain ⟨l, hl⟩ : ∃ l, rd.dir = l := ⟨_, rfl⟩
  obtain ⟨L, hL⟩ : ∃ L, rd.loose.length = L := ⟨_, rfl⟩
  obtain ⟨U, hU⟩ : ∃ U, rd.used = U := ⟨_, rfl⟩
  have HOF := Aside0.mk hoff
  rw [hl] at XD hll HNM HNL HRT HTH HRD hlen
  rw [hL] at HCL HLO
  rw [hoff] at HCL HRD
  rw [hU] at HUS
  have HU := Aside0.mk hU
  clear hF hS hok hN hoff hdn c0 hl hL hU
  go_enter Try.func30, Try.ntmps30
  go_wp2_with (go_at_call 46; refine XD.mono ?_; rintro e W1 ⟨v1, rfl, hD⟩; have HD := Aside0.mk hD; obtain ⟨A, c, rfl⟩ := hD.slice; clear hD XD)
  have HFx := Aside0.mk (HF.out.step HD.out.below)
  have HRx := Aside0.mk (HR.out.step HD.out.below)
  have HCx := Aside0.mk (HC.out.step HD.out.below)
  have HLx := Aside0.mk (fun X (hX : Below W1.heap.size W1 X) => HCL.out X (chain' HD.out.below hX))
  clear HF HR HC HCL
  have HF := HFx
  have HR := HRx
  have HC := HCx
  have HCL := HLx
  clear HFx HRx HCx HLx
  go_loopw [6, 7] (fun v6 v7 wr => v6 = .slice none 0 0 ∧ v7 = .int .i64 0 ∧ Aside0 (wr = W1)) (fun _ _ _ => 0)
  case atStart => exact ⟨rfl, rfl, ⟨rfl⟩⟩
  case round =>
    obtain ⟨rfl, rfl, HW⟩ := hrel
    have hw := HW.out.symm
    subst hw
    have HB2 := Aside0.mk (Below.refl W1.heap.size W1)
    obtain ⟨-, s1, -, -, -, s5⟩ := HCL.out _ HB2.out
    have hle : (0 : Int) < (l.length : Int) := by omega
    go_wp2
    refine wp_region_noPanic ?_
    refine wp_region_held_drew (S := (fun X => X.cell? ⟨r, 1, none⟩ = some (.slice Al L cl) ∧ X.cell? ⟨r, 5, none⟩ = some (.bool true))) (by kernel_rfl) ?_ (fun hHeld => ?_)
    · (try dsimp only); first | go_keep | exact ⟨s1, s5⟩ | assumption
    refine wpAnyH_take (i := 0) (v := ?_) rfl (by kernel_rfl) (by kernel_rfl) (by kernel_rfl) (fun _ _ _ h => h) (Or.inl ⟨by rfl, ?_⟩) (by assumption) ?_
    rotate_left
    · (intro w hSw; (try dsimp only at hSw); (go_simp <;> with_reducible rfl))
    try go_simp
    refine wpAnyH_take (i := 2) (v := ?_) rfl (by kernel_rfl) (by kernel_rfl) (by kernel_rfl) (fun _ _ _ h => h) (Or.inl ⟨by rfl, ?_⟩) (by assumption) ?_
    rotate_left
    · (intro w hSw; (try dsimp only at hSw); (go_simp <;> with_reducible rfl))
    try go_simp
    refine wpAnyH_ready (rs := [1]) (by kernel_rfl) (by simp) ?_
    refine AllReadyH.cons rfl (fun K hK => ?_) AllReadyH.nil
    go_simp
    go_at_call 24
    refine (listDown2 (HF.out.step (by repeat (first | exact HB2.out | apply below_drew1))) HDN.out).mono ?_
    rintro e W3 ⟨rfl, rfl⟩
    try go_simp
    refine hK.out _ _ ?_ (fun hHeld => ?_)
    · (try dsimp only); first | go_keep | exact ⟨s1, s5⟩ | assumption
    clear hK K
    try go_simp
    refine wpAnyH_ready (rs := [3]) (by kernel_rfl) (by simp) ?_
    refine AllReadyH.cons rfl (fun K hK => ?_) AllReadyH.nil
    go_simp
    go_at_call 26
    refine (texts (l := []) (r := []) (fun j hj => absurd hj (Nat.not_lt_zero j)) (fun j hj => absurd hj (Nat.not_lt_zero j)) rfl rfl (Nat.zero_le _) (Nat.zero_le _)).mono ?_
    rintro e W4 ⟨rfl, hb⟩
    rw [beq_self_eq_true]
    have HB4 := Aside0.mk (chain' (W := W1) (by repeat (first | exact HB2.out | apply below_drew1)) hb)
    clear hb s1 s5
    obtain ⟨-, s1, -, -, -, s5⟩ := HCL.out _ HB4.out
    try go_simp
    refine hK.out _ _ ?_ (fun hHeld => ?_)
    · (try dsimp only); first | go_keep | exact ⟨s1, s5⟩ | assumption
    clear hK K
    try go_simp
    refine wpAnyH_take (i := 4) (v := ?_) rfl (by kernel_rfl) (by kernel_rfl) (by kernel_rfl) (fun _ _ _ h => h) (Or.inl ⟨by rfl, ?_⟩) (by assumption) ?_
    rotate_left
    · (intro w hSw; (try dsimp only at hSw); (go_simp <;> with_reducible rfl))
    try go_simp
    refine wpAnyH_take (i := 5) (v := ?_) rfl (by kernel_rfl) (by kernel_rfl) (by kernel_rfl) (fun _ _ _ h => h) (Or.inl ⟨by rfl, ?_⟩) (by assumption) ?_
    rotate_left
    · (intro w hSw; (try dsimp only at hSw); (go_simp <;> with_reducible rfl))
    try go_simp
    refine wpAnyH_take (i := 6) (v := ?_) rfl (by kernel_rfl) (by kernel_rfl) (by kernel_rfl) (fun _ _ _ h => h) (Or.inl ⟨by rfl, ?_⟩) (by assumption) ?_
    rotate_left
    · (intro w hSw; (try dsimp only at hSw); (go_simp <;> with_reducible rfl))
    try go_simp
    refine wpAnyH_take (i := 8) (v := ?_) rfl (by kernel_rfl) (by kernel_rfl) (by kernel_rfl) (fun _ _ _ h => h) (Or.inl ⟨by rfl, ?_⟩) (by assumption) ?_
    rotate_left
    · (intro w hSw; (try dsimp only at hSw); (go_simp <;> with_reducible rfl))
    try go_simp
    refine wpAnyH_ready (rs := [7]) (by kernel_rfl) (by simp) ?_
    refine AllReadyH.cons rfl (fun K hK => ?_) AllReadyH.nil
    go_simp
    go_at_call 25
    refine (usedIs (HF.out.step HB4.out) (by have := HN.out; omega)).mono ?_
    rintro e W5 ⟨rfl, hb⟩
    rw [HUS.out]
    have HB5 := Aside0.mk (chain' HB4.out hb)
    clear hb s1 s5
    obtain ⟨-, s1, -, -, -, s5⟩ := HCL.out _ HB5.out
    try go_simp
    refine hK.out _ _ ?_ (fun hHeld => ?_)
    · (try dsimp only); first | go_keep | exact ⟨s1, s5⟩ | assumption
    clear hK K
    try go_simp
    refine wpAnyH_ready (rs := [9]) (by kernel_rfl) (by simp) ?_
    refine AllReadyH.cons rfl (fun K hK => ?_) AllReadyH.nil
    go_simp
    go_at_call 47
    refine (usedR (HR.out.step HB5.out) HOK.out (by have := HN.out; omega)).mono ?_
    rintro e W6 ⟨rfl, hb⟩
    rw [HU.out]
    have HB6 := Aside0.mk (chain' HB5.out hb)
    clear hb s1 s5
    obtain ⟨-, s1, -, -, -, s5⟩ := HCL.out _ HB6.out
    try go_simp
    refine hK.out _ _ ?_ (fun hHeld => ?_)
    · (try dsimp only); first | go_keep | exact ⟨s1, s5⟩ | assumption
    clear hK K
    try go_simp
    refine wpAnyH_take (i := 10) (v := ?_) rfl (by kernel_rfl) (by kernel_rfl) (by kernel_rfl) (fun _ _ _ h => h) (Or.inl ⟨by rfl, ?_⟩) (by assumption) ?_
    rotate_left
    · (intro w hSw; (try dsimp only at hSw); (go_simp <;> with_reducible rfl))
    try go_simp
    refine wpAnyH_take (i := 11) (v := ?_) rfl (by kernel_rfl) (by kernel_rfl) (by kernel_rfl) (fun _ _ _ h => h) (Or.inl ⟨by rfl, ?_⟩) (by assumption) ?_
    rotate_left
    · (intro w hSw; (try dsimp only at hSw); (go_simp <;> with_reducible rfl))
    try go_simp
    refine wpAnyH_take (i := 12) (v := ?_) rfl (by kernel_rfl) (by kernel_rfl) (by kernel_rfl) (fun _ _ _ h => h) (Or.inl ⟨by rfl, ?_⟩) (by assumption) ?_
    rotate_left
    · (intro w hSw; (try dsimp only at hSw); (go_simp <;> with_reducible rfl))
    try go_simp
    refine wpAnyH_take (i := 13) (v := ?_) rfl (by kernel_rfl) (by kernel_rfl) (by kernel_rfl) (fun _ _ _ h => h) (Or.inl ⟨by rfl, ?_⟩) (by assumption) ?_
    rotate_left
    · (intro w hSw; (try dsimp only at hSw); (go_simp <;> with_reducible rfl))
    try go_simp
    refine wpAnyH_take (i := 15) (v := ?_) rfl (by kernel_rfl) (by kernel_rfl) (by kernel_rfl) (fun _ _ _ h => h) (Or.inl ⟨by rfl, ?_⟩) (by assumption) ?_
    rotate_left
    · (intro w hSw; (try dsimp only at hSw); (go_simp <;> with_reducible rfl))
    try go_simp
    refine wpAnyH_take (i := 16) (v := ?_) rfl (by kernel_rfl) (by kernel_rfl) (by kernel_rfl) (fun _ _ _ h => h) (Or.inl ⟨by rfl, ?_⟩) (by assumption) ?_
    rotate_left
    · (intro w hSw; (try dsimp only at hSw); (go_simp <;> with_reducible rfl))
    try go_simp
    refine wpAnyH_take (i := 17) (v := ?_) rfl (by kernel_rfl) (by kernel_rfl) (by kernel_rfl) (fun _ _ _ h => h) (Or.inl ⟨by rfl, ?_⟩) (by assumption) ?_
    rotate_left
    · (intro w hSw; (try dsimp only at hSw); (go_simp <;> with_reducible rfl))
    try go_simp
    refine wpAnyH_take (i := 18) (v := ?_) rfl (by kernel_rfl) (by kernel_rfl) (by kernel_rfl) (fun _ _ _ h => h) (Or.inl ⟨by rfl, ?_⟩) (by assumption) ?_
    rotate_left
    · (intro w hSw; (try dsimp only at hSw); (go_simp <;> with_reducible rfl))
    try go_simp
    refine wpAnyH_take (i := 19) (v := ?_) rfl (by kernel_rfl) (by kernel_rfl) (by kernel_rfl) (fun _ _ _ h => h) (Or.inl ⟨by rfl, ?_⟩) (by assumption) ?_
    rotate_left
    · (intro w hSw; (try dsimp only at hSw); (go_simp <;> with_reducible rfl))
    try go_simp
    refine wpAnyH_ready (rs := [14]) (by kernel_rfl) (by simp) ?_
    refine AllReadyH.cons rfl (fun K hK => ?_) AllReadyH.nil
    go_simp
    go_at_call 32
    refine (loose (HF.out.step HB6.out)).mono ?_
    rintro e W7 ⟨rfl, rfl⟩
    rw [HLO.out]
    try go_simp
    refine hK.out _ _ ?_ (fun hHeld => ?_)
    · (try dsimp only); first | go_keep | exact ⟨s1, s5⟩ | assumption
    clear hK K
    try go_simp
    refine wpAnyH_take (i := 20) (v := ?_) rfl (by kernel_rfl) (by kernel_rfl) (by kernel_rfl) (fun _ _ _ h => h) (Or.inl ⟨by rfl, ?_⟩) (by assumption) ?_
    rotate_left
    · (intro w hSw; (try dsimp only at hSw); (go_simp <;> with_reducible rfl))
    try go_simp
    refine wpAnyH_take (i := 21) (v := ?_) rfl (by kernel_rfl) (by kernel_rfl) (by kernel_rfl) (fun _ _ _ h => h) (Or.inl ⟨by rfl, ?_⟩) (by assumption) ?_
    rotate_left
    · (intro w hSw; (try dsimp only at hSw); (go_simp <;> with_reducible rfl))
    try go_simp
    refine wpAnyH_take (i := 22) (v := ?_) rfl (by kernel_rfl) (by kernel_rfl) (by kernel_rfl) (fun _ _ _ h => h) (Or.inl ⟨by rfl, ?_⟩) (by assumption) ?_
    rotate_left
    · (intro w hSw; (try dsimp only at hSw); (go_simp <;> with_reducible rfl))
    try go_simp
    refine wpAnyH_take (i := 23) (v := ?_) rfl (by kernel_rfl) (by kernel_rfl) (by kernel_rfl) (fun _ _ _ h => h) (Or.inl ⟨by rfl, ?_⟩) (by assumption) ?_
    rotate_left
    · (intro w hSw; (try dsimp only at hSw); (go_simp <;> with_reducible rfl))
    try go_simp
    refine wpAnyH_take (i := 25) (v := ?_) rfl (by kernel_rfl) (by kernel_rfl) (by kernel_rfl) (fun _ _ _ h => h) (Or.inl ⟨by rfl, ?_⟩) (by assumption) ?_
    rotate_left
    · (intro w hSw; (try dsimp only at hSw); (go_simp <;> with_reducible rfl))
    try go_simp
    refine wpAnyH_take (i := 26) (v := ?_) rfl (by kernel_rfl) (by kernel_rfl) (by kernel_rfl) (fun _ _ _ h => h) (Or.inl ⟨by rfl, ?_⟩) (by assumption) ?_
    rotate_left
    · (intro w hSw; (try dsimp only at hSw); (go_simp <;> with_reducible rfl))
    try go_simp
    refine wpAnyH_take (i := 27) (v := ?_) rfl (by kernel_rfl) (by kernel_rfl) (by kernel_rfl) (fun _ _ _ h => h) (Or.inl ⟨by rfl, ?_⟩) (by assumption) ?_
    rotate_left
    · (intro w hSw; (try dsimp only at hSw); (go_simp <;> with_reducible rfl))
    try go_simp
    refine wpAnyH_take (i := 28) (v := ?_) rfl (by kernel_rfl) (by kernel_rfl) (by kernel_rfl) (fun _ _ _ h => h) (Or.inl ⟨by rfl, ?_⟩) (by assumption) ?_
    rotate_left
    · (intro w hSw; (try dsimp only at hSw); (go_simp <;> with_reducible rfl))
    try go_simp
    refine wpAnyH_ready (rs := [24]) (by kernel_rfl) (by simp) ?_
    refine AllReadyH.cons rfl (fun K hK => ?_) AllReadyH.nil
    go_simp
    go_at_call 23
    refine (down (HF.out.step HB6.out)).mono ?_
    rintro e W8 ⟨rfl, rfl⟩
    rw [HDN.out]
    try go_simp
    refine hK.out _ _ ?_ (fun hHeld => ?_)
    · (try dsimp only); first | go_keep | exact ⟨s1, s5⟩ | assumption
    clear hK K
    try go_simp
    refine wpAnyH_take (i := 29) (v := ?_) rfl (by kernel_rfl) (by kernel_rfl) (by kernel_rfl) (fun _ _ _ h => h) (Or.inl ⟨by rfl, ?_⟩) (by assumption) ?_
    rotate_left
    · (intro w hSw; (try dsimp only at hSw); (go_simp <;> with_reducible rfl))
    try go_simp
    refine wpAnyH_take (i := 30) (v := ?_) rfl (by kernel_rfl) (by kernel_rfl) (by kernel_rfl) (fun _ _ _ h => h) (Or.inl ⟨by rfl, ?_⟩) (by assumption) ?_
    rotate_left
    · (intro w hSw; (try dsimp only at hSw); (go_simp <;> with_reducible rfl))
    try go_simp
    refine wpAnyH_done (by kernel_rfl) ?_ _
    refine NoPanic.normal ?_
    go_wp2
    clear s1 s5
    go_loopw [8, 9, 10] (fun v8 v9 v10 wr => ∃ i : Nat, i ≤ l.length ∧ v8 = .int .i64 i ∧ Aside0 (Below W1.heap.size W1 wr)) (fun v8 _ _ _ => l.length - (intOf v8).toNat)
    case atStart => exact ⟨0, by omega, rfl, HB6⟩
    case round =>
      obtain ⟨i, hi, rfl, HBW⟩ := hrel
      by_cases hlt : i < l.length
      · obtain ⟨g, rfl, -, k0, k1⟩ := (HD.out.at_.below HBW.out) i hlt
        have HXB := Aside0.mk (fun (X : World) (hX : Below wr.heap.size wr X) => (HD.out.at_.below (chain' HBW.out hX)) i hlt)
        have HRi := Aside0.mk (HRD.out _ (List.getElem_mem hlt))
        have hTi := HTH.out _ (List.getElem_mem hlt)
        have hn80 := HRT.out _ (List.getElem_mem hlt)
        obtain ⟨p, hp⟩ : ∃ p, l[i] = p := ⟨_, rfl⟩
        simp only [hp] at k0 k1 HRi hTi hn80 HXB
        obtain ⟨pn, pf⟩ := p
        clear hp
        have hif : pf < fl.length := by rw [← HC.out.len]; exact hTi
        obtain ⟨gf, cf', efl, -, -, -⟩ := HC.out.file pf hif
        injection efl with efl _ e3
        subst efl
        subst e3
        have HFX := Aside0.mk (fun (X : World) (hX : Below W1.heap.size W1 X) => fileCells2 (HC.out.step hX) hif)
        have hby := (HC.out.bytes pf hif).1
        have HEB := Aside0.mk (HC.out.each _ (List.getElem_mem hif))
        obtain ⟨q, hq⟩ : ∃ q, fl[pf] = q := ⟨_, rfl⟩
        rw [hq] at hby HEB
        simp only [hq] at HFX
        obtain ⟨bv, ub, sf⟩ := q
        clear hq
        have hbb : ∃ A c, bv = .slice A (B ub).length c := own_slice HEB.out
        obtain ⟨Ab, cb, rfl⟩ := hbb
        have HRE := Aside0.mk (fun X (hX : Below W1.heap.size W1 X) => bytesReads2 (BytesIs.below HEB.out hX))
        obtain ⟨m0, hm0⟩ : ∃ m0, (B ub).length = m0 := ⟨_, rfl⟩
        simp only [hm0] at HFX
        have HM0 := Aside0.mk (show m0 = ub.length by rw [← hm0, B_length])
        have HRI := Aside0.mk (show d.read pn = ([], 2) by rw [HRi.out]; simp)
        have HHM := Aside0.mk hm0
        clear hby hm0 HRi hTi
        go_wp2_with (go_at_call 16; refine (read (HF.out.step HBW.out) (by have := HN.out; omega) pn (by omega)).mono ?_; rintro e W9 ⟨v9, rfl, hown, hb⟩; rw [HRI.out] at hown ⊢; obtain ⟨A9, c9, rfl⟩ := own_slice hown; have HB9 := Aside0.mk (chain' HBW.out hb); obtain ⟨-, -, s2, -, -, s5⟩ := HCL.out _ HB9.out; obtain ⟨k2, -⟩ := HFX.out _ HB9.out; obtain ⟨g9, e9, -, k3, k4⟩ := HXB.out _ hb; injection e9 with e9; injection e9 with e9 _ _; subst e9; have hl0 : (B ([] : List UInt8)).length = 0 := B_len02; simp only [hl0]; clear hown hb)
        go_roundw
        case rel => exact ⟨i + 1, by omega, by go_num, ⟨HB9.out⟩⟩
        case measure => simp [intOf]; omega
      · go_wp2
        go_ret
        exact ⟨rfl, chain' HD.out.below HBW.out⟩
    -- END
end Go.Proofs.Ytibmgcihpbofdaa.Fs
