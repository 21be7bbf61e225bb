/- law04: do. -/
import Derived.Test.YtibmgcihpbofdaaFsB4
import Derived.Deep.RegionLawGrows
namespace Go.Proofs.Ytibmgcihpbofdaa.Fs
open Go.RowKit Go.Proofs.Ytibmgcihpbofdaa Go.Proofs.Ytibmgcihpbofdaa.Plain Go.Proofs.YtibmgcihpbofdaaW.PrintWords Go.Maps
set_option linter.unusedVariables false
set_option linter.unusedSimpArgs false
/-- one call, by its kind; x: a new file's block -/
def Disk.act (d : Disk) (x : Nat) (kind : Int) (a b : Nm) (u : List UInt8) : Int × Disk :=
  if kind = 1 then d.create x a else if kind = 2 then d.append a u else if kind = 3 then d.sync a else if kind = 4 then d.rename a b else if kind = 5 then d.unlink a else if kind = 6 then d.dirSync else (0, d)
set_option maxHeartbeats 1000000 in
set_option maxRecDepth 100000 in
theorem doOther {w0 W : World} {f : Nat} {d : Disk} {N : Nat} {T : Nat → Prop} (h : FsAt w0 f d N T W) (kind n m : Int) (a b : Nm) (ha : a.length ≤ 140737488351232) (hb : b.length ≤ 140737488351232) (u : List UInt8) (A : Option Addr) (l c : Nat) (hN : N ≤ 1000000) (hk : kind ≠ 2) :
    Calls Try.prog 15 #[.pointer (some ⟨f, 0, none⟩), .agg #[.int .i64 kind, .int .i64 n, .int .i64 m, .string (S a), .string (S b), .slice A l c]] W fun e W' => ∃ x, (kind = 1 → ¬ d.has x) ∧ e = .returned (.int .i64 (d.act x kind a b u).1) ∧ ∃ T', FsAt w0 f (d.act x kind a b u).2 (N + u.length + 1) T' W' ∧ Turn T W T' W' := by
  have HH := Aside0.mk h
  clear h
  by_cases h1 : kind = 1
  · subst h1
    go_enter Try.func15, Try.ntmps15
    go_wp2_with (go_at_call 13; refine (create (HH.out.step (below_alloc (Below.refl _ _) _)) hN a ha).mono ?_; rintro e W' ⟨x, hx, rfl, T', h', ht⟩; have H' := Aside0.mk h'; have HT := Aside0.mk ht; have HX := Aside0.mk hx; clear hx; clear h' ht)
    go_ret
    exact ⟨x, fun _ => HX.out, rfl, T', FsAt.le' H'.out (by omega), (Turn.of_below (below_alloc (Below.refl _ _) _)).trans HT.out⟩
  by_cases h3 : kind = 3
  · subst h3
    go_enter Try.func15, Try.ntmps15
    go_wp2_with (go_at_call 17; refine (sync (HH.out.step (below_alloc (Below.refl _ _) _)) hN a ha).mono ?_; rintro e W' ⟨rfl, T', h', ht⟩; have H' := Aside0.mk h'; have HT := Aside0.mk ht; clear h' ht)
    go_ret
    exact ⟨0, fun h => by omega, rfl, T', FsAt.le' H'.out (by omega), (Turn.of_below (below_alloc (Below.refl _ _) _)).trans HT.out⟩
  by_cases h4 : kind = 4
  · subst h4
    go_enter Try.func15, Try.ntmps15
    go_wp2_with (go_at_call 22; refine (rename (HH.out.step (below_alloc (Below.refl _ _) _)) hN a b ha hb).mono ?_; rintro e W' ⟨rfl, T', h', ht⟩; have H' := Aside0.mk h'; have HT := Aside0.mk ht; clear h' ht)
    go_ret
    exact ⟨0, fun h => by omega, rfl, T', FsAt.le' H'.out (by omega), (Turn.of_below (below_alloc (Below.refl _ _) _)).trans HT.out⟩
  by_cases h5 : kind = 5
  · subst h5
    go_enter Try.func15, Try.ntmps15
    go_wp2_with (go_at_call 19; refine (unlink (HH.out.step (below_alloc (Below.refl _ _) _)) hN a ha).mono ?_; rintro e W' ⟨rfl, T', h', ht⟩; have H' := Aside0.mk h'; have HT := Aside0.mk ht; clear h' ht)
    go_ret
    exact ⟨0, fun h => by omega, rfl, T', FsAt.le' H'.out (by omega), (Turn.of_below (below_alloc (Below.refl _ _) _)).trans HT.out⟩
  by_cases h6 : kind = 6
  · subst h6
    go_enter Try.func15, Try.ntmps15
    go_wp2_with (go_at_call 18; refine (dirSync (HH.out.step (below_alloc (Below.refl _ _) _))).mono ?_; rintro e W' ⟨rfl, T', h', ht⟩; have H' := Aside0.mk h'; have HT := Aside0.mk ht; clear h' ht)
    go_ret
    exact ⟨0, fun h => by omega, rfl, T', FsAt.le' H'.out (by omega), (Turn.of_below (below_alloc (Below.refl _ _) _)).trans HT.out⟩
  have e : d.act 0 kind a b u = (0, d) := by
    unfold Disk.act
    rw [if_neg h1, if_neg hk, if_neg h3, if_neg h4, if_neg h5, if_neg h6]
  have b1 : (kind == 1) = false := by simpa using h1
  have b2 : (kind == 2) = false := by simpa using hk
  have b3 : (kind == 3) = false := by simpa using h3
  have b4 : (kind == 4) = false := by simpa using h4
  have b5 : (kind == 5) = false := by simpa using h5
  have b6 : (kind == 6) = false := by simpa using h6
  have HE := Aside0.mk e
  clear e h1 hk h3 h4 h5 h6
  go_enter Try.func15, Try.ntmps15
  go_wp2
  go_ret
  refine ⟨0, fun h => by subst h; simp at b1, ?_⟩
  rw [HE.out]
  exact ⟨rfl, T, FsAt.le' (HH.out.step (below_alloc (Below.refl _ _) _)) (by omega), Turn.of_below (below_alloc (Below.refl _ _) _)⟩
theorem numsCells {X : World} {ad : Addr} {u : List UInt8} (h : ReadsInt X .u8 (some ad) (B u).length (B u)) : ∀ j v, (nums .u8 (B u))[j]? = some v → X.cell? (ad.add j) = some v := by
  intro j v hv
  have hj : j < (B u).length := by
    have := (List.getElem?_eq_some_iff.1 hv).1
    simpa [nums] using this
  obtain ⟨ad', e, hc⟩ := h.2.2 (by omega)
  cases e
  rw [hc j hj]
  have : (nums .u8 (B u))[j]? = some (.int .u8 ((B u).getD j 0)) := by
    simp [nums, List.getD_eq_getElem?_getD, List.getElem?_eq_getElem hj]
  rw [this] at hv
  exact hv
theorem nums_one {u : List UInt8} : ∀ v ∈ nums .u8 (B u), v.oneCell' = true := by
  intro v hv
  simp only [nums, List.mem_map] at hv
  obtain ⟨x, _, rfl⟩ := hv
  rfl
theorem grownAll {W X w' : World} (h : Below W.heap.size W X) (hg : X.grownBy w' none) : Below W.heap.size W w' := h.grown hg h.size (fun j hj => by cases hj)
theorem grownAll2 {n : Nat} {W X w' : World} (h : Below n W X) (hg : X.grownBy w' none) (hn : n = W.heap.size := by rfl) : Below n W w' := h.grown hg (hn ▸ h.size) (fun j hj => by cases hj)
theorem boxAt {W X : World} {cs : Array Value} {t j : Nat} {v : Value} (hX : Below (W.alloc (.cells cs t)).heap.size (W.alloc (.cells cs t)) X) (hj : cs[j]? = some v) : X.cell? ⟨W.heap.size, j, none⟩ = some v := by
  have h1 := heap_alloc_new W (.cells cs t)
  have h2 := (hX.block W.heap.size (by simp)).trans h1
  simp [World.cell?, h2, hj]
theorem dataReads {X : World} {base c : Nat} {A : Option Addr} {u : List UInt8} (h : X.ownsRow base 5 1 (.slice A (0 + u.length) c) (0 + u.length) ([] ++ nums .u8 (B u))) : ReadsInt X .u8 A (B u).length (B u) := by
  have e : 0 + u.length = (B u).length := by rw [B_length]; omega
  rw [e, List.nil_append] at h
  exact own_reads' h
set_option maxHeartbeats 1000000 in
set_option maxRecDepth 100000 in
theorem doAppend {w0 W : World} {f : Nat} {d : Disk} {N : Nat} {T : Nat → Prop} (h : FsAt w0 f d N T W) (n m : Int) (a b : Nm) (ha : a.length ≤ 140737488351232) (u : List UInt8) (ad : Addr) (c : Nat) (hN : N + u.length ≤ 1000000) (hu : 0 < u.length) (hr : ReadsInt W .u8 (some ad) (B u).length (B u)) :
    Calls Try.prog 15 #[.pointer (some ⟨f, 0, none⟩), .agg #[.int .i64 2, .int .i64 n, .int .i64 m, .string (S a), .string (S b), .slice (some ad) u.length c]] W fun e W' => e = .returned (.int .i64 (d.append a u).1) ∧ ∃ T', FsAt w0 f (d.append a u).2 (N + u.length + 1) T' W' ∧ Turn T W T' W' := by
  have HRC := Aside0.mk (fun X (hX : Below W.heap.size W X) => numsCells (hr.below hX))
  have HAP := Aside0.mk (fun X (hX : Below W.heap.size W X) A' m' c' (hm : m' = u.length) (hrd : ReadsInt X .u8 A' (B u).length (B u)) => append (h.step hX) a ha u (by omega) A' m' c' hm hrd)
  obtain ⟨i0, hi', hzz⟩ := Option.map_eq_some_iff.1 infoU8
  simp only [Prod.mk.injEq] at hzz
  have hi := Aside0.mk hi'
  have hz0 := Aside0.mk hzz.1
  have hz1 := Aside0.mk hzz.2.1
  have hz2 := Aside0.mk hzz.2.2
  have HNL := Aside0.mk (show (nums .u8 (B u)).length = u.length * 1 by simp [nums, B])
  have HL := Aside0.mk (show 0 < 0 + u.length ∧ 0 + u.length ≤ maxLen ∧ (0 + u.length) * 1 ≤ 140737488355328 by simp only [maxLen]; omega)
  have HBB := Aside0.mk (show Below W.heap.size W W from Below.refl _ _)
  obtain ⟨o, ho⟩ : ∃ o, o = Obj.cells #[.int .i64 2, .int .i64 n, .int .i64 m, .string (S a), .string (S b), .slice (some ad) u.length c] 32 (0, 0) := ⟨_, rfl⟩
  have HBX := Aside0.mk (fun X (hX : Below (W.alloc (Obj.cells #[.int .i64 2, .int .i64 n, .int .i64 m, .string (S a), .string (S b), .slice (some ad) u.length c] 32)).heap.size (W.alloc (Obj.cells #[.int .i64 2, .int .i64 n, .int .i64 m, .string (S a), .string (S b), .slice (some ad) u.length c] 32)) X) => boxAt (j := 3) (v := .string (S a)) hX rfl)
  have HB1 := Aside0.mk (Below.refl (W.alloc (Obj.cells #[.int .i64 2, .int .i64 n, .int .i64 m, .string (S a), .string (S b), .slice (some ad) u.length c] 32)).heap.size (W.alloc (Obj.cells #[.int .i64 2, .int .i64 n, .int .i64 m, .string (S a), .string (S b), .slice (some ad) u.length c] 32)))
  clear ho o
  clear h hr hi' hzz hN hu
  go_enter Try.func15, Try.ntmps15
  go_wp2
  go_region_law (first
    | (refine step_append_grows rfl (.tmp 18) (.tmp 20) 22 rfl 5 i0 (.int .u8 0) 1 1 Try.underlying22 hi.out hz0.out hz1.out hz2.out rfl (by decide) (some ⟨_, 0, none⟩) 0 0 [] (by simp [Act.eval, Act.put]; rfl) (fun h => by cases h) rfl (fun b hb j u hu => by simp at hu) ad u.length c (nums .u8 (B u)) (by simp [Act.eval, Act.put]) HNL.out (HRC.out _ (by repeat (first | exact HBB.out | apply below_drew1 | refine below_alloc ?_ _))) nums_one HL.out.1 HL.out.2.1 HL.out.2.2 ?_; intro v' w' hown hgrow; have HB3 := Aside0.mk (grownAll (W := W) (by repeat (first | exact HBB.out | apply below_drew1 | refine below_alloc ?_ _)) hgrow); have hbx := HBX.out w' (grownAll2 (by repeat (first | exact HB1.out | apply below_drew1 | refine below_alloc ?_ _)) hgrow); obtain ⟨A', c', rfl⟩ := own_slice hown; have HO := Aside0.mk (dataReads hown); clear hown hgrow)
    | (go_simp; go_at_call 14; refine (HAP.out w' HB3.out A' u.length c' rfl HO.out).mono ?_; rintro e W2 ⟨rfl, T2, h2, ht⟩; have H2 := Aside0.mk h2; have HT := Aside0.mk ((Turn.of_below HB3.out).trans ht); clear h2 ht; try go_simp))
  all_goals
    go_wp2
    go_ret
    exact ⟨rfl, _, H2.out, HT.out⟩
theorem step_append_nothing {P : Program} {ops : Array Oper} {o : Oper} {a : Act} {w : World} {K : Act → World → Prop} {Q : Exit → Act → World → Prop} {E : Prop}
    (hg : o.guard = none) (s x : Operand) (t : TypeId) (hop : o.op = Op.call { callee := Callee.builtin Builtin.append, args := #[s, x], argTypes := #[t, t] })
    (e : TypeId) (i : TypeInfo) (h1 : P.underlying t = some (.slice e)) (h2 : P.info? e = some i)
    (b off n cap : Nat) (hs : a.eval s = .slice (some ⟨b, off, none⟩) n cap) (A : Option Addr) (c : Nat) (hx : a.eval x = .slice A 0 c) (hroom : n ≤ cap)
    (hK : K (a.put o.dst (.slice (some ⟨b, off, none⟩) n cap)) w) :
    if Region.wanted o (yielded ops a.tmps) = true then Oper.wp P o a w K Q else E := by
  have hw : Region.wanted o (yielded ops a.tmps) = true := by simp [Region.wanted, hg]
  rw [if_pos hw]
  have hr : (Builtin.append_ #[t, t] o.type #[.slice (some ⟨b, off, none⟩) n cap, .slice A 0 c]).run P w = .ok (.slice (some ⟨b, off, none⟩) n cap) w := by
    cases A with
    | some ad =>
      have := run_append_room_cells (P := P) (w := w) t o.type e i h1 h2 b off n cap ad 0 c [] (by simp) (by simp) (by simp) (by omega) (by simp) (by simp)
      rw [this]
      simp [World.setCells]
    | none => simp [Builtin.append_, run_underlying h1, sizeOf, typeInfo, h2, Builtin.lenOf, hroom, Builtin.firstCells, storeCells]
  unfold Oper.wp execOp
  simp only [hop, resolve, invoke, builtin, Sem.run_bind, Sem.run_pure, Result.andThen_ok, List.map_toArray, List.map_cons, List.map_nil, hs, hx, hr]
  exact hK
set_option maxHeartbeats 1000000 in
set_option maxRecDepth 100000 in
theorem doEmpty {w0 W : World} {f : Nat} {d : Disk} {N : Nat} {T : Nat → Prop} (h : FsAt w0 f d N T W) (n m : Int) (a b : Nm) (ha : a.length ≤ 140737488351232) (A : Option Addr) (c : Nat) (hN : N ≤ 1000000) :
    Calls Try.prog 15 #[.pointer (some ⟨f, 0, none⟩), .agg #[.int .i64 2, .int .i64 n, .int .i64 m, .string (S a), .string (S b), .slice A 0 c]] W fun e W' => e = .returned (.int .i64 (d.append a []).1) ∧ ∃ T', FsAt w0 f (d.append a []).2 (N + 1) T' W' ∧ Turn T W T' W' := by
  have HAP := Aside0.mk (fun X (hX : Below W.heap.size W X) A' c' => append (h.step hX) a ha [] (by simpa using hN) A' 0 c' rfl ⟨rfl, by decide, fun h => absurd h (by decide)⟩)
  have HBB := Aside0.mk (show Below W.heap.size W W from Below.refl _ _)
  obtain ⟨i0, hi', hzz⟩ := Option.map_eq_some_iff.1 infoU8
  have hi := Aside0.mk hi'
  clear h hN hi' hzz
  go_enter Try.func15, Try.ntmps15
  go_wp2
  go_region_law (first
    | (refine step_append_nothing rfl (.tmp 18) (.tmp 20) 22 rfl 5 i0 Try.underlying22 hi.out _ 0 0 0 (by simp [Act.eval, Act.put]; rfl) A c (by simp [Act.eval, Act.put]) (Nat.le_refl 0) ?_)
    | (go_simp; go_at_call 14; refine (HAP.out _ (by repeat (first | exact HBB.out | apply below_drew1 | refine below_alloc ?_ _)) _ _).mono ?_; rintro e W2 ⟨rfl, T2, h2, ht⟩; have H2 := Aside0.mk h2; have HT := Aside0.mk ((Turn.of_below (T := T) (W := W) (by repeat (first | exact HBB.out | apply below_drew1 | refine below_alloc ?_ _))).trans ht); clear h2 ht; try go_simp))
  all_goals
    go_wp2
    go_ret
    exact ⟨rfl, _, H2.out, HT.out⟩
/-- do, whatever it is asked -/
theorem doAny {w0 W : World} {f : Nat} {d : Disk} {N : Nat} {T : Nat → Prop} (h : FsAt w0 f d N T W) (kind n m : Int) (a b : Nm) (ha : a.length ≤ 140737488351232) (hb : b.length ≤ 140737488351232) (u : List UInt8) (A : Option Addr) (c : Nat) (hN : N + u.length ≤ 1000000) (hr : ReadsInt W .u8 A (B u).length (B u)) :
    Calls Try.prog 15 #[.pointer (some ⟨f, 0, none⟩), .agg #[.int .i64 kind, .int .i64 n, .int .i64 m, .string (S a), .string (S b), .slice A u.length c]] W fun e W' => ∃ x, (kind = 1 → ¬ d.has x) ∧ e = .returned (.int .i64 (d.act x kind a b u).1) ∧ ∃ T', FsAt w0 f (d.act x kind a b u).2 (N + u.length + 1) T' W' ∧ Turn T W T' W' := by
  by_cases hk : kind = 2
  · subst hk
    have e : d.act 0 2 a b u = d.append a u := by unfold Disk.act; rw [if_neg (by omega), if_pos rfl]
    cases u with
    | nil =>
      refine (doEmpty h n m a b ha A c (by simpa using hN)).mono ?_
      rintro e' W' ⟨rfl, T', h', ht⟩
      exact ⟨0, fun h => by omega, by rw [e], T', by rw [e]; exact h', ht⟩
    | cons y u =>
      obtain ⟨ad, hA, _⟩ := hr.2.2 (by rw [B_length]; simp)
      subst hA
      refine (doAppend h n m a b ha (y :: u) ad c hN (by simp) hr).mono ?_
      rintro e' W' ⟨rfl, T', h', ht⟩
      exact ⟨0, fun h => by omega, by rw [e], T', by rw [e]; exact h', ht⟩
  · exact doOther h kind n m a b ha hb u A u.length c (by omega) hk
end Go.Proofs.Ytibmgcihpbofdaa.Fs
