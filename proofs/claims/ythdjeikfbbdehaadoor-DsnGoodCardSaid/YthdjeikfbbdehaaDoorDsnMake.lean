/- law23: dsn.Make. -/
import Derived.Test.YthdjeikfbbdehaaDoorDsnText
namespace Go.Proofs.YthdjeikfbbdehaaDoor.Fs
open Go.RowKit Go.Proofs.YthdjeikfbbdehaaDoor Go.Proofs.YthdjeikfbbdehaaDoor.Plain Go.Proofs.YthdjeikfbbdehaaDoorW.PrintWords Go.Maps
set_option linter.unusedVariables false
set_option linter.unusedSimpArgs false
def zeroM : MailD := ⟨0, 0, 0, [], [], []⟩
def comesB (m : MailD) (l : List Int) : Bool := !(m.sender == []) && l.any fun s => s == 2
def makeD (m : MailD) (l : List Int) (born : Int) : MailD := if comesB m l = true then ⟨0, m.id, clampI born, [], [m.sender], textB m l⟩ else zeroM
theorem zeroAt (W : World) : MailAt W (.agg #[.int .i64 0, .int .i64 0, .int .i64 0, .string ByteArray.empty, .slice none 0 0, .slice none 0 0]) zeroM :=
  ⟨none, 0, none, 0, rfl, by decide, by decide, fun j hj => by simp [zeroM] at hj, rfl, by decide, fun h => absurd h (by decide)⟩
/-- the cells of a result, laid behind a mail's copy: they may be written -/
theorem resCells {W X : World} {o : Obj} {c0 c1 c2 c3 c4 c5 : Value} {t : TypeId} (hb : Below ((W.alloc o).alloc (.cells #[c0, c1, c2, c3, c4, c5] t)).heap.size ((W.alloc o).alloc (.cells #[c0, c1, c2, c3, c4, c5] t)) X) :
    (X.cell? ⟨W.heap.size + 1, 0, none⟩ = some c0 ∧ X.cell? ⟨W.heap.size + 1, 1, none⟩ = some c1 ∧ X.cell? ⟨W.heap.size + 1, 2, none⟩ = some c2 ∧ X.cell? ⟨W.heap.size + 1, 3, none⟩ = some c3 ∧ X.cell? ⟨W.heap.size + 1, 4, none⟩ = some c4 ∧ X.cell? ⟨W.heap.size + 1, 5, none⟩ = some c5) ∧
    (X.frozen? ⟨W.heap.size + 1, 0, none⟩ = false ∧ X.frozen? ⟨W.heap.size + 1, 1, none⟩ = false ∧ X.frozen? ⟨W.heap.size + 1, 2, none⟩ = false ∧ X.frozen? ⟨W.heap.size + 1, 3, none⟩ = false ∧ X.frozen? ⟨W.heap.size + 1, 4, none⟩ = false ∧ X.frozen? ⟨W.heap.size + 1, 5, none⟩ = false) ∧ W.heap.size + 2 ≤ X.heap.size := by
  have hs : (W.alloc o).heap.size = W.heap.size + 1 := by simp
  have h := (hb.block (W.alloc o).heap.size (by simp)).trans (heap_alloc_new (W.alloc o) _)
  rw [hs] at h
  have h2 := hb.size
  refine ⟨?_, ?_, by simpa using h2⟩
  · unfold World.cell?
    simp only []
    rw [h]
    exact ⟨rfl, rfl, rfl, rfl, rfl, rfl⟩
  · unfold World.frozen?
    simp only []
    rw [h]
    exact ⟨rfl, rfl, rfl, rfl, rfl, rfl⟩
/-- the cells of a mail's copy and of a result behind it, in a later world and behind what is laid next in it -/
theorem bothCells {W X Y : World} {c0 c1 c2 c3 c4 c5 z0 z1 z2 z3 z4 z5 : Value} {t s : TypeId} (hb : Below ((W.alloc (.cells #[c0, c1, c2, c3, c4, c5] t)).alloc (.cells #[z0, z1, z2, z3, z4, z5] s)).heap.size ((W.alloc (.cells #[c0, c1, c2, c3, c4, c5] t)).alloc (.cells #[z0, z1, z2, z3, z4, z5] s)) X) (hY : Below X.heap.size X Y) :
    (Y.cell? ⟨W.heap.size, 0, none⟩ = some c0 ∧ Y.cell? ⟨W.heap.size, 1, none⟩ = some c1 ∧ Y.cell? ⟨W.heap.size, 2, none⟩ = some c2 ∧ Y.cell? ⟨W.heap.size, 3, none⟩ = some c3 ∧ Y.cell? ⟨W.heap.size, 4, none⟩ = some c4 ∧ Y.cell? ⟨W.heap.size, 5, none⟩ = some c5) ∧
    (Y.cell? ⟨W.heap.size + 1, 0, none⟩ = some z0 ∧ Y.cell? ⟨W.heap.size + 1, 1, none⟩ = some z1 ∧ Y.cell? ⟨W.heap.size + 1, 2, none⟩ = some z2 ∧ Y.cell? ⟨W.heap.size + 1, 3, none⟩ = some z3 ∧ Y.cell? ⟨W.heap.size + 1, 4, none⟩ = some z4 ∧ Y.cell? ⟨W.heap.size + 1, 5, none⟩ = some z5) ∧
    (Y.frozen? ⟨W.heap.size + 1, 0, none⟩ = false ∧ Y.frozen? ⟨W.heap.size + 1, 1, none⟩ = false ∧ Y.frozen? ⟨W.heap.size + 1, 2, none⟩ = false ∧ Y.frozen? ⟨W.heap.size + 1, 3, none⟩ = false ∧ Y.frozen? ⟨W.heap.size + 1, 4, none⟩ = false ∧ Y.frozen? ⟨W.heap.size + 1, 5, none⟩ = false) := by
  have h := hb.trans (hY.mono hb.size)
  have h2 := resCells h
  exact ⟨boxCells (Below.trans (below_alloc (Below.refl _ _) _) (h.mono (by simp))), h2.1, h2.2.1⟩
def sixC (X : World) (b : Nat) (v0 v1 v2 v3 v4 v5 : Value) : World := (((((X.setCell ⟨b, 0, none⟩ v0).setCell ⟨b, 1, none⟩ v1).setCell ⟨b, 2, none⟩ v2).setCell ⟨b, 3, none⟩ v3).setCell ⟨b, 4, none⟩ v4).setCell ⟨b, 5, none⟩ v5
theorem sixOther (X : World) {b k : Nat} (v0 v1 v2 v3 v4 v5 : Value) (h : k ≠ b) : (sixC X b v0 v1 v2 v3 v4 v5).heap[k]? = X.heap[k]? := by
  unfold sixC
  iterate 6 rw [heap_setCell_other _ _ _ _ h]
theorem sixBelow {W X : World} {b : Nat} (v0 v1 v2 v3 v4 v5 : Value) (h : Below W.heap.size W X) (hb : W.heap.size ≤ b) : Below W.heap.size W (sixC X b v0 v1 v2 v3 v4 v5) := by
  unfold sixC
  iterate 6 refine Below.setCell ?_ hb _
  exact h
theorem sixNames {X : World} {b : Nat} {v0 v1 v2 v3 v4 v5 : Value} {A : Option Addr} {l : List Nm} (h : NamesAt X A l) (hA : ∀ a, A = some a → a.block ≠ b) : NamesAt (sixC X b v0 v1 v2 v3 v4 v5) A l := by
  intro j hj
  obtain ⟨ad, e, hc, hl⟩ := h j hj
  refine ⟨ad, e, ?_, hl⟩
  have hne : (ad.add j).block ≠ b := by have := hA ad e; unfold Addr.add; split <;> simpa using this
  exact (World.cell?_of_block (sixOther X _ _ _ _ _ _ hne)).trans hc
theorem sixReads {X : World} {b : Nat} {v0 v1 v2 v3 v4 v5 : Value} {A : Option Addr} {n : Nat} {xs : List Int} (h : ReadsInt X .u8 A n xs) (hA : ∀ a, A = some a → a.block ≠ b) : ReadsInt (sixC X b v0 v1 v2 v3 v4 v5) .u8 A n xs := by
  obtain ⟨h1, h2, h3⟩ := h
  refine ⟨h1, h2, fun h0 => ?_⟩
  obtain ⟨ad, e, hc⟩ := h3 h0
  refine ⟨ad, e, fun j hj => ?_⟩
  have hne : (ad.add j).block ≠ b := by have := hA ad e; unfold Addr.add; split <;> simpa using this
  exact (World.cell?_of_block (sixOther X _ _ _ _ _ _ hne)).trans (hc j hj)
theorem sixCells {X : World} {b : Nat} {u0 u1 u2 u3 u4 u5 : Value} (v0 v1 v2 v3 v4 v5 : Value) (h0 : X.cell? ⟨b, 0, none⟩ = some u0) (h1 : X.cell? ⟨b, 1, none⟩ = some u1) (h2 : X.cell? ⟨b, 2, none⟩ = some u2) (h3 : X.cell? ⟨b, 3, none⟩ = some u3) (h4 : X.cell? ⟨b, 4, none⟩ = some u4) (h5 : X.cell? ⟨b, 5, none⟩ = some u5) :
    (sixC X b v0 v1 v2 v3 v4 v5).cell? ⟨b, 0, none⟩ = some v0 ∧ (sixC X b v0 v1 v2 v3 v4 v5).cell? ⟨b, 1, none⟩ = some v1 ∧ (sixC X b v0 v1 v2 v3 v4 v5).cell? ⟨b, 2, none⟩ = some v2 ∧ (sixC X b v0 v1 v2 v3 v4 v5).cell? ⟨b, 3, none⟩ = some v3 ∧ (sixC X b v0 v1 v2 v3 v4 v5).cell? ⟨b, 4, none⟩ = some v4 ∧ (sixC X b v0 v1 v2 v3 v4 v5).cell? ⟨b, 5, none⟩ = some v5 := by
  have o : ∀ {W : World} {i j : Nat} {v : Value}, i ≠ j → (W.setCell ⟨b, i, none⟩ v).cell? ⟨b, j, none⟩ = W.cell? ⟨b, j, none⟩ := fun h => World.cell?_setCell_other _ _ _ _ (by simp [h])
  unfold sixC
  refine ⟨?_, ?_, ?_, ?_, ?_, ?_⟩
  · exact ((o (i := 5) (j := 0) (by decide)).trans ((o (i := 4) (j := 0) (by decide)).trans ((o (i := 3) (j := 0) (by decide)).trans ((o (i := 2) (j := 0) (by decide)).trans ((o (i := 1) (j := 0) (by decide)).trans (World.cell?_setCell_same _ _ _ h0))))))
  · exact ((o (i := 5) (j := 1) (by decide)).trans ((o (i := 4) (j := 1) (by decide)).trans ((o (i := 3) (j := 1) (by decide)).trans ((o (i := 2) (j := 1) (by decide)).trans (World.cell?_setCell_same _ _ _ ((o (i := 0) (j := 1) (by decide)).trans h1))))))
  · exact ((o (i := 5) (j := 2) (by decide)).trans ((o (i := 4) (j := 2) (by decide)).trans ((o (i := 3) (j := 2) (by decide)).trans (World.cell?_setCell_same _ _ _ ((o (i := 1) (j := 2) (by decide)).trans ((o (i := 0) (j := 2) (by decide)).trans h2))))))
  · exact ((o (i := 5) (j := 3) (by decide)).trans ((o (i := 4) (j := 3) (by decide)).trans (World.cell?_setCell_same _ _ _ ((o (i := 2) (j := 3) (by decide)).trans ((o (i := 1) (j := 3) (by decide)).trans ((o (i := 0) (j := 3) (by decide)).trans h3))))))
  · exact ((o (i := 5) (j := 4) (by decide)).trans (World.cell?_setCell_same _ _ _ ((o (i := 3) (j := 4) (by decide)).trans ((o (i := 2) (j := 4) (by decide)).trans ((o (i := 1) (j := 4) (by decide)).trans ((o (i := 0) (j := 4) (by decide)).trans h4))))))
  · exact (World.cell?_setCell_same _ _ _ ((o (i := 4) (j := 5) (by decide)).trans ((o (i := 3) (j := 5) (by decide)).trans ((o (i := 2) (j := 5) (by decide)).trans ((o (i := 1) (j := 5) (by decide)).trans ((o (i := 0) (j := 5) (by decide)).trans h5))))))
theorem infoMail : (Tryd.prog.info? 40).map (fun i => i.size) = some 6 := by kernel_rfl
theorem resMail {fn : Func} {a t : Tmp} (h : fn.results = #[.cell a 40, .tmp t]) (tmps : Array Value) {w : World} {b : Nat} {v0 v1 v2 v3 v4 v5 : Value} (ha : tmps.getD a undef = .pointer (some ⟨b, 0, none⟩))
    (hc : w.cell? ⟨b, 0, none⟩ = some v0 ∧ w.cell? ⟨b, 1, none⟩ = some v1 ∧ w.cell? ⟨b, 2, none⟩ = some v2 ∧ w.cell? ⟨b, 3, none⟩ = some v3 ∧ w.cell? ⟨b, 4, none⟩ = some v4 ∧ w.cell? ⟨b, 5, none⟩ = some v5) :
    (results fn tmps).run Tryd.prog w = .ok (.tuple #[.agg #[v0, v1, v2, v3, v4, v5], tmps.getD t undef]) w := by
  obtain ⟨h0, h1, h2, h3, h4, h5⟩ := hc
  obtain ⟨i, hi, hs⟩ := Option.map_eq_some_iff.1 infoMail
  have hu := run_underlying (P := Tryd.prog) Tryd.underlying40
  have ha' : tmps[a]?.getD undef = .pointer (some ⟨b, 0, none⟩) := by simpa using ha
  simp only [results, h]
  simp [ha', asAddr, loadVar, isAgg, hu, sizeOf, typeInfo, hi, hs, loadCells, loadCellsFrom, h0, h1, h2, h3, h4, h5, go_sem]
theorem cellNew' {W X : World} {o : Obj} (h : Below (W.alloc o).drew.heap.size (W.alloc o).drew X) : X.heap[W.heap.size]? = some o := (h.block W.heap.size (by show W.heap.size < (W.alloc o).heap.size; simp)).trans (heap_alloc_new W o)
theorem makeDone {W X : World} (b : Nat) (hX : Below W.heap.size W X) {g : Nat} {s u : List UInt8} {t : TypeId} {fr : Nat × Nat} {id born : Int} (hg : X.heap[g]? = some (.cells #[.string (S s)] t fr)) (hgb : g ≠ b) {g5 c5 : Nat} (hr : ReadsInt X .u8 (some ⟨g5, 0, none⟩) (B u).length (B u)) (hA : g5 ≠ b) (hs : s.length ≤ 140737488351232) :
    MailAt (sixC X b (.int .i64 0) (.int .i64 id) (.int .i64 born) (.string ⟨#[]⟩) (.slice (some ⟨g, 0, none⟩) 1 1) (.slice (some ⟨g5, 0, none⟩) u.length c5)) (.agg #[.int .i64 0, .int .i64 id, .int .i64 born, .string ⟨#[]⟩, .slice (some ⟨g, 0, none⟩) 1 1, .slice (some ⟨g5, 0, none⟩) u.length c5]) ⟨0, id, born, [], [s], u⟩ := by
  refine ⟨some ⟨g, 0, none⟩, 1, some ⟨g5, 0, none⟩, c5, rfl, by simp, by simp, sixNames (fun j hj => ?_) (fun a e => by cases e; exact hgb), sixReads hr (fun a e => by cases e; exact hA)⟩
  have hj1 : j < 1 := hj
  obtain rfl : j = 0 := by omega
  refine ⟨_, rfl, ?_, hs⟩
  have e : (⟨g, 0, none⟩ : Addr).add 0 = ⟨g, 0, none⟩ := rfl
  rw [e]
  unfold World.cell?
  simp only []
  rw [hg]
  rfl
theorem FatesAt.below {w W : World} {A : Option Addr} {l : List Int} (h : FatesAt w A l) (hb : Below w.heap.size w W) : FatesAt W A l := by
  intro j hj
  obtain ⟨ad, a, b, c, o, e, hc⟩ := h j hj
  refine ⟨ad, a, b, c, o, e, fun i hi => ?_⟩
  have h1 := hc i hi
  cases hv : (#[Value.int .i64 l[j], .int .i64 a, .int .i64 b, .int .i64 c, .bool o] : Array Value)[i]? with
  | none =>
    have : (#[Value.int .i64 l[j], .int .i64 a, .int .i64 b, .int .i64 c, .bool o] : Array Value).size ≤ i := Array.getElem?_eq_none_iff.1 hv
    simp at this
    omega
  | some x =>
    rw [hv] at h1
    exact (World.cell?_of_block (hb.block _ (World.block_lt_of_cell? _ _ h1))).trans h1
theorem MailAt.below {w W : World} {v : Value} {m : MailD} (h : MailAt w v m) (hb : Below w.heap.size w W) : MailAt W v m := by
  obtain ⟨A, c, Q, q, rfl, hs, hr, hn, hbd⟩ := h
  exact ⟨A, c, Q, q, rfl, hs, hr, hn.below hb, readsBelow hbd hb⟩
set_option maxHeartbeats 10000000 in
set_option maxRecDepth 100000 in
theorem makeIs {w : World} {v : Value} (m : MailD) (h : MailAt w v m) (F : Option Addr) (c : Nat) (l : List Int) (hl : FatesAt w F l) (hok : TextOk m l) (hG : GI w) (born : Int) (W : World) (hW : Below w.heap.size w W) :
    Calls Tryd.prog 17 #[v, .slice F l.length c, .int .i64 born] W fun e W' => ∃ v', e = .returned (.tuple #[v', .bool (comesB m l)]) ∧ MailAt W' v' (makeD m l born) ∧ Below W.heap.size W W' := by
  have XT := fun (X : World) (hX : Below W.heap.size W X) => textIs m h F c l hl hok hG X (chain' hW hX)
  have XC := fun (X : World) (hX : Below W.heap.size W X) => containsFates F c l X (FatesAt.below hl (chain' hW hX)) (by have := hok.n; omega)
  obtain ⟨A, cc, Q, q, rfl, hs, hr, hn, hb⟩ := h
  have HXT := Aside0.mk XT
  have HXC := Aside0.mk XC
  have HOK := Aside0.mk hok
  have HB0 := Aside0.mk (Below.refl W.heap.size W)
  have hln : l.length ≤ 8 := hok.n
  clear XT XC hn hl hok hb hG hW
  by_cases hsd : m.sender = []
  · have e : comesB m l = false := by unfold comesB; rw [hsd]; rfl
    have e2 : makeD m l born = zeroM := by unfold makeD; rw [e]; rfl
    rw [e, e2, hsd]
    clear e e2
    go_enter Tryd.func17, Tryd.ntmps17
    go_wp2
    refine bodyPost_ret (resMail rfl _ rfl (resCells (Below.refl _ _)).1) rfl ?_
    exact ⟨_, rfl, zeroAt _, below_alloc (below_alloc HB0.out _) _⟩
  · have hne : (m.sender == ([] : List UInt8)) = false := by simpa using hsd
    have HC0 := Aside0.mk (show comesB m l = (l.any fun s => s == 2) by unfold comesB; rw [hne]; rfl)
    obtain ⟨b, hb⟩ : ∃ b, (l.any fun s => s == 2) = b := ⟨_, rfl⟩
    rw [hb] at HC0 HXC
    clear hb hsd
    rw [HC0.out]
    cases b with
    | false =>
      have e2 : makeD m l born = zeroM := by unfold makeD; rw [HC0.out]; rfl
      rw [e2]
      clear e2
      go_enter Tryd.func17, Tryd.ntmps17
      go_wp2_with (go_at_call 24; refine (HXC.out _ (below_alloc (below_alloc HB0.out _) _)).mono ?_; rintro e W3 ⟨rfl, hb⟩; have HB3 := Aside0.mk hb; obtain ⟨⟨k0, k1, k2, k3, k4, k5⟩, ⟨f0, f1, f2, f3, f4, f5⟩, hsz⟩ := resCells hb; clear hb)
      refine bodyPost_ret (resMail rfl _ rfl (sixCells _ _ _ _ _ _ k0 k1 k2 k3 k4 k5)) rfl ?_
      exact ⟨_, rfl, zeroAt _, sixBelow _ _ _ _ _ _ (chain' (below_alloc (below_alloc HB0.out _) _) HB3.out) (Nat.le_succ _)⟩
    | true =>
      have hmk : makeD m l born = ⟨0, m.id, clampI born, [], [m.sender], textB m l⟩ := by unfold makeD; rw [HC0.out, if_pos rfl]
      rw [hmk]
      clear hmk
      go_enter Tryd.func17, Tryd.ntmps17
      go_wp2_with (go_at_call 24; refine (HXC.out _ (below_alloc (below_alloc HB0.out _) _)).mono ?_; rintro e W3 ⟨rfl, hb⟩; have HALL := Aside0.mk (fun Y hY => bothCells (Y := Y) hb hY); have HB3 := Aside0.mk hb; have hsz := hb.size; clear hb)
      have HBW := Aside0.mk (chain' (below_alloc (below_alloc HB0.out _) _) HB3.out)
      obtain ⟨⟨m0, m1, m2, m3, m4, m5⟩, -, -⟩ := HALL.out W3 (Below.refl _ _)
      clear hsz
      have n0 := fun o => (HALL.out (W3.alloc o) (below_alloc (Below.refl _ _) o)).1.1
      have n1 := fun o => (HALL.out (W3.alloc o) (below_alloc (Below.refl _ _) o)).1.2.1
      have n2 := fun o => (HALL.out (W3.alloc o) (below_alloc (Below.refl _ _) o)).1.2.2.1
      have n3 := fun o => (HALL.out (W3.alloc o) (below_alloc (Below.refl _ _) o)).1.2.2.2.1
      have n4 := fun o => (HALL.out (W3.alloc o) (below_alloc (Below.refl _ _) o)).1.2.2.2.2.1
      have n5 := fun o => (HALL.out (W3.alloc o) (below_alloc (Below.refl _ _) o)).1.2.2.2.2.2
      go_region_held3 (fun X => X.cell? ⟨W.heap.size, 0, none⟩ = some (Value.int .i64 m.id) ∧ X.cell? ⟨W.heap.size, 1, none⟩ = some (Value.int .i64 m.par) ∧ X.cell? ⟨W.heap.size, 2, none⟩ = some (Value.int .i64 m.born) ∧ X.cell? ⟨W.heap.size, 3, none⟩ = some (Value.string (S m.sender)) ∧ X.cell? ⟨W.heap.size, 4, none⟩ = some (Value.slice A m.rcpts.length cc) ∧ X.cell? ⟨W.heap.size, 5, none⟩ = some (Value.slice Q m.body.length q))
        (first | (with_reducible exact ⟨m0, m1, m2, m3, m4, m5⟩) | (with_reducible exact ⟨n0 _, n1 _, n2 _, n3 _, n4 _, n5 _⟩) | (with_reducible exact ⟨p0, p1, p2, p3, p4, p5⟩) | (with_reducible exact ⟨t0 _, t1 _, t2 _, t3 _, t4 _, t5 _⟩) | go_keep)
        (first
          | (go_at_call 26; refine (satClamp born _).mono ?_; rintro e X ⟨rfl, rfl⟩)
          | (go_at_call 18; refine (HXT.out _ (by repeat (first | exact HBW.out | apply below_drew1 | refine below_alloc ?_ _))).mono ?_; rintro e W5 ⟨g5, c5, hg5, rfl, hr5, hb5⟩; have HR5 := Aside0.mk hr5; have HG5 := Aside0.mk hg5; have HX5 := Aside0.mk hb5; have HB5 := Aside0.mk (chain' (W := W3) (by repeat (first | exact Below.refl _ _ | apply below_drew1 | refine below_alloc ?_ _)) hb5); clear hr5 hb5 hg5; obtain ⟨⟨p0, p1, p2, p3, p4, p5⟩, ⟨q0, q1, q2, q3, q4, q5⟩, ⟨g0, g1, g2, g3, g4, g5⟩⟩ := HALL.out W5 HB5.out; have t0 := fun o => (HALL.out (W5.alloc o) (below_alloc HB5.out o)).1.1; have t1 := fun o => (HALL.out (W5.alloc o) (below_alloc HB5.out o)).1.2.1; have t2 := fun o => (HALL.out (W5.alloc o) (below_alloc HB5.out o)).1.2.2.1; have t3 := fun o => (HALL.out (W5.alloc o) (below_alloc HB5.out o)).1.2.2.2.1; have t4 := fun o => (HALL.out (W5.alloc o) (below_alloc HB5.out o)).1.2.2.2.2.1; have t5 := fun o => (HALL.out (W5.alloc o) (below_alloc HB5.out o)).1.2.2.2.2.2; have r0 := fun o => (HALL.out (W5.alloc o) (below_alloc HB5.out o)).2.1.1; have r1 := fun o => (HALL.out (W5.alloc o) (below_alloc HB5.out o)).2.1.2.1; have r2 := fun o => (HALL.out (W5.alloc o) (below_alloc HB5.out o)).2.1.2.2.1; have r3 := fun o => (HALL.out (W5.alloc o) (below_alloc HB5.out o)).2.1.2.2.2.1; have r4 := fun o => (HALL.out (W5.alloc o) (below_alloc HB5.out o)).2.1.2.2.2.2.1; have r5 := fun o => (HALL.out (W5.alloc o) (below_alloc HB5.out o)).2.1.2.2.2.2.2; have s0 := fun o => (HALL.out (W5.alloc o) (below_alloc HB5.out o)).2.2.1; have s1 := fun o => (HALL.out (W5.alloc o) (below_alloc HB5.out o)).2.2.2.1; have s2 := fun o => (HALL.out (W5.alloc o) (below_alloc HB5.out o)).2.2.2.2.1; have s3 := fun o => (HALL.out (W5.alloc o) (below_alloc HB5.out o)).2.2.2.2.2.1; have s4 := fun o => (HALL.out (W5.alloc o) (below_alloc HB5.out o)).2.2.2.2.2.2.1; have s5 := fun o => (HALL.out (W5.alloc o) (below_alloc HB5.out o)).2.2.2.2.2.2.2))
      all_goals
        go_wp2
        first
        | (refine bodyPost_ret (resMail rfl _ rfl (sixCells _ _ _ _ _ _ q0 q1 q2 q3 q4 q5)) rfl ?_
           exact ⟨_, rfl, makeDone _ (chain' HBW.out HB5.out) (cellNew' HX5.out) (by have := HB3.out.size; simp at this; omega) HR5.out (by have := HG5.out; have := HB3.out.size; simp at *; omega) hs, sixBelow _ _ _ _ _ _ (chain' HBW.out HB5.out) (Nat.le_succ _)⟩)
        | (refine bodyPost_ret (resMail rfl _ rfl (sixCells _ _ _ _ _ _ (r0 _) (r1 _) (r2 _) (r3 _) (r4 _) (r5 _))) rfl ?_
           exact ⟨_, rfl, makeDone _ (below_alloc (chain' HBW.out HB5.out) _) (heap_alloc_new _ _) (by have := HB3.out.size; have := HB5.out.size; simp at *; omega) (readsBelow HR5.out (below_alloc (Below.refl _ _) _)) (by have := HG5.out; have := HB3.out.size; simp at *; omega) hs, sixBelow _ _ _ _ _ _ (below_alloc (chain' HBW.out HB5.out) _) (Nat.le_succ _)⟩)
end Go.Proofs.YthdjeikfbbdehaaDoor.Fs
