/- A disk that keeps within its room: what each call keeps. No program here. law04: FsRoom. -/
import Derived.Test.YtibmgcihpbofdaaFsDo
import Derived.Test.YtibmgcihpbofdaaFsLive
import Derived.Test.YtibmgcihpbofdaaFsList
import Derived.Test.YtibmgcihpbofdaaFsOps
namespace Go.Proofs.Ytibmgcihpbofdaa.Fs
open Go.RowKit Go.Proofs.YtibmgcihpbofdaaW.PrintWords Go.Proofs.Ytibmgcihpbofdaa.Plain
set_option linter.unusedVariables false
set_option linter.unusedSimpArgs false
def snds (d : Dir) : List Nat := d.map (·.2)
theorem ins_perm (p : Nm × Nat) (d : Dir) : (ins p d).Perm (p :: d) := by
  induction d with
  | nil => exact List.Perm.refl _
  | cons q r ih =>
    simp only [ins]
    split
    · exact List.Perm.refl _
    · exact (List.Perm.cons _ ih).trans (List.Perm.swap _ _ _)
theorem put_perm (d : Dir) (n : Nm) (x : Nat) : (put d n x).Perm ((n, x) :: del d n) := ins_perm _ _
theorem del_perm {d d' : Dir} (h : d.Perm d') (n : Nm) : (del d n).Perm (del d' n) := h.filter _
theorem del_put_perm (d : Dir) {a b : Nm} (h : b ≠ a) (x : Nat) : (del (put d b x) a).Perm ((b, x) :: del (del d b) a) := by
  refine (del_perm (put_perm d b x) a).trans ?_
  have hp : (!((b, x).1 == a)) = true := by simpa using h
  show (List.filter (fun p => !(p.1 == a)) ((b, x) :: del d b)).Perm _
  rw [List.filter_cons, if_pos hp]
  exact List.Perm.refl _
theorem used_perm {f : Nat → List UInt8} {d d' : Dir} (h : d.Perm d') : used f d = used f d' := by
  induction h with
  | nil => rfl
  | cons x _ ih => show _ + used f _ = _ + used f _; rw [ih]
  | swap x y l => show _ + (_ + used f l) = _ + (_ + used f l); omega
  | trans _ _ h1 h2 => rw [h1, h2]
theorem used_del_mem {f : Nat → List UInt8} {d : Dir} {n : Nm} {x : Nat} (h : (n, x) ∈ d) : used f (del d n) + (f x).length ≤ used f d := by
  induction d with
  | nil => cases h
  | cons q r ih =>
    by_cases hq : q.1 = n
    · have e : del (q :: r) n = del r n := by unfold del; rw [List.filter_cons, if_neg (by simp [hq])]
      rw [e, used_cons]
      rcases List.mem_cons.1 h with rfl | h
      · have := used_del_le f r n
        show used f (del r n) + (f x).length ≤ (f x).length + _
        omega
      · have := ih h
        omega
    · have e : del (q :: r) n = q :: del r n := by unfold del; rw [List.filter_cons, if_pos (by simpa using hq)]
      rw [e, used_cons, used_cons]
      rcases List.mem_cons.1 h with rfl | h
      · exact absurd rfl hq
      · have := ih h
        omega
theorem length_del_mem {d : Dir} {n : Nm} {x : Nat} (h : (n, x) ∈ d) : (del d n).length + 1 ≤ d.length := by
  induction d with
  | nil => cases h
  | cons q r ih =>
    by_cases hq : q.1 = n
    · have e : del (q :: r) n = del r n := by unfold del; rw [List.filter_cons, if_neg (by simp [hq])]
      rw [e]
      have := length_del_le r n
      simp only [List.length_cons]
      omega
    · have e : del (q :: r) n = q :: del r n := by unfold del; rw [List.filter_cons, if_pos (by simpa using hq)]
      rw [e]
      rcases List.mem_cons.1 h with rfl | h
      · exact absurd rfl hq
      · have := ih h
        simp only [List.length_cons]
        omega
theorem snds_perm {d d' : Dir} (h : d.Perm d') : (snds d).Nodup ↔ (snds d').Nodup := (show (snds d).Perm (snds d') from List.Perm.map _ h).nodup_iff
theorem snds_del_sub (d : Dir) (n : Nm) : (snds (del d n)).Sublist (snds d) := List.Sublist.map _ List.filter_sublist
theorem mem_snds {d : Dir} {x : Nat} : x ∈ snds d ↔ ∃ n, (n, x) ∈ d := by simp [snds]
theorem snds_inj {d : Dir} (h : (snds d).Nodup) {a b : Nm} {x : Nat} (ha : (a, x) ∈ d) (hb : (b, x) ∈ d) : a = b := by
  induction d with
  | nil => cases ha
  | cons q r ih =>
    have h1 : q.2 ∉ snds r ∧ (snds r).Nodup := List.nodup_cons.1 h
    rcases List.mem_cons.1 ha with e | ha
    · rcases List.mem_cons.1 hb with e' | hb
      · rw [← e'] at e; exact (Prod.mk.inj e).1
      · exact absurd (mem_snds.2 ⟨b, by rw [← e]; exact hb⟩) h1.1
    · rcases List.mem_cons.1 hb with e' | hb
      · exact absurd (mem_snds.2 ⟨a, by rw [← e']; exact ha⟩) h1.1
      · exact ih h1.2 ha hb
theorem used_setAt_out {f : Nat → List UInt8} {d : Dir} {x : Nat} (v : List UInt8) (h : x ∉ snds d) : used (setAt f x v) d = used f d := by
  induction d with
  | nil => rfl
  | cons q r ih =>
    have h1 : x ≠ q.2 ∧ x ∉ snds r := by
      constructor
      · intro e; exact h (by simp [snds, e])
      · intro e; exact h (by simp only [snds, List.map_cons, List.mem_cons]; exact .inr e)
    rw [used_cons, used_cons, ih h1.2, setAt_other _ _ (fun e => h1.1 e.symm)]
theorem used_setAt {f : Nat → List UInt8} {d : Dir} (hd : (snds d).Nodup) {n : Nm} {x : Nat} (v : List UInt8) (h : (n, x) ∈ d) : used (setAt f x v) d + (f x).length = used f d + v.length := by
  induction d with
  | nil => cases h
  | cons q r ih =>
    have h1 : q.2 ∉ snds r ∧ (snds r).Nodup := List.nodup_cons.1 hd
    rw [used_cons, used_cons]
    rcases List.mem_cons.1 h with e | h
    · subst e
      rw [setAt_same, used_setAt_out v h1.1]
      show v.length + used f r + (f x).length = (f x).length + used f r + v.length
      omega
    · have hne : q.2 ≠ x := fun e => h1.1 (by rw [e]; exact mem_snds.2 ⟨n, h⟩)
      rw [setAt_other _ _ hne]
      have := ih h1.2 h
      omega
/-- within its room, and with a file a name -/
def Fit (size : Int) (d : Disk) : Prop := On d ∧ d.room = size ∧ (used d.bytes d.now : Int) ≤ size ∧ d.now.length ≤ 256 ∧ (snds d.now).Nodup ∧ ∀ p ∈ d.now, rightB p.1 = true
theorem ready_names {d : Disk} {ns : List Nm} (h : d.ready ns = 0) : ∀ n ∈ ns, rightB n = true := by
  intro n hn
  unfold Disk.ready at h
  split at h
  · cases h
  · rename_i h1
    cases hb : rightB n with
    | true => rfl
    | false => exact absurd (List.any_eq_true.2 ⟨n, hn, by simp [hb]⟩) h1
theorem fit_fresh {size : Int} (h0 : 0 ≤ size) (h1 : size ≤ 16777216) : Fit size (Disk.fresh size) :=
  ⟨⟨rfl, rfl⟩, by show min (max size 0) 16777216 = size; omega, by show ((0 : Nat) : Int) ≤ size; omega, by show 0 ≤ 256; omega, List.nodup_nil, fun p hp => by cases hp⟩
theorem ready_err {d : Disk} (h : On d) {ns : List Nm} (hr : d.ready ns ≠ 0) : d.ready ns = 1 := by
  unfold Disk.ready at hr ⊢
  split
  · rfl
  · rename_i h1
    rw [if_neg h1, h.1] at hr
    exact absurd rfl hr
theorem fit_same {size : Int} {d : Disk} (h : Fit size d) (b : Nat → List UInt8) (f : Nat → Nat) (hb : b = d.bytes) : Fit size { d with bytes := b, firm := f } := by
  subst hb
  exact h
theorem fit_create {size : Int} {d : Disk} (h : Fit size d) {x : Nat} (hx : ¬ d.has x) (n : Nm) : Fit size (d.create x n).2 ∧ ((d.create x n).1 ≠ 0 → (d.create x n).2 = d) := by
  obtain ⟨h1, h2, h3, h4, h5, h6⟩ := h
  have hxn : x ∉ snds d.now := fun e => by
    obtain ⟨m, hm⟩ := mem_snds.1 e
    exact hx (has_now hm)
  unfold Disk.create
  split
  · exact ⟨⟨h1, h2, h3, h4, h5, h6⟩, fun _ => rfl⟩
  · rename_i hr0
    have hr := ready_names (Decidable.not_not.1 hr0)
    split
    · exact ⟨⟨h1, h2, h3, h4, h5, h6⟩, fun _ => rfl⟩
    · split
      · exact ⟨⟨h1, h2, h3, h4, h5, h6⟩, fun _ => rfl⟩
      · rename_i hg hl
        rw [on_change (d := { d with bytes := setAt d.bytes x [], firm := setAt d.firm x 0 }) h1]
        refine ⟨⟨h1, h2, ?_, ?_, ?_, ?_⟩, fun e => absurd rfl e⟩
        · rw [now_snoc]
          show (used (setAt d.bytes x []) (put d.now n x) : Int) ≤ size
          have := used_put_le (setAt d.bytes x []) d.now n x
          rw [setAt_same, used_setAt_out [] hxn] at this
          simp only [List.length_nil, Nat.zero_add] at this
          omega
        · rw [now_snoc]
          show (put d.now n x).length ≤ 256
          have := length_put_le d.now n x
          omega
        · rw [now_snoc]
          show (snds (put d.now n x)).Nodup
          refine (snds_perm (put_perm d.now n x)).2 ?_
          exact List.nodup_cons.2 ⟨fun e => hxn ((snds_del_sub d.now n).subset e), h5.sublist (snds_del_sub d.now n)⟩
        · rw [now_snoc]
          intro p hp
          rcases mem_put.1 hp with rfl | ⟨hp, _⟩
          · exact hr n (by simp)
          · exact h6 p hp
theorem fit_append {size : Int} {d : Disk} (h : Fit size d) (n : Nm) (u : List UInt8) : Fit size (d.append n u).2 ∧ ((d.append n u).1 ≠ 0 → (d.append n u).2 = d) := by
  obtain ⟨h1, h2, h3, h4, h5, h6⟩ := h
  unfold Disk.append
  split
  · exact ⟨⟨h1, h2, h3, h4, h5, h6⟩, fun _ => rfl⟩
  · cases hg : get d.now n with
    | none => exact ⟨⟨h1, h2, h3, h4, h5, h6⟩, fun _ => rfl⟩
    | some x =>
      simp only []
      split
      · exact ⟨⟨h1, h2, h3, h4, h5, h6⟩, fun _ => rfl⟩
      · rename_i hroom
        rw [on_power h1, if_pos rfl]
        refine ⟨⟨h1, h2, ?_, h4, h5, h6⟩, fun e => absurd rfl e⟩
        show (used (setAt d.bytes x (d.bytes x ++ u)) d.now : Int) ≤ size
        have := used_setAt (f := d.bytes) h5 (d.bytes x ++ u) (get_mem hg)
        rw [List.length_append] at this
        rw [h2] at hroom
        omega
theorem fit_sync {size : Int} {d : Disk} (h : Fit size d) (n : Nm) : Fit size (d.sync n).2 ∧ ((d.sync n).1 ≠ 0 → (d.sync n).2 = d) := by
  unfold Disk.sync
  split
  · exact ⟨h, fun _ => rfl⟩
  · cases hg : get d.now n with
    | none => exact ⟨h, fun _ => rfl⟩
    | some x =>
      simp only []
      rw [on_power h.1, if_pos rfl]
      exact ⟨h, fun e => absurd rfl e⟩
theorem fit_rename {size : Int} {d : Disk} (h : Fit size d) (a b : Nm) : Fit size (d.rename a b).2 ∧ ((d.rename a b).1 ≠ 0 → (d.rename a b).2 = d) := by
  unfold Disk.rename
  split
  · exact ⟨h, fun _ => rfl⟩
  · rename_i hr0
    have hr := ready_names (Decidable.not_not.1 hr0)
    cases hg : get d.now a with
    | none => exact ⟨h, fun _ => rfl⟩
    | some x =>
      simp only []
      split
      · rw [on_power h.1]; exact ⟨h, fun _ => rfl⟩
      · rename_i hab
        obtain ⟨h1, h2, h3, h4, h5, h6⟩ := h
        rw [on_change h1]
        have hm := get_mem hg
        have hba : b ≠ a := fun e => hab e.symm
        have hm2 : (a, x) ∈ del d.now b := mem_del.2 ⟨hm, hab⟩
        have hp : (Disk.now { d with loose := d.loose ++ [.rename a b] }).Perm ((b, x) :: del (del d.now b) a) := by
          rw [now_snoc]
          simp only [Chg.app, hg]
          exact del_put_perm d.now hba x
        refine ⟨⟨h1, h2, ?_, ?_, ?_, ?_⟩, fun e => absurd rfl e⟩
        · rw [used_perm hp]
          have e1 := used_del_mem (f := d.bytes) hm2
          have e2 := used_del_le d.bytes d.now b
          show (((d.bytes x).length + used d.bytes (del (del d.now b) a) : Nat) : Int) ≤ size
          omega
        · rw [hp.length_eq]
          have e1 := length_del_mem hm2
          have e2 := length_del_le d.now b
          simp only [List.length_cons]
          omega
        · refine (snds_perm hp).2 ?_
          have hs := (snds_del_sub (del d.now b) a).trans (snds_del_sub d.now b)
          refine List.nodup_cons.2 ⟨fun e => ?_, h5.sublist hs⟩
          obtain ⟨m, hmm⟩ := mem_snds.1 e
          have e1 := mem_del.1 hmm
          exact e1.2 (snds_inj h5 (mem_del.1 e1.1).1 hm)
        · intro p hp'
          rcases List.mem_cons.1 (hp.mem_iff.1 hp') with rfl | hp'
          · exact hr b (by simp)
          · exact h6 p (mem_del.1 (mem_del.1 hp').1).1
theorem fit_unlink {size : Int} {d : Disk} (h : Fit size d) (n : Nm) : Fit size (d.unlink n).2 ∧ ((d.unlink n).1 ≠ 0 → (d.unlink n).2 = d) := by
  unfold Disk.unlink
  split
  · exact ⟨h, fun _ => rfl⟩
  · cases hg : get d.now n with
    | none => exact ⟨h, fun _ => rfl⟩
    | some x =>
      obtain ⟨h1, h2, h3, h4, h5, h6⟩ := h
      simp only []
      rw [on_change h1]
      refine ⟨⟨h1, h2, ?_, ?_, ?_, ?_⟩, fun e => absurd rfl e⟩
      · rw [now_snoc]
        show (used d.bytes (del d.now n) : Int) ≤ size
        have := used_del_le d.bytes d.now n
        omega
      · rw [now_snoc]
        exact Nat.le_trans (length_del_le _ _) h4
      · rw [now_snoc]
        exact h5.sublist (snds_del_sub d.now n)
      · rw [now_snoc]
        intro p hp
        exact h6 p (mem_del.1 hp).1
theorem fit_dirSync {size : Int} {d : Disk} (h : Fit size d) : Fit size d.dirSync.2 ∧ (d.dirSync.1 ≠ 0 → d.dirSync.2 = d) := by
  rw [on_dirSync h.1]
  exact ⟨⟨h.1, h.2.1, h.2.2.1, h.2.2.2.1, h.2.2.2.2⟩, fun e => absurd rfl e⟩
theorem fit_act {size : Int} {d : Disk} (h : Fit size d) {x : Nat} {kind : Int} (hx : kind = 1 → ¬ d.has x) (a b : Nm) (u : List UInt8) : Fit size (d.act x kind a b u).2 ∧ ((d.act x kind a b u).1 ≠ 0 → (d.act x kind a b u).2 = d) := by
  unfold Disk.act
  split
  · rename_i e; exact fit_create h (hx e) a
  · split
    · exact fit_append h a u
    · split
      · exact fit_sync h a
      · split
        · exact fit_rename h a b
        · split
          · exact fit_unlink h a
          · split
            · exact fit_dirSync h
            · exact ⟨h, fun _ => rfl⟩
end Go.Proofs.Ytibmgcihpbofdaa.Fs
namespace Go.Proofs.Ytibmgcihpbofdaa.Fs
open Go.RowKit Go.Proofs.Ytibmgcihpbofdaa Go.Proofs.Ytibmgcihpbofdaa.Plain Go.Proofs.YtibmgcihpbofdaaW.PrintWords Go.Maps
set_option linter.unusedVariables false
set_option linter.unusedSimpArgs false
theorem right_length {n : Nm} (h : rightB n = true) : n.length ≤ 80 := by
  unfold rightB at h
  simp only [Bool.and_eq_true, decide_eq_true_eq] at h
  exact h.2.2
theorem fit_names {size : Int} {d : Disk} (h : Fit size d) : ∀ x ∈ names d.now, x.length ≤ 140737488351232 := fun x hx => by
  obtain ⟨y, hy⟩ := mem_names.1 hx
  have h1 : x.length ≤ 80 := right_length (h.2.2.2.2.2 _ hy)
  omega
/-- a list that is the law's own stays behind a call of the disk -/
theorem listStays {w0 Wb W1 W2 : World} {f N n : Nat} {d : Disk} {T T' : Nat → Prop} {v : Value} {e : TypeId} {xs : List Value} (h : FsAt w0 f d N T Wb) (ho : W1.ownsRow Wb.heap.size e 1 v n xs) (ht : Turn T W1 T' W2) : W2.ownsRow Wb.heap.size e 1 v n xs := by
  obtain ⟨bn, bs, vl, fs, vb, c⟩ := h
  refine own_move ho (fun k hk => ?_)
  have h1 := ho.lt k hk
  exact ht.2.2.1 k h1.2 (fun hT => by have := (c.mine k hT).2; omega)
theorem own_below {W X : World} {base n size : Nat} {v : Value} {e : TypeId} {xs : List Value} (h : W.ownsRow base e size v n xs) (hb : Below W.heap.size W X) : X.ownsRow base e size v n xs := own_move h (fun k hk => hb.block k (h.lt k hk).2)
set_option maxHeartbeats 1000000 in
set_option maxRecDepth 100000 in
theorem roomIn {w : World} (size : Int) (hs : 0 ≤ size ∧ size ≤ 255) (A' : Option Addr) (c' : Nat) (l : List OpD) (hl : l.length ≤ 80)
    (hops : ∀ j (hj : j < l.length), ∃ ad B' c', A' = some ad ∧ (∀ i, i < 6 → w.cell? (ad.add (j * 6 + i)) = (#[Value.int .i64 l[j].kind, .int .i64 l[j].n, .int .i64 l[j].m, .string (S l[j].a), .string (S l[j].b), .slice B' l[j].data.length c'] : Array Value)[i]?) ∧ (Lit.int .i64 l[j].kind).wf = true ∧ l[j].a.length ≤ 140737488351232 ∧ l[j].b.length ≤ 140737488351232 ∧ ReadsInt w .u8 B' (B l[j].data).length (B l[j].data)) :
    Calls Try.prog 7 #[.int .u8 size, .slice A' l.length c'] w fun e w' => e = .returned (.bool true) ∧ Below w.heap.size w w' := by
  have HB := Aside0.mk (Below.refl w.heap.size w)
  have HO := Aside0.mk hops
  have HS := Aside0.mk hs
  have hgt2 : ¬ (l.length : Int) > 80 := by omega
  have hwr : IntKind.i64.wrap size = size := IntWalk.i64_in _ (by omega)
  clear hops hs
  go_enter Try.func7, Try.ntmps7
  go_wp2_with (go_at_call 12; refine (new HB.out size).mono ?_; rintro e W0 ⟨f, T0, rfl, h0, -, -⟩; have H0 := Aside0.mk (show FsAny w f _ _ _ from ⟨_, h0⟩); clear h0)
  go_loopw [6, 7, 8, 9] (fun v6 v7 v8 v9 wr => ∃ (i : Nat) (d : Disk), i ≤ l.length ∧ v6 = .int .i64 i ∧ Aside0 (Fit size d) ∧ Aside0 (FsAny w f d (1001 * i) wr)) (fun v6 _ _ _ _ => l.length - (intOf v6).toNat)
  case atStart => exact ⟨0, Disk.fresh size, by omega, rfl, ⟨fit_fresh HS.out.1 (by have := HS.out.2; omega)⟩, ⟨fsAny_le H0.out (by omega)⟩⟩
  case round =>
    obtain ⟨i, d, hi, rfl, HF, HA⟩ := hrel
    clear H0
    by_cases hlt : i < l.length
    · obtain ⟨ad, B', cc, hA, hcells, hkw, hla, hlb, hrd⟩ := HO.out i hlt
      subst hA
      obtain ⟨T, hf⟩ := HA.out
      have HCE := Aside0.mk (fun X (hX : Below w.heap.size w X) => opCells hcells hX)
      obtain ⟨g0, g1, g2, g3, g4, g5⟩ := opCells hcells hf.below'
      obtain ⟨o, ho⟩ : ∃ o, l[i] = o := ⟨_, rfl⟩
      rw [ho] at g0 g1 g2 g3 g4 g5 hla hlb hrd HCE
      clear hkw hcells ho
      have HF1 := Aside0.mk hf
      have HLA := Aside0.mk hla
      have HLB := Aside0.mk hlb
      have HRD := Aside0.mk hrd
      clear hf hla hlb hrd
      by_cases k4 : (o.data.length : Int) > 1000
      · skip
        go_wp2
        go_roundw
        case rel => exact ⟨i + 1, d, by omega, by go_num, HF, ⟨fsAny_le HA.out (by omega)⟩⟩
        case measure => simp [intOf]; omega
      by_cases k3 : o.kind > 6
      · skip
        go_wp2
        go_roundw
        case rel => exact ⟨i + 1, d, by omega, by go_num, HF, ⟨fsAny_le HA.out (by omega)⟩⟩
        case measure => simp [intOf]; omega
      have k5 : o.data.length ≤ 1000 := by omega
      obtain ⟨U, hU⟩ : ∃ U, used d.bytes d.now = U := ⟨_, rfl⟩
      obtain ⟨L, hL⟩ : ∃ L, d.now.length = L := ⟨_, rfl⟩
      have HU := Aside0.mk hU
      have HL := Aside0.mk hL
      have hx1 : L ≤ 256 := by rw [← hL]; exact HF.out.2.2.2.1
      have hN : 1001 * i ≤ 90000 := by omega
      clear hU hL
      go_wp2_with (first
        | (go_at_call 25; refine (usedIs HF1.out (by omega)).mono ?_; rintro e W1 ⟨rfl, hb⟩; rw [HU.out]; have H1 := Aside0.mk (HF1.out.step hb); clear hb HF1 HA)
        | (go_at_call 24; refine (list H1.out (by omega) HF.out.1.1).mono ?_; rintro e W2 ⟨v2, rfl, hown, hb⟩; rw [HL.out] at hown; have H2 := Aside0.mk (H1.out.step hb); obtain ⟨A2, c2, rfl⟩ := own_slice hown; have HO2 := Aside0.mk hown; have HW1 := Aside0.mk H1.out; obtain ⟨g0, g1, g2, g3, g4, g5⟩ := HCE.out _ H2.out.below'; clear hown hb H1))
      refine (doAny H2.out o.kind o.n o.m o.a o.b HLA.out HLB.out o.data B' cc (by omega) (HRD.out.below H2.out.below')).mono ?_
      rintro e W3 ⟨y, hy, rfl, T3, h3, ht⟩
      have hfa := fit_act HF.out hy o.a o.b o.data
      obtain ⟨r, hr⟩ : ∃ r, (d.act y o.kind o.a o.b o.data).1 = r := ⟨_, rfl⟩
      obtain ⟨d3, hd3⟩ : ∃ d3, (d.act y o.kind o.a o.b o.data).2 = d3 := ⟨_, rfl⟩
      rw [hd3] at h3
      rw [hr, hd3] at hfa
      rw [hr]
      have HO3 := Aside0.mk (listStays HW1.out HO2.out ht)
      have H3 := Aside0.mk h3
      have HF3 := Aside0.mk hfa.1
      have HE3 := Aside0.mk hfa.2
      clear hr hd3 hy h3 ht hfa g0 g1 g2 g3 g4 g5 H2 HO2 HW1 HCE
      obtain ⟨U3, hU3⟩ : ∃ U3, used d3.bytes d3.now = U3 := ⟨_, rfl⟩
      obtain ⟨L3, hL3⟩ : ∃ L3, d3.now.length = L3 := ⟨_, rfl⟩
      have hx3 : L3 ≤ 256 := by rw [← hL3]; exact HF3.out.2.2.2.1
      have hx4 : ¬ (U3 : Int) > size := by rw [← hU3]; have := HF3.out.2.2.1; omega
      have hx5 : ¬ (L3 : Int) > 256 := by omega
      have HU3 := Aside0.mk hU3
      have HL3 := Aside0.mk hL3
      clear hU3 hL3
      by_cases h0 : r = 0
      · subst h0
        clear HE3
        go_wp2_with (first
          | (go_at_call 25; refine (usedIs H3.out (by omega)).mono ?_; rintro e W4 ⟨rfl, hb⟩; rw [HU3.out]; have H4 := Aside0.mk (H3.out.step hb); clear hb H3)
          | (go_at_call 24; refine (list H4.out (by omega) HF3.out.1.1).mono ?_; rintro e W5 ⟨v5, rfl, hown, hb⟩; rw [HL3.out] at hown; have H5 := Aside0.mk (H4.out.step hb); obtain ⟨A5, c5, rfl⟩ := own_slice hown; clear hown hb H4))
        go_roundw
        case rel => exact ⟨i + 1, d3, by omega, by go_num, HF3, ⟨fsAny_le ⟨_, H5.out⟩ (by omega)⟩⟩
        case measure => simp [intOf]; omega
      · have hd : d3 = d := HE3.out h0
        subst hd
        have hb0 : (r == 0) = false := by simpa using h0
        have hbn : (r != 0) = true := by simpa using h0
        have hUU : U3 = U := by rw [← HU3.out, HU.out]
        subst hUU
        have HNN := Aside0.mk (fit_names HF.out)
        clear HE3 h0
        go_wp2_with (first
          | (go_at_call 25; refine (usedIs H3.out (by omega)).mono ?_; rintro e W4 ⟨rfl, hb⟩; rw [HU3.out]; have H4 := Aside0.mk (H3.out.step hb); have HO4 := Aside0.mk (own_below HO3.out hb); clear hb H3 HO3)
          | (go_at_call 24; refine (list H4.out (by omega) HF3.out.1.1).mono ?_; rintro e W5 ⟨v5, rfl, hown, hb⟩; rw [HL3.out] at hown; have H5 := Aside0.mk (H4.out.step hb); have HO5 := Aside0.mk (own_below HO4.out hb); obtain ⟨A5, c5, rfl⟩ := own_slice hown; clear hown hb H4 HO4)
          | (go_at_call 25; refine (usedIs H5.out (by omega)).mono ?_; rintro e W6 ⟨rfl, hb⟩; rw [HU3.out]; have H6 := Aside0.mk (H5.out.step hb); have HO6 := Aside0.mk (own_below HO5.out hb); clear hb H5 HO5)
          | (go_at_call 24; refine (list H6.out (by omega) HF3.out.1.1).mono ?_; rintro e W7 ⟨v7, rfl, hown, hb⟩; rw [HL3.out] at hown; have H7 := Aside0.mk (H6.out.step hb); have HO7 := Aside0.mk (own_below HO6.out hb); obtain ⟨A7, c7, rfl⟩ := own_slice hown; have HP7 := Aside0.mk hown; clear hown hb H6 HO6)
          | (go_at_call 26; refine (texts (names_at HO7.out HNN.out).1 (names_at HP7.out HNN.out).1 (names_at HO7.out HNN.out).2 (names_at HP7.out HNN.out).2 (by omega) (by omega)).mono ?_; rintro e W8 ⟨rfl, hb⟩; rw [beq_self_eq_true]; have H8 := Aside0.mk (H7.out.step hb); clear hb H7))
        go_roundw
        case rel => exact ⟨i + 1, d3, by omega, by go_num, HF3, ⟨fsAny_le ⟨_, H8.out⟩ (by omega)⟩⟩
        case measure => simp [intOf]; omega
    · go_wp2_with (go_at_call 11; refine (answers _).mono ?_; rintro e X1 ⟨rfl, hb⟩; have HB9 := Aside0.mk hb; clear hb)
      go_ret
      obtain ⟨T, hf⟩ := HA.out
      exact ⟨rfl, chain' hf.below' HB9.out⟩
theorem fsRoom {w : World} (size : Int) (hs : (Lit.int .u8 size).wf = true) (v : Value) (ho : OpsOf w v) (hG : Glob w) :
    Calls Try.prog 7 #[.int .u8 size, v] w fun e w' => e = .returned (.bool true) ∧ Below w.heap.size w w' := by
  obtain ⟨A', c', l, rfl, hll, hops⟩ := ho
  have hs' : 0 ≤ size ∧ size ≤ 255 := by
    have e1 : IntKind.u8.min = 0 := rfl
    have e2 : IntKind.u8.max = 255 := rfl
    simp only [Lit.wf, e1, e2, Bool.and_eq_true, decide_eq_true_eq] at hs
    omega
  by_cases h : (l.length : Int) > 80
  · clear hops
    go_enter Try.func7, Try.ntmps7
    go_wp2_with (go_at_call 11; refine (answers _).mono ?_; rintro e X1 ⟨rfl, hb⟩; have HB9 := Aside0.mk hb; clear hb)
    go_ret
    exact ⟨rfl, HB9.out⟩
  · exact roomIn size hs' A' c' l (by omega) hops
end Go.Proofs.Ytibmgcihpbofdaa.Fs
