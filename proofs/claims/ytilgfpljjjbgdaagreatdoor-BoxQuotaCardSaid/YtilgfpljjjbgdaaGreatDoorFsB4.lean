/- words used by the laws of law04. FsAtomic's plain law. No program here. A disk with power and without a fuse: what each call does. No program here. fs: List with power; and Texts: are two lists of strings the same? -/
import Derived.Test.YtilgfpljjjbgdaaGreatDoorFsB3
namespace Go.Proofs.YtilgfpljjjbgdaaGreatDoor.Fs
open Go.RowKit Go.Proofs.YtilgfpljjjbgdaaGreatDoor Go.Proofs.YtilgfpljjjbgdaaGreatDoor.Plain Go.Proofs.YtilgfpljjjbgdaaGreatDoorW.PrintWords Go.Maps
set_option linter.unusedVariables false
set_option linter.unusedSimpArgs false
theorem chain' {W W1 W2 : World} (h : Below W.heap.size W W1) (h' : Below W1.heap.size W1 W2) : Below W.heap.size W W2 := h.trans (h'.mono h.size)
theorem convAny {w : World} {AA : Option Addr} {a : List UInt8} {n c : Nat} (h : ReadsInt w .u8 AA (B a).length (B a)) (hn : n = a.length) : (convert 27 9 (.slice AA n c)).run Tryz.prog w = .ok (.string (S a)) w := by
  subst hn
  have hC : Kd.C (Kd.int .u8) w AA (B a).length (B a) := Kd.C_of_reads (d := (0 : Int)) (h1 := fun _ => rfl) h
  have := Kd.C_string (P := Tryz.prog) (c := c) Tryz.underlying27 Tryz.underlying5 Tryz.underlying9 hC
  rw [B_length, strOfNums_B] at this
  exact this
theorem wfSmall {k : Int} (h : 0 ≤ k) (h' : k ≤ 255) : (Lit.int .i64 k).wf = true := by
  have e1 : IntKind.i64.min = -9223372036854775808 := rfl
  have e2 : IntKind.i64.max = 9223372036854775807 := rfl
  simp only [Lit.wf, e1, e2, Bool.and_eq_true, decide_eq_true_eq]
  omega
theorem FsAt.le' {w0 W : World} {f : Nat} {d : Disk} {N N' : Nat} {T : Nat → Prop} (h : FsAt w0 f d N T W) (hN : N ≤ N') : FsAt w0 f d N' T W := by
  obtain ⟨bn, bs, vl, fs, vb, c⟩ := h
  exact ⟨bn, bs, vl, fs, vb, c.le hN⟩
def FsAny (w0 : World) (f : Nat) (d : Disk) (N : Nat) (W : World) : Prop := ∃ T, FsAt w0 f d N T W
theorem fsAny_step {w0 W : World} {f i : Nat} {d : Disk} {T : Nat → Prop} (h : FsAt w0 f d (1 + 2 * i + [(1 : UInt8)].length + 1) T W) : FsAny w0 f d (1 + 2 * (i + 1)) W := by
  have e : 1 + 2 * (i + 1) = 1 + 2 * i + [(1 : UInt8)].length + 1 := by simp; omega
  rw [e]
  exact ⟨T, h⟩
theorem fsAny_le {w0 W : World} {f N N' : Nat} {d : Disk} (h : FsAny w0 f d N W) (hN : N ≤ N') : FsAny w0 f d N' W := by
  obtain ⟨T, h⟩ := h
  exact ⟨T, h.le' hN⟩
end Go.Proofs.YtilgfpljjjbgdaaGreatDoor.Fs
namespace Go.Proofs.YtilgfpljjjbgdaaGreatDoor.Fs
open Go.RowKit Go.Proofs.YtilgfpljjjbgdaaGreatDoorW.PrintWords Go.Proofs.YtilgfpljjjbgdaaGreatDoor.Plain
set_option linter.unusedVariables false
set_option linter.unusedSimpArgs false
section
variable {a b : Nm} {x y : Nat} {old young : List UInt8}
def XB (x : Nat) (old : List UInt8) (d : Disk) : Prop := d.bytes x = old ∧ d.firm x = old.length
/-- how a disk may stand -/
def Ok (a b : Nm) (x y : Nat) (old young : List UInt8) (d : Disk) : Prop :=
  (d.sure = [(b, x)] ∧ (d.loose = [] ∨ d.loose = [.create a y]) ∧ XB x old d) ∨ (d.sure = [(b, x)] ∧ d.loose = [.create a y, .rename a b] ∧ XB x old d ∧ XB y young d) ∨ ((∀ n, get d.sure n = if n = b then some y else none) ∧ d.loose = [] ∧ XB y young d)
theorem get_one (n m : Nm) (x : Nat) : get [(n, x)] m = if n = m then some x else none := by rw [get_cons, get_nil]
theorem take_small {α : Type} (l : List α) (k : Nat) : l.take k = [] ∨ ∃ j, l.take k = l.take (j + 1) := by
  cases k with
  | zero => exact .inl (by simp)
  | succ k => exact .inr ⟨k, rfl⟩
theorem crash_read {d : Disk} {n m : Int} {b : Nm} {x : Nat} {u : List UInt8} (hb : rightB b = true) (hX : XB x u d) (hg : get (apps d.sure (d.loose.take (min (max n 0) (d.loose.length : Int)).toNat)) b = some x) : (d.crash n m).read b = (u, 0) := by
  have hr : (d.crash n m).ready [b] = 0 := by
    unfold Disk.ready
    simp [hb, Disk.crash]
  have hn : (d.crash n m).now = apps d.sure (d.loose.take (min (max n 0) (d.loose.length : Int)).toNat) := rfl
  unfold Disk.read
  rw [if_neg (by omega), hn, hg]
  have hk : d.kept m x = u.length := by
    unfold Disk.kept
    rw [hX.1, hX.2]
    omega
  have he : (d.crash n m).bytes x = u := by
    show (if _ then _ else _) = u
    rw [hk, hX.1]
    split
    · simp
    · rfl
  simp only [he]
theorem ok_read {d : Disk} (h : Ok a b x y old young d) (hb : rightB b = true) (hab : a ≠ b) (n m : Int) : (d.crash n m).read b = (old, 0) ∨ (d.crash n m).read b = (young, 0) := by
  have hba : b ≠ a := fun e => hab e.symm
  rcases h with ⟨h1, h2, h3⟩ | ⟨h1, h2, h3, h4⟩ | ⟨h1, h2, h3⟩
  · refine .inl (crash_read hb h3 ?_)
    rw [h1]
    rcases h2 with h2 | h2
    · rw [h2]; simp [apps, get_one]
    · rw [h2]
      rcases take_small [Chg.create a y] (min (max n 0) ([Chg.create a y].length : Int)).toNat with e | ⟨j, e⟩
      · rw [e]; simp [apps, get_one]
      · rw [e]; simp [apps, Chg.app, get_put_other _ _ hba, get_one]
  · obtain ⟨j, hj⟩ : ∃ j, (min (max n 0) (d.loose.length : Int)).toNat = j := ⟨_, rfl⟩
    match j, hj with
    | 0, hj => exact .inl (crash_read hb h3 (by rw [hj, h1]; simp [apps, get_one]))
    | 1, hj => exact .inl (crash_read hb h3 (by rw [hj, h1, h2]; simp [apps, Chg.app, get_put_other _ _ hba, get_one]))
    | j + 2, hj =>
      refine .inr (crash_read (x := y) hb h4 ?_)
      rw [hj, h1, h2]
      have e : ([Chg.create a y, Chg.rename a b]).take (j + 2) = [Chg.create a y, Chg.rename a b] := by simp
      rw [e]
      simp only [apps, List.foldl_cons, List.foldl_nil, Chg.app, get_put_same]
      rw [get_del_other _ hba, get_put_same]
  · refine .inr (crash_read (x := y) hb h3 ?_)
    rw [h2]
    simp [apps, h1]
/-- how far the disk has come, with power; or without -/
def Live (a b : Nm) (x y : Nat) (old young : List UInt8) (i : Nat) (d : Disk) : Prop :=
  d.down = false ∧ d.room = 5000 ∧ match i with
    | 0 => d.sure = [(b, x)] ∧ d.loose = [] ∧ XB x old d
    | 1 => d.sure = [(b, x)] ∧ d.loose = [.create a y] ∧ XB x old d ∧ d.bytes y = []
    | 2 => d.sure = [(b, x)] ∧ d.loose = [.create a y] ∧ XB x old d ∧ d.bytes y = young
    | 3 => d.sure = [(b, x)] ∧ d.loose = [.create a y] ∧ XB x old d ∧ XB y young d
    | 4 => d.sure = [(b, x)] ∧ d.loose = [.create a y, .rename a b] ∧ XB x old d ∧ XB y young d
    | _ => (∀ n, get d.sure n = if n = b then some y else none) ∧ d.loose = [] ∧ XB y young d
def St (a b : Nm) (x y : Nat) (old young : List UInt8) (i : Nat) (d : Disk) : Prop := Live a b x y old young i d ∨ (d.down = true ∧ Ok a b x y old young d)
theorem live_ok {i : Nat} {d : Disk} (h : Live a b x y old young i d) : Ok a b x y old young d := by
  obtain ⟨_, _, h⟩ := h
  match i, h with
  | 0, ⟨h1, h2, h3⟩ => exact .inl ⟨h1, .inl h2, h3⟩
  | 1, ⟨h1, h2, h3, _⟩ => exact .inl ⟨h1, .inr h2, h3⟩
  | 2, ⟨h1, h2, h3, _⟩ => exact .inl ⟨h1, .inr h2, h3⟩
  | 3, ⟨h1, h2, h3, _⟩ => exact .inl ⟨h1, .inr h2, h3⟩
  | 4, ⟨h1, h2, h3, h4⟩ => exact .inr (.inl ⟨h1, h2, h3, h4⟩)
  | i + 5, ⟨h1, h2, h3⟩ => exact .inr (.inr ⟨h1, h2, h3⟩)
theorem st_ok {i : Nat} {d : Disk} (h : St a b x y old young i d) : Ok a b x y old young d := h.elim live_ok (fun h => h.2)
/-- power: goes, or the disk goes down -/
theorem power_cases (d : Disk) : (d.power.1 = 0 ∧ ∃ fu, d.power.2 = { d with fuse := fu }) ∨ (d.power.1 = 2 ∧ d.power.2 = { d with down := true }) := by
  unfold Disk.power
  split
  · exact .inr ⟨rfl, rfl⟩
  · split
    · exact .inl ⟨rfl, _, rfl⟩
    · exact .inl ⟨rfl, d.fuse, rfl⟩
theorem down_ready {d : Disk} (h : d.down = true) (ns : List Nm) : d.ready ns ≠ 0 := by
  unfold Disk.ready
  rw [h]
  split <;> simp
theorem live_ready {d : Disk} (h : d.down = false) {ns : List Nm} (hn : ∀ n ∈ ns, rightB n = true) : d.ready ns = 0 := by
  unfold Disk.ready
  have : ns.any (fun n => !rightB n) = false := by
    rw [List.any_eq_false]
    intro n h
    simp [hn n h]
  rw [this, h]
  rfl
theorem down_create {d : Disk} (h : d.down = true) (x : Nat) (n : Nm) : (d.create x n).2 = d := by rw [Disk.create, if_pos (down_ready h _)]
theorem down_append {d : Disk} (h : d.down = true) (n : Nm) (u : List UInt8) : (d.append n u).2 = d := by rw [Disk.append, if_pos (down_ready h _)]
theorem down_sync {d : Disk} (h : d.down = true) (n : Nm) : (d.sync n).2 = d := by rw [Disk.sync, if_pos (down_ready h _)]
theorem down_rename {d : Disk} (h : d.down = true) (n m : Nm) : (d.rename n m).2 = d := by rw [Disk.rename, if_pos (down_ready h _)]
theorem down_dirSync {d : Disk} (h : d.down = true) : d.dirSync.2 = d := by rw [Disk.dirSync, if_pos (down_ready h _)]
theorem st_create {d : Disk} (h : St a b x y old young 0 d) (ha : rightB a = true) (hab : a ≠ b) (hxy : y ≠ x) : St a b x y old young 1 (d.create y a).2 := by
  rcases h with ⟨h0, hr, h1, h2, h3⟩ | ⟨h0, h1⟩
  · have hnow : d.now = [(b, x)] := by rw [Disk.now, h1, h2]; rfl
    have hg : get d.now a = none := by rw [hnow, get_one, if_neg (fun e => hab e.symm)]
    rw [Disk.create, if_neg (by rw [live_ready h0 (by simpa using ha)]; omega), hg, if_neg (by simp), hnow, if_neg (by simp)]
    unfold Disk.change
    have hx3 : XB x old { d with bytes := setAt d.bytes y [], firm := setAt d.firm y 0 } := ⟨by simp only [setAt_other _ _ (fun e => hxy e.symm : x ≠ y)]; exact h3.1, by simp only [setAt_other _ _ (fun e => hxy e.symm : x ≠ y)]; exact h3.2⟩
    rcases power_cases { d with bytes := setAt d.bytes y [], firm := setAt d.firm y 0 } with ⟨e1, fu, e2⟩ | ⟨e1, e2⟩
    · rw [if_pos e1, e2]
      exact .inl ⟨h0, hr, h1, by simp [h2], hx3, setAt_same _ _ _⟩
    · rw [if_neg (by rw [e1]; omega), e2]
      exact .inr ⟨rfl, .inl ⟨h1, .inl h2, hx3⟩⟩
  · rw [down_create h0]
    exact .inr ⟨h0, h1⟩
theorem now1 {d : Disk} (h1 : d.sure = [(b, x)]) (h2 : d.loose = [.create a y]) : d.now = put [(b, x)] a y := by rw [Disk.now, h1, h2]; rfl
theorem used_ins (f : Nat → List UInt8) (p : Nm × Nat) (d : Dir) : used f (ins p d) = (f p.2).length + used f d := by
  induction d with
  | nil => rfl
  | cons q r ih => simp only [ins]; split <;> simp [used_cons', ih] <;> omega
  where used_cons' {f : Nat → List UInt8} {p : Nm × Nat} {d : Dir} : used f (p :: d) = (f p.2).length + used f d := rfl
theorem used_del_le (f : Nat → List UInt8) (d : Dir) (n : Nm) : used f (del d n) ≤ used f d := by
  induction d with
  | nil => exact Nat.le_refl _
  | cons q r ih =>
    unfold del at ih ⊢
    rw [List.filter_cons]
    split
    · show (f q.2).length + used f _ ≤ (f q.2).length + used f r
      omega
    · show used f _ ≤ (f q.2).length + used f r
      omega
theorem used_put_le (f : Nat → List UInt8) (d : Dir) (n : Nm) (x : Nat) : used f (put d n x) ≤ (f x).length + used f d := by
  unfold put
  rw [used_ins]
  have := used_del_le f d n
  show (f x).length + _ ≤ _
  omega
theorem st_append {d : Disk} (h : St a b x y old young 1 d) (ha : rightB a = true) (hab : a ≠ b) (hxy : y ≠ x) (hl : old.length + young.length ≤ 1000) : St a b x y old young 2 (d.append a young).2 := by
  rcases h with ⟨h0, hr, h1, h2, h3, h4⟩ | ⟨h0, h1⟩
  · have hnow := now1 h1 h2
    have hg : get d.now a = some y := by rw [hnow, get_put_same]
    have hu : used d.bytes d.now ≤ 1000 := by
      rw [hnow]
      have := used_put_le d.bytes [(b, x)] a y
      have e : used d.bytes [(b, x)] = old.length := by simp [used, h3.1]
      rw [h4, e] at this
      simp at this
      omega
    rw [Disk.append, if_neg (by rw [live_ready h0 (by simpa using ha)]; omega), hg]
    simp only []
    rw [if_neg (by omega)]
    rcases power_cases d with ⟨e1, fu, e2⟩ | ⟨e1, e2⟩
    · rw [if_pos e1, e2]
      refine .inl ⟨h0, hr, h1, h2, ⟨?_, h3.2⟩, ?_⟩
      · simp only [setAt_other _ _ (fun e => hxy e.symm : x ≠ y)]; exact h3.1
      · simp only [setAt_same, h4, List.nil_append]
    · rw [if_neg (by rw [e1]; omega), e2]
      exact .inr ⟨rfl, .inl ⟨h1, .inr h2, h3⟩⟩
  · rw [down_append h0]
    exact .inr ⟨h0, h1⟩
theorem st_sync {d : Disk} (h : St a b x y old young 2 d) (ha : rightB a = true) (hab : a ≠ b) (hxy : y ≠ x) : St a b x y old young 3 (d.sync a).2 := by
  rcases h with ⟨h0, hr, h1, h2, h3, h4⟩ | ⟨h0, h1⟩
  · have hnow := now1 h1 h2
    have hg : get d.now a = some y := by rw [hnow, get_put_same]
    rw [Disk.sync, if_neg (by rw [live_ready h0 (by simpa using ha)]; omega), hg]
    simp only []
    rcases power_cases d with ⟨e1, fu, e2⟩ | ⟨e1, e2⟩
    · rw [if_pos e1, e2]
      refine .inl ⟨h0, hr, h1, h2, ⟨h3.1, ?_⟩, ⟨h4, ?_⟩⟩
      · simp only [setAt_other _ _ (fun e => hxy e.symm : x ≠ y)]; exact h3.2
      · simp only [setAt_same, h4]
    · rw [if_neg (by rw [e1]; omega), e2]
      exact .inr ⟨rfl, .inl ⟨h1, .inr h2, h3⟩⟩
  · rw [down_sync h0]
    exact .inr ⟨h0, h1⟩
theorem st_rename {d : Disk} (h : St a b x y old young 3 d) (ha : rightB a = true) (hb : rightB b = true) (hab : a ≠ b) : St a b x y old young 4 (d.rename a b).2 := by
  rcases h with ⟨h0, hr, h1, h2, h3, h4⟩ | ⟨h0, h1⟩
  · have hnow := now1 h1 h2
    have hg : get d.now a = some y := by rw [hnow, get_put_same]
    rw [Disk.rename, if_neg (by rw [live_ready h0 (by simp [ha, hb])]; omega), hg]
    simp only []
    rw [if_neg hab]
    unfold Disk.change
    rcases power_cases d with ⟨e1, fu, e2⟩ | ⟨e1, e2⟩
    · rw [if_pos e1, e2]
      exact .inl ⟨h0, hr, h1, by simp [h2], h3, h4⟩
    · rw [if_neg (by rw [e1]; omega), e2]
      exact .inr ⟨rfl, .inl ⟨h1, .inr h2, h3⟩⟩
  · rw [down_rename h0]
    exact .inr ⟨h0, h1⟩
theorem st_dirSync {d : Disk} (h : St a b x y old young 4 d) (hab : a ≠ b) : St a b x y old young 5 d.dirSync.2 := by
  rcases h with ⟨h0, hr, h1, h2, h3, h4⟩ | ⟨h0, h1⟩
  · have hnow : ∀ n, get d.now n = if n = b then some y else none := by
      intro n
      rw [Disk.now, h1, h2]
      simp only [apps, List.foldl_cons, List.foldl_nil, Chg.app, get_put_same]
      by_cases e : n = a
      · rw [e, get_del_same, if_neg hab]
      · rw [get_del_other _ e]
        by_cases e2 : n = b
        · rw [e2, get_put_same, if_pos rfl]
        · rw [get_put_other _ _ e2, get_put_other _ _ e, get_one, if_neg (fun e => e2 e.symm), if_neg e2]
    rw [Disk.dirSync, if_neg (by rw [live_ready h0 (by simp)]; omega)]
    rcases power_cases d with ⟨e1, fu, e2⟩ | ⟨e1, e2⟩
    · rw [if_pos e1, e2]
      exact .inl ⟨h0, hr, hnow, rfl, h4⟩
    · rw [if_neg (by rw [e1]; omega), e2]
      exact .inr ⟨rfl, .inr (.inl ⟨h1, h2, h3, h4⟩)⟩
  · rw [down_dirSync h0]
    exact .inr ⟨h0, h1⟩
theorem st_start (hb : rightB b = true) (hl : old.length ≤ 1000) (k : Int) :
    St a b x y old young 0 ((((((Disk.fresh 5000).create x b).2.append b old).2.sync b).2.dirSync.2).setFuse k) ∧ ((((Disk.fresh 5000).create x b).2.append b old).2.sync b).2.dirSync.2.sure = [(b, x)] := by
  have r0 : ∀ d : Disk, d.down = false → d.ready [b] = 0 := fun d h => live_ready h (by simpa using hb)
  obtain ⟨d1, e1⟩ : ∃ d1, ((Disk.fresh 5000).create x b).2 = d1 := ⟨_, rfl⟩
  have c1 : d1 = { Disk.fresh 5000 with bytes := setAt (fun _ => []) x [], firm := setAt (fun _ => 0) x 0, loose := [.create b x] } := by
    rw [← e1, Disk.create, if_neg (by rw [r0 _ rfl]; omega)]; rfl
  have n1 : d1.now = [(b, x)] := by rw [c1]; rfl
  obtain ⟨d2, e2⟩ : ∃ d2, (d1.append b old).2 = d2 := ⟨_, rfl⟩
  have c2 : d2 = { d1 with bytes := setAt d1.bytes x old } := by
    have hx : d1.bytes x = [] := by rw [c1]; simp only [setAt_same]
    rw [← e2, Disk.append, if_neg (by rw [r0 _ (by rw [c1]; rfl)]; omega), n1, get_one, if_pos rfl]
    simp only []
    have hu : used d1.bytes [(b, x)] = 0 := by simp [used, hx]
    have hroom : d1.room = 5000 := by rw [c1]; rfl
    have hng : ¬ ((old.length : Int) > d1.room - ((0 : Nat) : Int)) := by rw [hroom]; omega
    have hp : d1.power = (0, d1) := by rw [c1]; rfl
    rw [hu, if_neg hng, hx, hp]
    rfl
  have n2 : d2.now = [(b, x)] := by rw [c2]; exact n1
  obtain ⟨d3, e3⟩ : ∃ d3, (d2.sync b).2 = d3 := ⟨_, rfl⟩
  have c3 : d3 = { d2 with firm := setAt d2.firm x old.length } := by
    have hx : d2.bytes x = old := by rw [c2]; exact setAt_same _ _ _
    rw [← e3, Disk.sync, if_neg (by rw [r0 _ (by rw [c2, c1]; rfl)]; omega), n2, get_one, if_pos rfl]
    simp only []
    have hp : d2.power = (0, d2) := by rw [c2, c1]; rfl
    rw [hp, hx]
    rfl
  have n3 : d3.now = [(b, x)] := by rw [c3]; exact n2
  have c4 : d3.dirSync.2 = { d3 with sure := [(b, x)], loose := [] } := by
    rw [Disk.dirSync, if_neg (by rw [live_ready (by rw [c3, c2, c1]; rfl) (by simp)]; omega)]
    have hp : d3.power = (0, d3) := by rw [c3, c2, c1]; rfl
    rw [hp, n3]
    rfl
  rw [e1, e2, e3, c4]
  refine ⟨.inl ⟨?_, ?_, rfl, rfl, ?_, ?_⟩, rfl⟩
  · show d3.down = false
    rw [c3, c2, c1]; rfl
  · show d3.room = 5000
    rw [c3, c2, c1]; rfl
  · show d3.bytes x = old
    rw [c3, c2]; exact setAt_same _ _ _
  · show d3.firm x = old.length
    rw [c3]; exact setAt_same _ _ _
end
end Go.Proofs.YtilgfpljjjbgdaaGreatDoor.Fs
namespace Go.Proofs.YtilgfpljjjbgdaaGreatDoor.Fs
open Go.RowKit Go.Proofs.YtilgfpljjjbgdaaGreatDoorW.PrintWords Go.Proofs.YtilgfpljjjbgdaaGreatDoor.Plain
set_option linter.unusedVariables false
set_option linter.unusedSimpArgs false
def On (d : Disk) : Prop := d.down = false ∧ d.fuse = -1
theorem on_power {d : Disk} (h : On d) : d.power = (0, d) := by
  unfold Disk.power
  rw [if_neg (by rw [h.2]; omega), if_neg (by rw [h.2]; omega)]
theorem on_ready {d : Disk} (h : On d) {n : Nm} (hn : rightB n = true) : d.ready [n] = 0 := live_ready h.1 (by simpa using hn)
theorem on_change {d : Disk} (h : On d) (c : Chg) : d.change c = (0, { d with loose := d.loose ++ [c] }) := by
  unfold Disk.change
  rw [on_power h, if_pos rfl]
theorem on_create {d : Disk} (h : On d) {n : Nm} (hn : rightB n = true) (hg : get d.now n = none) (hl : d.now.length < 256) (x : Nat) : d.create x n = (0, { d with bytes := setAt d.bytes x [], firm := setAt d.firm x 0, loose := d.loose ++ [.create n x] }) := by
  rw [Disk.create, if_neg (by rw [on_ready h hn]; omega), hg, if_neg (by simp), if_neg (by omega)]
  exact on_change (d := { d with bytes := setAt d.bytes x [], firm := setAt d.firm x 0 }) h _
theorem on_append {d : Disk} (h : On d) {n : Nm} (hn : rightB n = true) {x : Nat} (hg : get d.now n = some x) {u : List UInt8} (hu : (u.length : Int) ≤ d.room - (used d.bytes d.now : Int)) : d.append n u = (0, { d with bytes := setAt d.bytes x (d.bytes x ++ u) }) := by
  rw [Disk.append, if_neg (by rw [on_ready h hn]; omega), hg]
  simp only []
  rw [if_neg (by omega), on_power h]
  rfl
theorem on_sync {d : Disk} (h : On d) {n : Nm} (hn : rightB n = true) {x : Nat} (hg : get d.now n = some x) : d.sync n = (0, { d with firm := setAt d.firm x (d.bytes x).length }) := by
  rw [Disk.sync, if_neg (by rw [on_ready h hn]; omega), hg]
  simp only []
  rw [on_power h]
  rfl
theorem on_unlink {d : Disk} (h : On d) {n : Nm} (hn : rightB n = true) {x : Nat} (hg : get d.now n = some x) : d.unlink n = (0, { d with loose := d.loose ++ [.unlink n] }) := by
  rw [Disk.unlink, if_neg (by rw [on_ready h hn]; omega), hg]
  exact on_change h _
theorem on_rename {d : Disk} (h : On d) {n m : Nm} (hn : rightB n = true) (hm : rightB m = true) (hnm : n ≠ m) {x : Nat} (hg : get d.now n = some x) : d.rename n m = (0, { d with loose := d.loose ++ [.rename n m] }) := by
  rw [Disk.rename, if_neg (by rw [live_ready h.1 (by simp [hn, hm])]; omega), hg]
  simp only []
  rw [if_neg hnm]
  exact on_change h _
theorem on_dirSync {d : Disk} (h : On d) : d.dirSync = (0, { d with sure := d.now, loose := [] }) := by
  rw [Disk.dirSync, if_neg (by rw [live_ready h.1 (by simp)]; omega), on_power h]
  rfl
theorem on_read {d : Disk} (h : On d) {n : Nm} (hn : rightB n = true) : d.read n = match get d.now n with | none => ([], 4) | some x => (d.bytes x, 0) := by
  rw [Disk.read, if_neg (by rw [on_ready h hn]; omega)]
  cases get d.now n <;> rfl
theorem now_snoc {d : Disk} (c : Chg) : Disk.now { d with loose := d.loose ++ [c] } = c.app d.now := by
  show apps d.sure (d.loose ++ [c]) = _
  rw [apps_snoc]; rfl
theorem has_now' {d : Disk} {n : Nm} {x : Nat} (h : get d.sure n = some x) : d.has x := .inl ⟨n, get_mem h⟩
/-- FsSure's plain law -/
theorem sureEnd {a b : Nm} (ha : rightB a = true) (hb : rightB b = true) (hab : a ≠ b) {data more : List UInt8} (hl : data.length + more.length ≤ 1000) {x y z : Nat} {d1 d2 d3 d4 d5 d6 d7 d8 d9 : Disk}
    (e1 : ((Disk.fresh 5000).create x a).2 = d1) (hy : ¬ d1.has y) (e2 : (d1.create y b).2 = d2) (e3 : (d2.append a data).2 = d3) (e4 : (d3.sync a).2 = d4) (e5 : d4.dirSync.2 = d5) (e6 : (d5.append a more).2 = d6) (e7 : (d6.unlink b).2 = d7) (e8 : d7.dirSync.2 = d8) (hz : ¬ d8.has z) (e9 : (d8.create z b).2 = d9) (n m : Int) :
    (d9.crash n m).read a = ((data ++ more).take (data.length + min (max m 0).toNat more.length), 0) ∧ (d9.crash n m).read b = ([], if 0 < n then 0 else 4) := by
  have hba : b ≠ a := fun e => hab e.symm
  have o0 : On (Disk.fresh 5000) := ⟨rfl, rfl⟩
  rw [on_create o0 ha rfl (by decide) x] at e1
  have o1 : On d1 := by rw [← e1]; exact o0
  have n1 : d1.now = [(a, x)] := by rw [← e1]; rfl
  have l1 : d1.loose = [.create a x] := by rw [← e1]; rfl
  have s1 : d1.sure = [] := by rw [← e1]; rfl
  have b1 : d1.bytes x = [] := by rw [← e1]; exact setAt_same _ _ _
  have r1 : d1.room = 5000 := by rw [← e1]; rfl
  have hyx : y ≠ x := fun e => hy (.inr ⟨a, by rw [l1, e]; simp⟩)
  have hxy : x ≠ y := fun e => hyx e.symm
  rw [on_create o1 hb (by rw [n1, get_one, if_neg hab]) (by rw [n1]; simp) y] at e2
  have o2 : On d2 := by rw [← e2]; exact o1
  have n2 : d2.now = put [(a, x)] b y := by
    rw [← e2]
    show apps d1.sure (d1.loose ++ [.create b y]) = _
    rw [apps_snoc]
    show (Chg.create b y).app d1.now = _
    rw [n1]; rfl
  have g2 : get d2.now a = some x := by rw [n2, get_put_other _ _ hab, get_one, if_pos rfl]
  have b2 : d2.bytes x = [] := by rw [← e2]; simp only [setAt_other _ _ hxy, b1]
  have c2 : d2.bytes y = [] := by rw [← e2]; exact setAt_same _ _ _
  have r2 : d2.room = 5000 := by rw [← e2]; exact r1
  have u2 : used d2.bytes d2.now = 0 := by
    rw [n2]
    have := used_put_le d2.bytes [(a, x)] b y
    have e : used d2.bytes [(a, x)] = 0 := by simp [used, b2]
    rw [c2, e] at this
    simpa using this
  rw [on_append o2 ha g2 (by rw [u2, r2]; omega)] at e3
  have o3 : On d3 := by rw [← e3]; exact o2
  have n3 : d3.now = d2.now := by rw [← e3]; rfl
  have b3 : d3.bytes x = data := by rw [← e3]; simp only [setAt_same, b2, List.nil_append]
  have c3 : d3.bytes y = [] := by rw [← e3]; simp only [setAt_other _ _ hyx, c2]
  have r3 : d3.room = 5000 := by rw [← e3]; exact r2
  rw [on_sync o3 ha (by rw [n3]; exact g2)] at e4
  have o4 : On d4 := by rw [← e4]; exact o3
  have n4 : d4.now = d2.now := by rw [← e4]; exact n3
  have b4 : d4.bytes x = data := by rw [← e4]; exact b3
  have c4 : d4.bytes y = [] := by rw [← e4]; exact c3
  have f4 : d4.firm x = data.length := by rw [← e4]; simp only [setAt_same, b3]
  have r4 : d4.room = 5000 := by rw [← e4]; exact r3
  rw [on_dirSync o4] at e5
  have o5 : On d5 := by rw [← e5]; exact o4
  have s5 : d5.sure = d2.now := by rw [← e5]; exact n4
  have l5 : d5.loose = [] := by rw [← e5]
  have n5 : d5.now = d2.now := by rw [Disk.now, s5, l5]; rfl
  have b5 : d5.bytes x = data := by rw [← e5]; exact b4
  have c5 : d5.bytes y = [] := by rw [← e5]; exact c4
  have f5 : d5.firm x = data.length := by rw [← e5]; exact f4
  have r5 : d5.room = 5000 := by rw [← e5]; exact r4
  have u5 : used d5.bytes d5.now ≤ 1000 := by
    rw [n5, n2]
    have := used_put_le d5.bytes [(a, x)] b y
    have e : used d5.bytes [(a, x)] = data.length := by simp [used, b5]
    rw [c5, e] at this
    simp at this
    omega
  rw [on_append o5 ha (by rw [n5]; exact g2) (by rw [r5]; omega)] at e6
  have o6 : On d6 := by rw [← e6]; exact o5
  have n6 : d6.now = d2.now := by rw [← e6]; exact n5
  have s6 : d6.sure = d2.now := by rw [← e6]; exact s5
  have l6 : d6.loose = [] := by rw [← e6]; exact l5
  have b6 : d6.bytes x = data ++ more := by rw [← e6]; simp only [setAt_same, b5]
  have f6 : d6.firm x = data.length := by rw [← e6]; exact f5
  rw [on_unlink o6 hb (by rw [n6, n2]; exact get_put_same _ _ _)] at e7
  have o7 : On d7 := by rw [← e7]; exact o6
  have n7 : d7.now = del d2.now b := by
    rw [← e7, now_snoc, n6]; rfl
  have b7 : d7.bytes x = data ++ more := by rw [← e7]; exact b6
  have f7 : d7.firm x = data.length := by rw [← e7]; exact f6
  rw [on_dirSync o7] at e8
  have o8 : On d8 := by rw [← e8]; exact o7
  have s8 : d8.sure = del d2.now b := by rw [← e8]; exact n7
  have l8 : d8.loose = [] := by rw [← e8]
  have n8 : d8.now = del d2.now b := by rw [Disk.now, s8, l8]; rfl
  have b8 : d8.bytes x = data ++ more := by rw [← e8]; exact b7
  have f8 : d8.firm x = data.length := by rw [← e8]; exact f7
  have g8 : get (del d2.now b) a = some x := by rw [get_del_other _ hab]; exact g2
  have hzx : x ≠ z := fun e => hz (.inl ⟨a, by rw [s8, ← e]; exact get_mem g8⟩)
  have hlen : (del d2.now b).length < 256 := by
    have h1 := length_del_le d2.now b
    have h2 : d2.now.length ≤ 2 := by rw [n2]; exact length_put_le _ _ _
    omega
  rw [on_create o8 hb (by rw [n8, get_del_same]) (by rw [n8]; exact hlen) z] at e9
  have s9 : d9.sure = del d2.now b := by rw [← e9]; exact s8
  have l9 : d9.loose = [.create b z] := by rw [← e9]; simp only [l8, List.nil_append]
  have b9 : d9.bytes x = data ++ more := by rw [← e9]; simp only [setAt_other _ _ hzx, b8]
  have c9 : d9.bytes z = [] := by rw [← e9]; exact setAt_same _ _ _
  have f9 : d9.firm x = data.length := by rw [← e9]; simp only [setAt_other _ _ hzx, f8]
  have oc : On (d9.crash n m) := ⟨rfl, rfl⟩
  have hs : ∃ s, (d9.crash n m).now = s ∧ (d9.crash n m).bytes = (fun x => if s.any (fun p => p.2 == x) then (d9.bytes x).take (d9.kept m x) else d9.bytes x) ∧ get s a = some x ∧ get s b = if 0 < n then some z else none := by
    refine ⟨_, rfl, rfl, ?_, ?_⟩
    · show get (apps d9.sure (d9.loose.take _)) a = _
      rw [s9, l9]
      rcases Nat.eq_zero_or_pos (min (max n 0) (([Chg.create b z] : List Chg).length : Int)).toNat with e | e
      · rw [e]; simpa [apps] using g8
      · rw [List.take_of_length_le (by simp only [List.length_singleton]; omega)]
        show get (put (del d2.now b) b z) a = _
        rw [get_put_other _ _ hab]; exact g8
    · show get (apps d9.sure (d9.loose.take _)) b = _
      rw [s9, l9]
      by_cases h0 : 0 < n
      · rw [if_pos h0, List.take_of_length_le (by simp only [List.length_singleton]; omega)]
        show get (put (del d2.now b) b z) b = _
        rw [get_put_same]
      · rw [if_neg h0, show (min (max n 0) (([Chg.create b z] : List Chg).length : Int)).toNat = 0 by simp only [List.length_singleton]; omega]
        show get (del d2.now b) b = none
        rw [get_del_same]
  obtain ⟨s, hs1, hs2, hs3, hs4⟩ := hs
  constructor
  · rw [on_read oc ha, hs1, hs3]
    simp only []
    rw [hs2]
    have hany : s.any (fun p => p.2 == x) = true := List.any_eq_true.2 ⟨_, get_mem hs3, by simp⟩
    simp only [hany, if_true]
    have hk : d9.kept m x = data.length + min (max m 0).toNat more.length := by
      unfold Disk.kept
      rw [f9, b9, List.length_append]
      congr 2
      omega
    rw [hk, b9]
  · rw [on_read oc hb, hs1, hs4]
    by_cases h0 : 0 < n
    · rw [if_pos h0, if_pos h0]
      simp only []
      rw [hs2]
      simp only [c9, List.take_nil, ite_self]
    · rw [if_neg h0, if_neg h0]
end Go.Proofs.YtilgfpljjjbgdaaGreatDoor.Fs
namespace Go.Proofs.YtilgfpljjjbgdaaGreatDoor.Fs
open Go.RowKit Go.Proofs.YtilgfpljjjbgdaaGreatDoor Go.Proofs.YtilgfpljjjbgdaaGreatDoor.Plain Go.Proofs.YtilgfpljjjbgdaaGreatDoorW.PrintWords Go.Maps Go.Sort
set_option linter.unusedVariables false
set_option linter.unusedSimpArgs false
/-- the names, in order -/
def names (d : Dir) : List Nm := (d.map (·.1)).mergeSort leB
theorem strKeys_D (d : Dir) : strKeys (D d) = d.map (·.1) := by
  simp only [D, strKeys, List.map_map]
  rfl
theorem leB_total (x y : Nm) : (leB x y || leB y x) = true := by
  simp only [leB, Bool.or_eq_true, decide_eq_true_eq]
  exact List.le_total x y
theorem leB_trans (x y z : Nm) (h : leB x y = true) (h' : leB y z = true) : leB x z = true := by
  simp only [leB, decide_eq_true_eq] at h h' ⊢
  exact List.le_trans h h'
theorem sort_perm {l l' : List Nm} (h : l.Perm l') : l.mergeSort leB = l'.mergeSort leB := by
  have p : (l.mergeSort leB).Perm (l'.mergeSort leB) := (List.mergeSort_perm l leB).trans (h.trans (List.mergeSort_perm l' leB).symm)
  refine p.eq_of_pairwise (le := fun a b => leB a b = true) (fun a b _ _ h1 h2 => ?_) ?_ ?_
  · simp only [leB, decide_eq_true_eq] at h1 h2
    exact List.le_antisymm h1 h2
  · exact List.pairwise_mergeSort leB_trans leB_total l
  · exact List.pairwise_mergeSort leB_trans leB_total l'
theorem names_length (d : Dir) : (names d).length = d.length := by simp [names]
theorem mem_names {d : Dir} {n : Nm} : n ∈ names d ↔ ∃ x, (n, x) ∈ d := by
  unfold names
  rw [(List.mergeSort_perm _ _).mem_iff]
  simp
theorem encStr_S (l : Nm) : encStr l = .string (S l) := rfl
set_option maxHeartbeats 1000000 in
set_option maxRecDepth 100000 in
theorem list {w0 W : World} {f : Nat} {d : Disk} {N : Nat} {T : Nat → Prop} (h : FsAt w0 f d N T W) (hN : N ≤ 1000000) (hd : d.down = false) :
    Calls Tryz.prog 13 #[.pointer (some ⟨f, 0, none⟩)] W fun e W' => ∃ v, e = .returned v ∧ W'.ownsRow W.heap.size 9 1 v d.now.length ((names d.now).map fun n => .string (S n)) ∧ Below W.heap.size W W' := by
  obtain ⟨bn, bs, vl, fs, vb, c0⟩ := h
  obtain ⟨hc1, _, _, _, _, hc6⟩ := c0.cells
  rw [hd] at hc6
  have hlen : d.now.length ≤ 1000000 := by
    have h2 := length_apps_le d.loose d.sure
    have h3 := c0.small.1
    unfold Disk.now; omega
  have XK := Tryz.fsKeys (some bn) W
  have XS := Tryz.fsSorted bn d.now.length (D d.now) ptrElem W c0.now (by rw [D_size]; simp only [maxLen]; omega) (by rw [D_size]; omega)
  have HXS := Aside0.mk XS
  clear c0 hd XS
  go_enter Tryz.func13, Tryz.ntmps13
  go_wp2_with (first
    | (go_at_call 27; refine (callsIn_wide.1 XK).mono ?_; rintro e X1 ⟨rfl, rfl⟩)
    | (go_at_call 26; refine (callsIn_wide.1 HXS.out).mono ?_; rintro e X1 ⟨v, ss, rfl, hp, ho, -, hb⟩; have HP := Aside0.mk hp; have HO := Aside0.mk ho; have HB := Aside0.mk hb; clear hp ho hb))
  go_ret
  have hb := below_alloc (Below.refl W.heap.size W) (.cells #[.map (some bn)] 46)
  have hp := HP.out
  rw [strKeys_D] at hp
  refine ⟨v, rfl, ?_, chain' hb HB.out⟩
  have e1 : ss.length = d.now.length := by rw [hp.length_eq]; simp
  have e2 : ss.mergeSort (fun x y => decide (x ≤ y)) = names d.now := sort_perm hp
  have ho := HO.out
  rw [e1, e2] at ho
  exact own_weaken ho hb.size
theorem names_at {W : World} {base n c : Nat} {A : Option Addr} {ns : List Nm} (h : W.ownsRow base 9 1 (.slice A n c) n (ns.map fun n => .string (S n))) (hl : ∀ x ∈ ns, x.length ≤ 140737488351232) : NamesAt W A ns ∧ n = ns.length := by
  have hn : ns.length = n := by have := h.1; simpa using this
  refine ⟨fun j hj => ?_, hn.symm⟩
  rcases h.2 with ⟨_, h0⟩ | ⟨g, cap, cur, e, _, hg, hcap, _, hs, ht⟩
  · omega
  · injection e with e1 e2 e3
    refine ⟨⟨g, 0, none⟩, e1, ?_, hl _ (List.getElem_mem _)⟩
    have hj2 : j < cur.size := by omega
    have h3 : cur[j] = .string (S ns[j]) := by
      have h4 : (cur.toList.take (n * 1))[j]? = (ns.map fun n => Value.string (S n))[j]? := by rw [ht]
      rw [List.getElem?_take_of_lt (by omega)] at h4
      simp [hj, hj2] at h4
      exact h4
    have h5 : (⟨g, 0, none⟩ : Addr).add j = ⟨g, j, none⟩ := by unfold Addr.add; split <;> simp_all
    rw [h5, cell_of_row W g j cur 9 (0, 0) hg]
    simp [hj2, h3]
set_option maxHeartbeats 1000000 in
set_option maxRecDepth 100000 in
theorem texts {W : World} {A A' : Option Addr} {c c' : Nat} {l r : List Nm} (h : NamesAt W A l) (h' : NamesAt W A' r) {n m : Nat} (hn : n = l.length) (hm : m = r.length) (hl : n ≤ 1000000) (hr : m ≤ 1000000) :
    Calls Tryz.prog 15 #[.slice A n c, .slice A' m c'] W fun e W' => e = .returned (.bool (l == r)) ∧ Below W.heap.size W W' := by
  subst hn hm
  have HL := Aside0.mk h
  have HR := Aside0.mk h'
  clear h h'
  by_cases hlen : l.length = r.length
  · have hlen' : ((l.length : Int) == (r.length : Int)) = true := by simp [hlen]
    have HLEN := Aside0.mk hlen
    have hls : (l.length : Int) ≤ 1000000 := by omega
    clear hlen
    go_enter Tryz.func15, Tryz.ntmps15
    go_wp2
    go_loopw [5] (fun v5 wr => ∃ i : Nat, i ≤ l.length ∧ v5 = .int .i64 i ∧ Aside0 (Below W.heap.size W wr) ∧ Aside0 (∀ j (hj : j < i), l[j]? = r[j]?)) (fun v5 _ => l.length - (intOf v5).toNat)
    case atStart => exact ⟨0, by omega, rfl, ⟨Below.refl _ _⟩, ⟨fun j hj => by omega⟩⟩
    case round =>
      obtain ⟨i, hi, rfl, HB, HI⟩ := hrel
      by_cases hlt : i < l.length
      · have hlt2 : i < r.length := by have := HLEN.out; omega
        obtain ⟨ad, hA, hcell, -⟩ := (HL.out.below HB.out) i hlt
        obtain ⟨ad', hA', hcell', -⟩ := (HR.out.below HB.out) i hlt2
        subst hA hA'
        have HX := Aside0.mk (List.getElem?_eq_getElem hlt)
        have HY := Aside0.mk (List.getElem?_eq_getElem hlt2)
        obtain ⟨x, hx⟩ : ∃ x, l[i] = x := ⟨_, rfl⟩
        obtain ⟨y, hy⟩ : ∃ y, r[i] = y := ⟨_, rfl⟩
        rw [hx] at hcell HX
        rw [hy] at hcell' HY
        clear hx hy
        by_cases hxy : x = y
        · subst hxy
          go_wp2
          go_quiet (fail)
          go_wp2
          go_roundw
          case rel => exact ⟨i + 1, by omega, by go_num, ⟨pw_below_drewN HB.out _⟩, ⟨fun j hj => by
            rcases Nat.lt_or_ge j i with h | h
            · exact HI.out j h
            · obtain rfl : j = i := by omega
              rw [HX.out, HY.out]⟩⟩
          case measure => simp [intOf]; omega
        · have hne : (x == y) = false := by simpa using hxy
          have HN := Aside0.mk hxy
          clear hxy
          go_wp2
          go_quiet (fail)
          go_wp2
          go_ret
          have e : (l == r) = false := by
            simp only [beq_eq_false_iff_ne, ne_eq]
            intro e
            have h1 := HX.out
            rw [e, HY.out] at h1
            exact HN.out (Option.some.inj h1).symm
          rw [e]
          exact ⟨rfl, pw_below_drewN HB.out _⟩
      · go_wp2
        go_ret
        have e : (l == r) = true := by
          simp only [beq_iff_eq]
          refine List.ext_getElem? fun j => ?_
          rcases Nat.lt_or_ge j i with h | h
          · exact HI.out j h
          · rw [List.getElem?_eq_none (by omega), List.getElem?_eq_none (by have := HLEN.out; omega)]
        rw [e]
        exact ⟨rfl, HB.out⟩
  · have hlen' : ((l.length : Int) == (r.length : Int)) = false := by simp; omega
    have hne : (l == r) = false := by simpa using fun e => hlen (by rw [e])
    have HNE := Aside0.mk hne
    clear hlen hne
    go_enter Tryz.func15, Tryz.ntmps15
    go_wp2
    go_ret
    rw [HNE.out]
    exact ⟨rfl, Below.refl _ _⟩
end Go.Proofs.YtilgfpljjjbgdaaGreatDoor.Fs
