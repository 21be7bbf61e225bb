/- FsAtomic's plain law. No program here. -/
import Derived.Test.YtibmgcihpbofdaaFsNew
namespace Go.Proofs.Ytibmgcihpbofdaa.Fs
open Go.RowKit Go.Proofs.YtibmgcihpbofdaaW.PrintWords Go.Proofs.Ytibmgcihpbofdaa.Plain
set_option linter.unusedVariables false
set_option linter.unusedSimpArgs false
section
variable {a b : Nm} {x y : Nat} {old young : List UInt8}
def XB (x : Nat) (old : List UInt8) (d : Disk) : Prop := d.bytes x = old ∧ d.firm x = old.length
/-- how a disk may stand -/
def Ok (a b : Nm) (x y : Nat) (old young : List UInt8) (d : Disk) : Prop :=
  (d.sure = [(b, x)] ∧ (d.loose = [] ∨ d.loose = [.create a y]) ∧ XB x old d) ∨ (d.sure = [(b, x)] ∧ d.loose = [.create a y, .rename a b] ∧ XB x old d ∧ XB y young d) ∨ ((∀ n, get d.sure n = if n = b then some y else none) ∧ d.loose = [] ∧ XB y young d)
theorem get_one (n m : Nm) (x : Nat) : get [(n, x)] m = if n = m then some x else none := by rw [get_cons, get_nil]
theorem take_small {α : Type} (l : List α) (k : Nat) : l.take k = [] ∨ ∃ j, l.take k = l.take (j + 1) := by
  cases k with
  | zero => exact .inl (by simp)
  | succ k => exact .inr ⟨k, rfl⟩
theorem crash_read {d : Disk} {n m : Int} {b : Nm} {x : Nat} {u : List UInt8} (hb : rightB b = true) (hX : XB x u d) (hg : get (apps d.sure (d.loose.take (min (max n 0) (d.loose.length : Int)).toNat)) b = some x) : (d.crash n m).read b = (u, 0) := by
  have hr : (d.crash n m).ready [b] = 0 := by
    unfold Disk.ready
    simp [hb, Disk.crash]
  have hn : (d.crash n m).now = apps d.sure (d.loose.take (min (max n 0) (d.loose.length : Int)).toNat) := rfl
  unfold Disk.read
  rw [if_neg (by omega), hn, hg]
  have hk : d.kept m x = u.length := by
    unfold Disk.kept
    rw [hX.1, hX.2]
    omega
  have he : (d.crash n m).bytes x = u := by
    show (if _ then _ else _) = u
    rw [hk, hX.1]
    split
    · simp
    · rfl
  simp only [he]
theorem ok_read {d : Disk} (h : Ok a b x y old young d) (hb : rightB b = true) (hab : a ≠ b) (n m : Int) : (d.crash n m).read b = (old, 0) ∨ (d.crash n m).read b = (young, 0) := by
  have hba : b ≠ a := fun e => hab e.symm
  rcases h with ⟨h1, h2, h3⟩ | ⟨h1, h2, h3, h4⟩ | ⟨h1, h2, h3⟩
  · refine .inl (crash_read hb h3 ?_)
    rw [h1]
    rcases h2 with h2 | h2
    · rw [h2]; simp [apps, get_one]
    · rw [h2]
      rcases take_small [Chg.create a y] (min (max n 0) ([Chg.create a y].length : Int)).toNat with e | ⟨j, e⟩
      · rw [e]; simp [apps, get_one]
      · rw [e]; simp [apps, Chg.app, get_put_other _ _ hba, get_one]
  · obtain ⟨j, hj⟩ : ∃ j, (min (max n 0) (d.loose.length : Int)).toNat = j := ⟨_, rfl⟩
    match j, hj with
    | 0, hj => exact .inl (crash_read hb h3 (by rw [hj, h1]; simp [apps, get_one]))
    | 1, hj => exact .inl (crash_read hb h3 (by rw [hj, h1, h2]; simp [apps, Chg.app, get_put_other _ _ hba, get_one]))
    | j + 2, hj =>
      refine .inr (crash_read (x := y) hb h4 ?_)
      rw [hj, h1, h2]
      have e : ([Chg.create a y, Chg.rename a b]).take (j + 2) = [Chg.create a y, Chg.rename a b] := by simp
      rw [e]
      simp only [apps, List.foldl_cons, List.foldl_nil, Chg.app, get_put_same]
      rw [get_del_other _ hba, get_put_same]
  · refine .inr (crash_read (x := y) hb h3 ?_)
    rw [h2]
    simp [apps, h1]
/-- how far the disk has come, with power; or without -/
def Live (a b : Nm) (x y : Nat) (old young : List UInt8) (i : Nat) (d : Disk) : Prop :=
  d.down = false ∧ d.room = 5000 ∧ match i with
    | 0 => d.sure = [(b, x)] ∧ d.loose = [] ∧ XB x old d
    | 1 => d.sure = [(b, x)] ∧ d.loose = [.create a y] ∧ XB x old d ∧ d.bytes y = []
    | 2 => d.sure = [(b, x)] ∧ d.loose = [.create a y] ∧ XB x old d ∧ d.bytes y = young
    | 3 => d.sure = [(b, x)] ∧ d.loose = [.create a y] ∧ XB x old d ∧ XB y young d
    | 4 => d.sure = [(b, x)] ∧ d.loose = [.create a y, .rename a b] ∧ XB x old d ∧ XB y young d
    | _ => (∀ n, get d.sure n = if n = b then some y else none) ∧ d.loose = [] ∧ XB y young d
def St (a b : Nm) (x y : Nat) (old young : List UInt8) (i : Nat) (d : Disk) : Prop := Live a b x y old young i d ∨ (d.down = true ∧ Ok a b x y old young d)
theorem live_ok {i : Nat} {d : Disk} (h : Live a b x y old young i d) : Ok a b x y old young d := by
  obtain ⟨_, _, h⟩ := h
  match i, h with
  | 0, ⟨h1, h2, h3⟩ => exact .inl ⟨h1, .inl h2, h3⟩
  | 1, ⟨h1, h2, h3, _⟩ => exact .inl ⟨h1, .inr h2, h3⟩
  | 2, ⟨h1, h2, h3, _⟩ => exact .inl ⟨h1, .inr h2, h3⟩
  | 3, ⟨h1, h2, h3, _⟩ => exact .inl ⟨h1, .inr h2, h3⟩
  | 4, ⟨h1, h2, h3, h4⟩ => exact .inr (.inl ⟨h1, h2, h3, h4⟩)
  | i + 5, ⟨h1, h2, h3⟩ => exact .inr (.inr ⟨h1, h2, h3⟩)
theorem st_ok {i : Nat} {d : Disk} (h : St a b x y old young i d) : Ok a b x y old young d := h.elim live_ok (fun h => h.2)
/-- power: goes, or the disk goes down -/
theorem power_cases (d : Disk) : (d.power.1 = 0 ∧ ∃ fu, d.power.2 = { d with fuse := fu }) ∨ (d.power.1 = 2 ∧ d.power.2 = { d with down := true }) := by
  unfold Disk.power
  split
  · exact .inr ⟨rfl, rfl⟩
  · split
    · exact .inl ⟨rfl, _, rfl⟩
    · exact .inl ⟨rfl, d.fuse, rfl⟩
theorem down_ready {d : Disk} (h : d.down = true) (ns : List Nm) : d.ready ns ≠ 0 := by
  unfold Disk.ready
  rw [h]
  split <;> simp
theorem live_ready {d : Disk} (h : d.down = false) {ns : List Nm} (hn : ∀ n ∈ ns, rightB n = true) : d.ready ns = 0 := by
  unfold Disk.ready
  have : ns.any (fun n => !rightB n) = false := by
    rw [List.any_eq_false]
    intro n h
    simp [hn n h]
  rw [this, h]
  rfl
theorem down_create {d : Disk} (h : d.down = true) (x : Nat) (n : Nm) : (d.create x n).2 = d := by rw [Disk.create, if_pos (down_ready h _)]
theorem down_append {d : Disk} (h : d.down = true) (n : Nm) (u : List UInt8) : (d.append n u).2 = d := by rw [Disk.append, if_pos (down_ready h _)]
theorem down_sync {d : Disk} (h : d.down = true) (n : Nm) : (d.sync n).2 = d := by rw [Disk.sync, if_pos (down_ready h _)]
theorem down_rename {d : Disk} (h : d.down = true) (n m : Nm) : (d.rename n m).2 = d := by rw [Disk.rename, if_pos (down_ready h _)]
theorem down_dirSync {d : Disk} (h : d.down = true) : d.dirSync.2 = d := by rw [Disk.dirSync, if_pos (down_ready h _)]
theorem st_create {d : Disk} (h : St a b x y old young 0 d) (ha : rightB a = true) (hab : a ≠ b) (hxy : y ≠ x) : St a b x y old young 1 (d.create y a).2 := by
  rcases h with ⟨h0, hr, h1, h2, h3⟩ | ⟨h0, h1⟩
  · have hnow : d.now = [(b, x)] := by rw [Disk.now, h1, h2]; rfl
    have hg : get d.now a = none := by rw [hnow, get_one, if_neg (fun e => hab e.symm)]
    rw [Disk.create, if_neg (by rw [live_ready h0 (by simpa using ha)]; omega), hg, if_neg (by simp), hnow, if_neg (by simp)]
    unfold Disk.change
    have hx3 : XB x old { d with bytes := setAt d.bytes y [], firm := setAt d.firm y 0 } := ⟨by simp only [setAt_other _ _ (fun e => hxy e.symm : x ≠ y)]; exact h3.1, by simp only [setAt_other _ _ (fun e => hxy e.symm : x ≠ y)]; exact h3.2⟩
    rcases power_cases { d with bytes := setAt d.bytes y [], firm := setAt d.firm y 0 } with ⟨e1, fu, e2⟩ | ⟨e1, e2⟩
    · rw [if_pos e1, e2]
      exact .inl ⟨h0, hr, h1, by simp [h2], hx3, setAt_same _ _ _⟩
    · rw [if_neg (by rw [e1]; omega), e2]
      exact .inr ⟨rfl, .inl ⟨h1, .inl h2, hx3⟩⟩
  · rw [down_create h0]
    exact .inr ⟨h0, h1⟩
theorem now1 {d : Disk} (h1 : d.sure = [(b, x)]) (h2 : d.loose = [.create a y]) : d.now = put [(b, x)] a y := by rw [Disk.now, h1, h2]; rfl
theorem used_ins (f : Nat → List UInt8) (p : Nm × Nat) (d : Dir) : used f (ins p d) = (f p.2).length + used f d := by
  induction d with
  | nil => rfl
  | cons q r ih => simp only [ins]; split <;> simp [used_cons', ih] <;> omega
  where used_cons' {f : Nat → List UInt8} {p : Nm × Nat} {d : Dir} : used f (p :: d) = (f p.2).length + used f d := rfl
theorem used_del_le (f : Nat → List UInt8) (d : Dir) (n : Nm) : used f (del d n) ≤ used f d := by
  induction d with
  | nil => exact Nat.le_refl _
  | cons q r ih =>
    unfold del at ih ⊢
    rw [List.filter_cons]
    split
    · show (f q.2).length + used f _ ≤ (f q.2).length + used f r
      omega
    · show used f _ ≤ (f q.2).length + used f r
      omega
theorem used_put_le (f : Nat → List UInt8) (d : Dir) (n : Nm) (x : Nat) : used f (put d n x) ≤ (f x).length + used f d := by
  unfold put
  rw [used_ins]
  have := used_del_le f d n
  show (f x).length + _ ≤ _
  omega
theorem st_append {d : Disk} (h : St a b x y old young 1 d) (ha : rightB a = true) (hab : a ≠ b) (hxy : y ≠ x) (hl : old.length + young.length ≤ 1000) : St a b x y old young 2 (d.append a young).2 := by
  rcases h with ⟨h0, hr, h1, h2, h3, h4⟩ | ⟨h0, h1⟩
  · have hnow := now1 h1 h2
    have hg : get d.now a = some y := by rw [hnow, get_put_same]
    have hu : used d.bytes d.now ≤ 1000 := by
      rw [hnow]
      have := used_put_le d.bytes [(b, x)] a y
      have e : used d.bytes [(b, x)] = old.length := by simp [used, h3.1]
      rw [h4, e] at this
      simp at this
      omega
    rw [Disk.append, if_neg (by rw [live_ready h0 (by simpa using ha)]; omega), hg]
    simp only []
    rw [if_neg (by omega)]
    rcases power_cases d with ⟨e1, fu, e2⟩ | ⟨e1, e2⟩
    · rw [if_pos e1, e2]
      refine .inl ⟨h0, hr, h1, h2, ⟨?_, h3.2⟩, ?_⟩
      · simp only [setAt_other _ _ (fun e => hxy e.symm : x ≠ y)]; exact h3.1
      · simp only [setAt_same, h4, List.nil_append]
    · rw [if_neg (by rw [e1]; omega), e2]
      exact .inr ⟨rfl, .inl ⟨h1, .inr h2, h3⟩⟩
  · rw [down_append h0]
    exact .inr ⟨h0, h1⟩
theorem st_sync {d : Disk} (h : St a b x y old young 2 d) (ha : rightB a = true) (hab : a ≠ b) (hxy : y ≠ x) : St a b x y old young 3 (d.sync a).2 := by
  rcases h with ⟨h0, hr, h1, h2, h3, h4⟩ | ⟨h0, h1⟩
  · have hnow := now1 h1 h2
    have hg : get d.now a = some y := by rw [hnow, get_put_same]
    rw [Disk.sync, if_neg (by rw [live_ready h0 (by simpa using ha)]; omega), hg]
    simp only []
    rcases power_cases d with ⟨e1, fu, e2⟩ | ⟨e1, e2⟩
    · rw [if_pos e1, e2]
      refine .inl ⟨h0, hr, h1, h2, ⟨h3.1, ?_⟩, ⟨h4, ?_⟩⟩
      · simp only [setAt_other _ _ (fun e => hxy e.symm : x ≠ y)]; exact h3.2
      · simp only [setAt_same, h4]
    · rw [if_neg (by rw [e1]; omega), e2]
      exact .inr ⟨rfl, .inl ⟨h1, .inr h2, h3⟩⟩
  · rw [down_sync h0]
    exact .inr ⟨h0, h1⟩
theorem st_rename {d : Disk} (h : St a b x y old young 3 d) (ha : rightB a = true) (hb : rightB b = true) (hab : a ≠ b) : St a b x y old young 4 (d.rename a b).2 := by
  rcases h with ⟨h0, hr, h1, h2, h3, h4⟩ | ⟨h0, h1⟩
  · have hnow := now1 h1 h2
    have hg : get d.now a = some y := by rw [hnow, get_put_same]
    rw [Disk.rename, if_neg (by rw [live_ready h0 (by simp [ha, hb])]; omega), hg]
    simp only []
    rw [if_neg hab]
    unfold Disk.change
    rcases power_cases d with ⟨e1, fu, e2⟩ | ⟨e1, e2⟩
    · rw [if_pos e1, e2]
      exact .inl ⟨h0, hr, h1, by simp [h2], h3, h4⟩
    · rw [if_neg (by rw [e1]; omega), e2]
      exact .inr ⟨rfl, .inl ⟨h1, .inr h2, h3⟩⟩
  · rw [down_rename h0]
    exact .inr ⟨h0, h1⟩
theorem st_dirSync {d : Disk} (h : St a b x y old young 4 d) (hab : a ≠ b) : St a b x y old young 5 d.dirSync.2 := by
  rcases h with ⟨h0, hr, h1, h2, h3, h4⟩ | ⟨h0, h1⟩
  · have hnow : ∀ n, get d.now n = if n = b then some y else none := by
      intro n
      rw [Disk.now, h1, h2]
      simp only [apps, List.foldl_cons, List.foldl_nil, Chg.app, get_put_same]
      by_cases e : n = a
      · rw [e, get_del_same, if_neg hab]
      · rw [get_del_other _ e]
        by_cases e2 : n = b
        · rw [e2, get_put_same, if_pos rfl]
        · rw [get_put_other _ _ e2, get_put_other _ _ e, get_one, if_neg (fun e => e2 e.symm), if_neg e2]
    rw [Disk.dirSync, if_neg (by rw [live_ready h0 (by simp)]; omega)]
    rcases power_cases d with ⟨e1, fu, e2⟩ | ⟨e1, e2⟩
    · rw [if_pos e1, e2]
      exact .inl ⟨h0, hr, hnow, rfl, h4⟩
    · rw [if_neg (by rw [e1]; omega), e2]
      exact .inr ⟨rfl, .inr (.inl ⟨h1, h2, h3, h4⟩)⟩
  · rw [down_dirSync h0]
    exact .inr ⟨h0, h1⟩
theorem st_start (hb : rightB b = true) (hl : old.length ≤ 1000) (k : Int) :
    St a b x y old young 0 ((((((Disk.fresh 5000).create x b).2.append b old).2.sync b).2.dirSync.2).setFuse k) ∧ ((((Disk.fresh 5000).create x b).2.append b old).2.sync b).2.dirSync.2.sure = [(b, x)] := by
  have r0 : ∀ d : Disk, d.down = false → d.ready [b] = 0 := fun d h => live_ready h (by simpa using hb)
  obtain ⟨d1, e1⟩ : ∃ d1, ((Disk.fresh 5000).create x b).2 = d1 := ⟨_, rfl⟩
  have c1 : d1 = { Disk.fresh 5000 with bytes := setAt (fun _ => []) x [], firm := setAt (fun _ => 0) x 0, loose := [.create b x] } := by
    rw [← e1, Disk.create, if_neg (by rw [r0 _ rfl]; omega)]; rfl
  have n1 : d1.now = [(b, x)] := by rw [c1]; rfl
  obtain ⟨d2, e2⟩ : ∃ d2, (d1.append b old).2 = d2 := ⟨_, rfl⟩
  have c2 : d2 = { d1 with bytes := setAt d1.bytes x old } := by
    have hx : d1.bytes x = [] := by rw [c1]; simp only [setAt_same]
    rw [← e2, Disk.append, if_neg (by rw [r0 _ (by rw [c1]; rfl)]; omega), n1, get_one, if_pos rfl]
    simp only []
    have hu : used d1.bytes [(b, x)] = 0 := by simp [used, hx]
    have hroom : d1.room = 5000 := by rw [c1]; rfl
    have hng : ¬ ((old.length : Int) > d1.room - ((0 : Nat) : Int)) := by rw [hroom]; omega
    have hp : d1.power = (0, d1) := by rw [c1]; rfl
    rw [hu, if_neg hng, hx, hp]
    rfl
  have n2 : d2.now = [(b, x)] := by rw [c2]; exact n1
  obtain ⟨d3, e3⟩ : ∃ d3, (d2.sync b).2 = d3 := ⟨_, rfl⟩
  have c3 : d3 = { d2 with firm := setAt d2.firm x old.length } := by
    have hx : d2.bytes x = old := by rw [c2]; exact setAt_same _ _ _
    rw [← e3, Disk.sync, if_neg (by rw [r0 _ (by rw [c2, c1]; rfl)]; omega), n2, get_one, if_pos rfl]
    simp only []
    have hp : d2.power = (0, d2) := by rw [c2, c1]; rfl
    rw [hp, hx]
    rfl
  have n3 : d3.now = [(b, x)] := by rw [c3]; exact n2
  have c4 : d3.dirSync.2 = { d3 with sure := [(b, x)], loose := [] } := by
    rw [Disk.dirSync, if_neg (by rw [live_ready (by rw [c3, c2, c1]; rfl) (by simp)]; omega)]
    have hp : d3.power = (0, d3) := by rw [c3, c2, c1]; rfl
    rw [hp, n3]
    rfl
  rw [e1, e2, e3, c4]
  refine ⟨.inl ⟨?_, ?_, rfl, rfl, ?_, ?_⟩, rfl⟩
  · show d3.down = false
    rw [c3, c2, c1]; rfl
  · show d3.room = 5000
    rw [c3, c2, c1]; rfl
  · show d3.bytes x = old
    rw [c3, c2]; exact setAt_same _ _ _
  · show d3.firm x = old.length
    rw [c3]; exact setAt_same _ _ _
end
end Go.Proofs.Ytibmgcihpbofdaa.Fs
