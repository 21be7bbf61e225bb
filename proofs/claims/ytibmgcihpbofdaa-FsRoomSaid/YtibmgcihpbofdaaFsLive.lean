/- A disk with power and without a fuse: what each call does. No program here. -/
import Derived.Test.YtibmgcihpbofdaaFsAtomicPure
namespace Go.Proofs.Ytibmgcihpbofdaa.Fs
open Go.RowKit Go.Proofs.YtibmgcihpbofdaaW.PrintWords Go.Proofs.Ytibmgcihpbofdaa.Plain
set_option linter.unusedVariables false
set_option linter.unusedSimpArgs false
def On (d : Disk) : Prop := d.down = false ∧ d.fuse = -1
theorem on_power {d : Disk} (h : On d) : d.power = (0, d) := by
  unfold Disk.power
  rw [if_neg (by rw [h.2]; omega), if_neg (by rw [h.2]; omega)]
theorem on_ready {d : Disk} (h : On d) {n : Nm} (hn : rightB n = true) : d.ready [n] = 0 := live_ready h.1 (by simpa using hn)
theorem on_change {d : Disk} (h : On d) (c : Chg) : d.change c = (0, { d with loose := d.loose ++ [c] }) := by
  unfold Disk.change
  rw [on_power h, if_pos rfl]
theorem on_create {d : Disk} (h : On d) {n : Nm} (hn : rightB n = true) (hg : get d.now n = none) (hl : d.now.length < 256) (x : Nat) : d.create x n = (0, { d with bytes := setAt d.bytes x [], firm := setAt d.firm x 0, loose := d.loose ++ [.create n x] }) := by
  rw [Disk.create, if_neg (by rw [on_ready h hn]; omega), hg, if_neg (by simp), if_neg (by omega)]
  exact on_change (d := { d with bytes := setAt d.bytes x [], firm := setAt d.firm x 0 }) h _
theorem on_append {d : Disk} (h : On d) {n : Nm} (hn : rightB n = true) {x : Nat} (hg : get d.now n = some x) {u : List UInt8} (hu : (u.length : Int) ≤ d.room - (used d.bytes d.now : Int)) : d.append n u = (0, { d with bytes := setAt d.bytes x (d.bytes x ++ u) }) := by
  rw [Disk.append, if_neg (by rw [on_ready h hn]; omega), hg]
  simp only []
  rw [if_neg (by omega), on_power h]
  rfl
theorem on_sync {d : Disk} (h : On d) {n : Nm} (hn : rightB n = true) {x : Nat} (hg : get d.now n = some x) : d.sync n = (0, { d with firm := setAt d.firm x (d.bytes x).length }) := by
  rw [Disk.sync, if_neg (by rw [on_ready h hn]; omega), hg]
  simp only []
  rw [on_power h]
  rfl
theorem on_unlink {d : Disk} (h : On d) {n : Nm} (hn : rightB n = true) {x : Nat} (hg : get d.now n = some x) : d.unlink n = (0, { d with loose := d.loose ++ [.unlink n] }) := by
  rw [Disk.unlink, if_neg (by rw [on_ready h hn]; omega), hg]
  exact on_change h _
theorem on_rename {d : Disk} (h : On d) {n m : Nm} (hn : rightB n = true) (hm : rightB m = true) (hnm : n ≠ m) {x : Nat} (hg : get d.now n = some x) : d.rename n m = (0, { d with loose := d.loose ++ [.rename n m] }) := by
  rw [Disk.rename, if_neg (by rw [live_ready h.1 (by simp [hn, hm])]; omega), hg]
  simp only []
  rw [if_neg hnm]
  exact on_change h _
theorem on_dirSync {d : Disk} (h : On d) : d.dirSync = (0, { d with sure := d.now, loose := [] }) := by
  rw [Disk.dirSync, if_neg (by rw [live_ready h.1 (by simp)]; omega), on_power h]
  rfl
theorem on_read {d : Disk} (h : On d) {n : Nm} (hn : rightB n = true) : d.read n = match get d.now n with | none => ([], 4) | some x => (d.bytes x, 0) := by
  rw [Disk.read, if_neg (by rw [on_ready h hn]; omega)]
  cases get d.now n <;> rfl
theorem now_snoc {d : Disk} (c : Chg) : Disk.now { d with loose := d.loose ++ [c] } = c.app d.now := by
  show apps d.sure (d.loose ++ [c]) = _
  rw [apps_snoc]; rfl
theorem has_now' {d : Disk} {n : Nm} {x : Nat} (h : get d.sure n = some x) : d.has x := .inl ⟨n, get_mem h⟩
/-- FsSure's plain law -/
theorem sureEnd {a b : Nm} (ha : rightB a = true) (hb : rightB b = true) (hab : a ≠ b) {data more : List UInt8} (hl : data.length + more.length ≤ 1000) {x y z : Nat} {d1 d2 d3 d4 d5 d6 d7 d8 d9 : Disk}
    (e1 : ((Disk.fresh 5000).create x a).2 = d1) (hy : ¬ d1.has y) (e2 : (d1.create y b).2 = d2) (e3 : (d2.append a data).2 = d3) (e4 : (d3.sync a).2 = d4) (e5 : d4.dirSync.2 = d5) (e6 : (d5.append a more).2 = d6) (e7 : (d6.unlink b).2 = d7) (e8 : d7.dirSync.2 = d8) (hz : ¬ d8.has z) (e9 : (d8.create z b).2 = d9) (n m : Int) :
    (d9.crash n m).read a = ((data ++ more).take (data.length + min (max m 0).toNat more.length), 0) ∧ (d9.crash n m).read b = ([], if 0 < n then 0 else 4) := by
  have hba : b ≠ a := fun e => hab e.symm
  have o0 : On (Disk.fresh 5000) := ⟨rfl, rfl⟩
  rw [on_create o0 ha rfl (by decide) x] at e1
  have o1 : On d1 := by rw [← e1]; exact o0
  have n1 : d1.now = [(a, x)] := by rw [← e1]; rfl
  have l1 : d1.loose = [.create a x] := by rw [← e1]; rfl
  have s1 : d1.sure = [] := by rw [← e1]; rfl
  have b1 : d1.bytes x = [] := by rw [← e1]; exact setAt_same _ _ _
  have r1 : d1.room = 5000 := by rw [← e1]; rfl
  have hyx : y ≠ x := fun e => hy (.inr ⟨a, by rw [l1, e]; simp⟩)
  have hxy : x ≠ y := fun e => hyx e.symm
  rw [on_create o1 hb (by rw [n1, get_one, if_neg hab]) (by rw [n1]; simp) y] at e2
  have o2 : On d2 := by rw [← e2]; exact o1
  have n2 : d2.now = put [(a, x)] b y := by
    rw [← e2]
    show apps d1.sure (d1.loose ++ [.create b y]) = _
    rw [apps_snoc]
    show (Chg.create b y).app d1.now = _
    rw [n1]; rfl
  have g2 : get d2.now a = some x := by rw [n2, get_put_other _ _ hab, get_one, if_pos rfl]
  have b2 : d2.bytes x = [] := by rw [← e2]; simp only [setAt_other _ _ hxy, b1]
  have c2 : d2.bytes y = [] := by rw [← e2]; exact setAt_same _ _ _
  have r2 : d2.room = 5000 := by rw [← e2]; exact r1
  have u2 : used d2.bytes d2.now = 0 := by
    rw [n2]
    have := used_put_le d2.bytes [(a, x)] b y
    have e : used d2.bytes [(a, x)] = 0 := by simp [used, b2]
    rw [c2, e] at this
    simpa using this
  rw [on_append o2 ha g2 (by rw [u2, r2]; omega)] at e3
  have o3 : On d3 := by rw [← e3]; exact o2
  have n3 : d3.now = d2.now := by rw [← e3]; rfl
  have b3 : d3.bytes x = data := by rw [← e3]; simp only [setAt_same, b2, List.nil_append]
  have c3 : d3.bytes y = [] := by rw [← e3]; simp only [setAt_other _ _ hyx, c2]
  have r3 : d3.room = 5000 := by rw [← e3]; exact r2
  rw [on_sync o3 ha (by rw [n3]; exact g2)] at e4
  have o4 : On d4 := by rw [← e4]; exact o3
  have n4 : d4.now = d2.now := by rw [← e4]; exact n3
  have b4 : d4.bytes x = data := by rw [← e4]; exact b3
  have c4 : d4.bytes y = [] := by rw [← e4]; exact c3
  have f4 : d4.firm x = data.length := by rw [← e4]; simp only [setAt_same, b3]
  have r4 : d4.room = 5000 := by rw [← e4]; exact r3
  rw [on_dirSync o4] at e5
  have o5 : On d5 := by rw [← e5]; exact o4
  have s5 : d5.sure = d2.now := by rw [← e5]; exact n4
  have l5 : d5.loose = [] := by rw [← e5]
  have n5 : d5.now = d2.now := by rw [Disk.now, s5, l5]; rfl
  have b5 : d5.bytes x = data := by rw [← e5]; exact b4
  have c5 : d5.bytes y = [] := by rw [← e5]; exact c4
  have f5 : d5.firm x = data.length := by rw [← e5]; exact f4
  have r5 : d5.room = 5000 := by rw [← e5]; exact r4
  have u5 : used d5.bytes d5.now ≤ 1000 := by
    rw [n5, n2]
    have := used_put_le d5.bytes [(a, x)] b y
    have e : used d5.bytes [(a, x)] = data.length := by simp [used, b5]
    rw [c5, e] at this
    simp at this
    omega
  rw [on_append o5 ha (by rw [n5]; exact g2) (by rw [r5]; omega)] at e6
  have o6 : On d6 := by rw [← e6]; exact o5
  have n6 : d6.now = d2.now := by rw [← e6]; exact n5
  have s6 : d6.sure = d2.now := by rw [← e6]; exact s5
  have l6 : d6.loose = [] := by rw [← e6]; exact l5
  have b6 : d6.bytes x = data ++ more := by rw [← e6]; simp only [setAt_same, b5]
  have f6 : d6.firm x = data.length := by rw [← e6]; exact f5
  rw [on_unlink o6 hb (by rw [n6, n2]; exact get_put_same _ _ _)] at e7
  have o7 : On d7 := by rw [← e7]; exact o6
  have n7 : d7.now = del d2.now b := by
    rw [← e7, now_snoc, n6]; rfl
  have b7 : d7.bytes x = data ++ more := by rw [← e7]; exact b6
  have f7 : d7.firm x = data.length := by rw [← e7]; exact f6
  rw [on_dirSync o7] at e8
  have o8 : On d8 := by rw [← e8]; exact o7
  have s8 : d8.sure = del d2.now b := by rw [← e8]; exact n7
  have l8 : d8.loose = [] := by rw [← e8]
  have n8 : d8.now = del d2.now b := by rw [Disk.now, s8, l8]; rfl
  have b8 : d8.bytes x = data ++ more := by rw [← e8]; exact b7
  have f8 : d8.firm x = data.length := by rw [← e8]; exact f7
  have g8 : get (del d2.now b) a = some x := by rw [get_del_other _ hab]; exact g2
  have hzx : x ≠ z := fun e => hz (.inl ⟨a, by rw [s8, ← e]; exact get_mem g8⟩)
  have hlen : (del d2.now b).length < 256 := by
    have h1 := length_del_le d2.now b
    have h2 : d2.now.length ≤ 2 := by rw [n2]; exact length_put_le _ _ _
    omega
  rw [on_create o8 hb (by rw [n8, get_del_same]) (by rw [n8]; exact hlen) z] at e9
  have s9 : d9.sure = del d2.now b := by rw [← e9]; exact s8
  have l9 : d9.loose = [.create b z] := by rw [← e9]; simp only [l8, List.nil_append]
  have b9 : d9.bytes x = data ++ more := by rw [← e9]; simp only [setAt_other _ _ hzx, b8]
  have c9 : d9.bytes z = [] := by rw [← e9]; exact setAt_same _ _ _
  have f9 : d9.firm x = data.length := by rw [← e9]; simp only [setAt_other _ _ hzx, f8]
  have oc : On (d9.crash n m) := ⟨rfl, rfl⟩
  have hs : ∃ s, (d9.crash n m).now = s ∧ (d9.crash n m).bytes = (fun x => if s.any (fun p => p.2 == x) then (d9.bytes x).take (d9.kept m x) else d9.bytes x) ∧ get s a = some x ∧ get s b = if 0 < n then some z else none := by
    refine ⟨_, rfl, rfl, ?_, ?_⟩
    · show get (apps d9.sure (d9.loose.take _)) a = _
      rw [s9, l9]
      rcases Nat.eq_zero_or_pos (min (max n 0) (([Chg.create b z] : List Chg).length : Int)).toNat with e | e
      · rw [e]; simpa [apps] using g8
      · rw [List.take_of_length_le (by simp only [List.length_singleton]; omega)]
        show get (put (del d2.now b) b z) a = _
        rw [get_put_other _ _ hab]; exact g8
    · show get (apps d9.sure (d9.loose.take _)) b = _
      rw [s9, l9]
      by_cases h0 : 0 < n
      · rw [if_pos h0, List.take_of_length_le (by simp only [List.length_singleton]; omega)]
        show get (put (del d2.now b) b z) b = _
        rw [get_put_same]
      · rw [if_neg h0, show (min (max n 0) (([Chg.create b z] : List Chg).length : Int)).toNat = 0 by simp only [List.length_singleton]; omega]
        show get (del d2.now b) b = none
        rw [get_del_same]
  obtain ⟨s, hs1, hs2, hs3, hs4⟩ := hs
  constructor
  · rw [on_read oc ha, hs1, hs3]
    simp only []
    rw [hs2]
    have hany : s.any (fun p => p.2 == x) = true := List.any_eq_true.2 ⟨_, get_mem hs3, by simp⟩
    simp only [hany, if_true]
    have hk : d9.kept m x = data.length + min (max m 0).toNat more.length := by
      unfold Disk.kept
      rw [f9, b9, List.length_append]
      congr 2
      omega
    rw [hk, b9]
  · rw [on_read oc hb, hs1, hs4]
    by_cases h0 : 0 < n
    · rw [if_pos h0, if_pos h0]
      simp only []
      rw [hs2]
      simp only [c9, List.take_nil, ite_self]
    · rw [if_neg h0, if_neg h0]
end Go.Proofs.Ytibmgcihpbofdaa.Fs
