/- FsFuse's plain law. No program here. -/
import Derived.Test.YtibmgcihpbofdaaFsAtomicPure
namespace Go.Proofs.Ytibmgcihpbofdaa.Fs
open Go.RowKit Go.Proofs.YtibmgcihpbofdaaW.PrintWords Go.Proofs.Ytibmgcihpbofdaa.Plain
set_option linter.unusedVariables false
set_option linter.unusedSimpArgs false
/-- behind i appends of one byte, with a fuse of k -/
def FuseAt (u : Nm) (x k i : Nat) (d : Disk) : Prop := d.sure = [] ∧ d.loose = [.create u x] ∧ d.room = 5000 ∧ d.bytes x = List.replicate (min i k) 1 ∧ d.firm x = 0 ∧ d.fuse = (k : Int) - (min i k : Nat) ∧ d.down = decide (k < i)
theorem fuse_start {u : Nm} (hu : rightB u = true) (x k : Nat) : FuseAt u x k 0 (((Disk.fresh 5000).create x u).2.setFuse (k : Int)) := by
  have c1 : ((Disk.fresh 5000).create x u).2 = { Disk.fresh 5000 with bytes := setAt (fun _ => []) x [], firm := setAt (fun _ => 0) x 0, loose := [.create u x] } := by
    rw [Disk.create, if_neg (by rw [live_ready rfl (by simpa using hu)]; omega)]; rfl
  rw [c1]
  refine ⟨rfl, rfl, rfl, ?_, ?_, ?_, rfl⟩
  · show setAt (fun _ => ([] : List UInt8)) x [] x = _
    rw [setAt_same]; simp
  · show setAt (fun _ => (0 : Nat)) x 0 x = _
    rw [setAt_same]
  · show max (k : Int) 0 = _
    simp
theorem fuse_now {u : Nm} {x k i : Nat} {d : Disk} (h : FuseAt u x k i d) : d.now = [(u, x)] := by rw [Disk.now, h.1, h.2.1]; rfl
theorem fuse_step {u : Nm} (hu : rightB u = true) {x k i : Nat} {d : Disk} (hi : i < 300) (h : FuseAt u x k i d) : (d.append u [1]).1 = (if i < k then 0 else 2) ∧ FuseAt u x k (i + 1) (d.append u [1]).2 := by
  have hn := fuse_now h
  obtain ⟨h1, h2, h3, h4, h5, h6, h7⟩ := h
  by_cases hk : k < i
  · have hd : d.down = true := by rw [h7]; simpa using hk
    have hr : d.ready [u] = 2 := by
      unfold Disk.ready
      simp [hu, hd]
    have e : d.append u [1] = (2, d) := by rw [Disk.append, hr]; rfl
    rw [e, if_neg (by omega)]
    have m1 : min (i + 1) k = min i k := by omega
    exact ⟨rfl, h1, h2, h3, by rw [m1]; exact h4, h5, by rw [m1]; exact h6, by rw [h7]; simp; omega⟩
  · have hd : d.down = false := by rw [h7]; simpa using hk
    have hr : d.ready [u] = 0 := live_ready hd (by simpa using hu)
    have hu1 : used d.bytes [(u, x)] = min i k := by simp [used, h4]
    have e : d.append u [1] = if d.power.1 = 0 then (0, { d.power.2 with bytes := setAt d.bytes x (d.bytes x ++ [1]) }) else d.power := by
      rw [Disk.append, if_neg (by omega), hn, get_one, if_pos rfl]
      simp only []
      rw [hu1, if_neg (by rw [h3]; simp; omega)]
    rw [e]
    by_cases hik : i < k
    · have hp : d.power = (0, { d with fuse := d.fuse - 1 }) := by
        unfold Disk.power
        rw [if_neg (by rw [h6]; omega), if_pos (by rw [h6]; omega)]
      rw [hp, if_pos rfl, if_pos hik]
      refine ⟨rfl, h1, h2, h3, ?_, h5, ?_, ?_⟩
      · show setAt _ _ _ _ = _
        rw [setAt_same, h4, show min (i + 1) k = min i k + 1 by omega, List.replicate_succ']
      · show d.fuse - 1 = _
        rw [h6]; omega
      · show d.down = _
        rw [hd]; simp; omega
    · have hp : d.power = (2, { d with down := true }) := by
        unfold Disk.power
        rw [if_pos (by rw [h6]; omega)]
      rw [hp, if_neg (show ¬ (2 : Int) = 0 by omega), if_neg hik]
      have m1 : min (i + 1) k = min i k := by omega
      exact ⟨rfl, h1, h2, h3, by rw [m1]; exact h4, h5, by rw [m1]; exact h6, by show true = _; simp; omega⟩
theorem fuse_down {u : Nm} {x k : Nat} {d : Disk} (hk : k ≤ 255) (h : FuseAt u x k 300 d) : d.down = true := by rw [h.2.2.2.2.2.2]; simp; omega
theorem down_two {d : Disk} (h : d.down = true) {ns : List Nm} (hn : ∀ n ∈ ns, rightB n = true) : d.ready ns = 2 := by
  unfold Disk.ready
  have : ns.any (fun n => !rightB n) = false := by
    rw [List.any_eq_false]
    intro n h
    simp [hn n h]
  rw [this, h]
  rfl
theorem fuse_read {u : Nm} (hu : rightB u = true) {d : Disk} (h : d.down = true) : d.read u = ([], 2) := by
  have := down_two h (ns := [u]) (by simpa using hu)
  rw [Disk.read, this]; rfl
theorem fuse_create {d : Disk} (h : d.down = true) (z : Nat) : d.create z [122, 122] = (2, d) := by
  have : d.ready [[122, 122]] = 2 := down_two h (by intro n hn; simp at hn; subst hn; rfl)
  rw [Disk.create, this]; rfl
theorem fuse_dirSync {d : Disk} (h : d.down = true) : d.dirSync = (2, d) := by
  have : d.ready [] = 2 := down_two h (by simp)
  rw [Disk.dirSync, this]; rfl
theorem fuse_end {u : Nm} (hu : rightB u = true) {x k : Nat} {d : Disk} (hk : k ≤ 255) (h : FuseAt u x k 300 d) : (d.crash 9 999).read u = (List.replicate k 1, 0) ∧ (d.crash 9 999).down = false := by
  refine ⟨?_, rfl⟩
  obtain ⟨h1, h2, h3, h4, h5, h6, h7⟩ := h
  have hm : min 300 k = k := by omega
  rw [hm] at h4
  have hnow : (d.crash 9 999).now = [(u, x)] := by
    show apps d.sure (d.loose.take _) = _
    rw [h1, h2]
    rfl
  have hr : (d.crash 9 999).ready [u] = 0 := live_ready rfl (by simpa using hu)
  rw [Disk.read, if_neg (by omega), hnow, get_one, if_pos rfl]
  have hkept : d.kept 999 x = k := by
    unfold Disk.kept
    rw [h4, h5]
    simp
    omega
  have : (d.crash 9 999).bytes x = List.replicate k 1 := by
    show (if _ then _ else _) = _
    rw [hkept, h4]
    split
    · simp
    · rfl
  simp only [this]
end Go.Proofs.Ytibmgcihpbofdaa.Fs
