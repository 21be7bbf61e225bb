/- FsApart's plain law. No program here. -/
import Derived.Test.YtibmgcihpbofdaaFsDo
import Derived.Test.YtibmgcihpbofdaaFsAtomicPure
namespace Go.Proofs.Ytibmgcihpbofdaa.Fs
open Go.RowKit Go.Proofs.YtibmgcihpbofdaaW.PrintWords Go.Proofs.Ytibmgcihpbofdaa.Plain
set_option linter.unusedVariables false
set_option linter.unusedSimpArgs false
/-- the file stands, with power, and under its own name alone -/
def Stands (u : Nm) (x : Nat) (data : List UInt8) (d : Disk) : Prop := d.down = false ∧ d.fuse = -1 ∧ get d.now u = some x ∧ d.bytes x = data ∧ d.has x ∧ ∀ p ∈ d.now, p.2 = x → p.1 = u
theorem stands_power {d : Disk} (h : d.fuse = -1) : d.power = (0, d) := by
  unfold Disk.power
  rw [if_neg (by omega), if_neg (by omega)]
theorem stands_read {u : Nm} {x : Nat} {data : List UInt8} {d : Disk} (h : Stands u x data d) (hu : rightB u = true) : d.read u = (data, 0) := by
  obtain ⟨h1, h2, h3, h4, _⟩ := h
  rw [Disk.read, if_neg (by rw [live_ready h1 (by simpa using hu)]; omega), h3]
  simp only [h4]
theorem stands_change {u : Nm} {x : Nat} {data : List UInt8} {d : Disk} {c : Chg} (h : Stands u x data d) (hg : get (c.app d.now) u = some x) (hp : ∀ p ∈ c.app d.now, p.2 = x → p.1 = u) : Stands u x data (d.change c).2 := by
  obtain ⟨h1, h2, h3, h4, h5, h6⟩ := h
  unfold Disk.change
  rw [stands_power h2, if_pos rfl]
  refine ⟨h1, h2, ?_, h4, ?_, ?_⟩
  · show get (apps d.sure (d.loose ++ [c])) u = some x
    rw [apps_snoc]; exact hg
  · rcases h5 with ⟨n, h5⟩ | ⟨n, h5⟩
    · exact .inl ⟨n, h5⟩
    · exact .inr ⟨n, List.mem_append.2 (.inl h5)⟩
  · intro p hpm
    have : p ∈ c.app d.now := by
      have e : p ∈ apps d.sure (d.loose ++ [c]) := hpm
      rw [apps_snoc] at e
      exact e
    exact hp p this
theorem stands_create {u a : Nm} {x y : Nat} {data : List UInt8} {d : Disk} (h : Stands u x data d) (ha : a ≠ u) (hy : ¬ d.has y) : Stands u x data (d.create y a).2 := by
  have hxy : x ≠ y := fun e => hy (e ▸ h.2.2.2.2.1)
  have h' : Stands u x data { d with bytes := setAt d.bytes y [], firm := setAt d.firm y 0 } := ⟨h.1, h.2.1, h.2.2.1, by simp only [setAt_other _ _ hxy]; exact h.2.2.2.1, h.2.2.2.2.1, h.2.2.2.2.2⟩
  unfold Disk.create
  split
  · exact h
  · split
    · exact h
    · split
      · exact h
      · refine stands_change h' ?_ ?_
        · show get (put d.now a y) u = some x
          rw [get_put_other _ _ (fun e => ha e.symm)]; exact h.2.2.1
        · intro p hp hpx
          have hp' : p ∈ put d.now a y := hp
          rcases mem_put.1 hp' with e | ⟨e, _⟩
          · rw [e] at hpx; exact absurd hpx.symm hxy
          · exact h.2.2.2.2.2 p e hpx
theorem stands_append {u a : Nm} {x : Nat} {data v : List UInt8} {d : Disk} (h : Stands u x data d) (ha : a ≠ u) : Stands u x data (d.append a v).2 := by
  unfold Disk.append
  split
  · exact h
  · cases hg : get d.now a with
    | none => exact h
    | some y =>
      have hxy : x ≠ y := fun e => ha (h.2.2.2.2.2 (a, y) (get_mem hg) e.symm)
      simp only []
      split
      · exact h
      · rw [stands_power h.2.1, if_pos rfl]
        exact ⟨h.1, h.2.1, h.2.2.1, by simp only [setAt_other _ _ hxy]; exact h.2.2.2.1, h.2.2.2.2.1, h.2.2.2.2.2⟩
theorem stands_sync {u a : Nm} {x : Nat} {data : List UInt8} {d : Disk} (h : Stands u x data d) : Stands u x data (d.sync a).2 := by
  unfold Disk.sync
  split
  · exact h
  · cases hg : get d.now a with
    | none => exact h
    | some y =>
      simp only []
      rw [stands_power h.2.1, if_pos rfl]
      exact ⟨h.1, h.2.1, h.2.2.1, h.2.2.2.1, h.2.2.2.2.1, h.2.2.2.2.2⟩
theorem stands_rename {u a b : Nm} {x : Nat} {data : List UInt8} {d : Disk} (h : Stands u x data d) (ha : a ≠ u) (hb : b ≠ u) : Stands u x data (d.rename a b).2 := by
  unfold Disk.rename
  split
  · exact h
  · cases hg : get d.now a with
    | none => exact h
    | some y =>
      have hxy : y ≠ x := fun e => ha (h.2.2.2.2.2 (a, y) (get_mem hg) e)
      simp only []
      split
      · rw [stands_power h.2.1]; exact h
      · have happ : (Chg.rename a b).app d.now = del (put d.now b y) a := by simp only [Chg.app, hg]
        refine stands_change h ?_ ?_
        · rw [happ, get_del_other _ (fun e => ha e.symm), get_put_other _ _ (fun e => hb e.symm)]; exact h.2.2.1
        · intro p hp hpx
          rw [happ] at hp
          rcases mem_put.1 (mem_del.1 hp).1 with e | ⟨e, _⟩
          · rw [e] at hpx; exact absurd hpx hxy
          · exact h.2.2.2.2.2 p e hpx
theorem stands_unlink {u a : Nm} {x : Nat} {data : List UInt8} {d : Disk} (h : Stands u x data d) (ha : a ≠ u) : Stands u x data (d.unlink a).2 := by
  unfold Disk.unlink
  split
  · exact h
  · cases hg : get d.now a with
    | none => exact h
    | some y =>
      refine stands_change h ?_ ?_
      · show get (del d.now a) u = some x
        rw [get_del_other _ (fun e => ha e.symm)]; exact h.2.2.1
      · intro p hp hpx
        have hp' : p ∈ del d.now a := hp
        exact h.2.2.2.2.2 p (mem_del.1 hp').1 hpx
theorem stands_dirSync {u : Nm} {x : Nat} {data : List UInt8} {d : Disk} (h : Stands u x data d) : Stands u x data d.dirSync.2 := by
  unfold Disk.dirSync
  split
  · exact h
  · rw [stands_power h.2.1, if_pos rfl]
    exact ⟨h.1, h.2.1, h.2.2.1, h.2.2.2.1, .inl ⟨u, get_mem h.2.2.1⟩, h.2.2.2.2.2⟩
theorem stands_act {u a b : Nm} {x y : Nat} {kind : Int} {data v : List UInt8} {d : Disk} (h : Stands u x data d) (ha : a ≠ u) (hb : b ≠ u) (hy : kind = 1 → ¬ d.has y) : Stands u x data (d.act y kind a b v).2 := by
  unfold Disk.act
  split
  · rename_i e; exact stands_create h ha (hy e)
  · split
    · exact stands_append h ha
    · split
      · exact stands_sync h
      · split
        · exact stands_rename h ha hb
        · split
          · exact stands_unlink h ha
          · split
            · exact stands_dirSync h
            · exact h
theorem stands_start {u : Nm} (hu : rightB u = true) (x : Nat) {data : List UInt8} (hl : data.length ≤ 500) : Stands u x data ((((Disk.fresh 1048576).create x u).2.append u data).2) := by
  have r0 : ∀ d : Disk, d.down = false → d.ready [u] = 0 := fun d h => live_ready h (by simpa using hu)
  obtain ⟨d1, e1⟩ : ∃ d1, ((Disk.fresh 1048576).create x u).2 = d1 := ⟨_, rfl⟩
  have c1 : d1 = { Disk.fresh 1048576 with bytes := setAt (fun _ => []) x [], firm := setAt (fun _ => 0) x 0, loose := [.create u x] } := by
    rw [← e1, Disk.create, if_neg (by rw [r0 _ rfl]; omega)]; rfl
  have n1 : d1.now = [(u, x)] := by rw [c1]; rfl
  have hx : d1.bytes x = [] := by rw [c1]; simp only [setAt_same]
  have hroom : d1.room = 1048576 := by rw [c1]; rfl
  have hu1 : used d1.bytes [(u, x)] = 0 := by simp [used, hx]
  have hng : ¬ ((data.length : Int) > d1.room - ((0 : Nat) : Int)) := by rw [hroom]; omega
  have hp : d1.power = (0, d1) := by rw [c1]; rfl
  have c2 : (d1.append u data).2 = { d1 with bytes := setAt d1.bytes x data } := by
    rw [Disk.append, if_neg (by rw [r0 _ (by rw [c1]; rfl)]; omega), n1, get_one, if_pos rfl]
    simp only []
    rw [hu1, if_neg hng, hx, hp]
    rfl
  rw [e1, c2]
  have hn2 : Disk.now { d1 with bytes := setAt d1.bytes x data } = [(u, x)] := n1
  refine ⟨by rw [c1]; rfl, by rw [c1]; rfl, by rw [hn2, get_one, if_pos rfl], setAt_same _ _ _, .inr ⟨u, by rw [c1]; simp⟩, ?_⟩
  rw [hn2]
  intro p hp' _
  simp only [List.mem_singleton] at hp'
  rw [hp']
end Go.Proofs.Ytibmgcihpbofdaa.Fs
