/- ref01.FS: the reference's disk, as plain data. ref01.FS: what each write does to it, and that both disks stay alike. No program here. ref01.FS in memory: rows of structs, the disk's six cells and what they lead to. ref01.FS: room, fuse, the start. No program here. ref01.FS in memory: the six cells and what they lead to. -/
import Derived.Test.YtibmgcihpbofdaaFsB4
import Derived.Test.YtibmgcihpbofdaaFsDo
namespace Go.Proofs.Ytibmgcihpbofdaa.Fs
open Go.RowKit Go.Proofs.Ytibmgcihpbofdaa.Plain Go.WideShapes
set_option linter.unusedVariables false
set_option linter.unusedSimpArgs false
/-- a change of a directory: 1 create, 2 rename, 3 unlink -/
structure RChg where
  kind : Nat
  src : Nm
  dest : Nm
  file : Nat
/-- a sorted directory with a name more: ahead of the first that is not smaller -/
def insR (p : Nm × Nat) : Dir → Dir
  | [] => [p]
  | q :: r => if before q.1 p.1 then q :: insR p r else p :: q :: r
/-- what is left of a directory at a change -/
def outR (l : Dir) (c : RChg) : Dir := l.filter fun p => !(p.1 == c.src) && !(c.kind == 2 && p.1 == c.dest)
def doneR (l : Dir) (c : RChg) : Dir :=
  if c.kind = 3 then outR l c else if c.kind = 1 then insR (c.src, c.file) (outR l c) else insR (c.dest, (get l c.src).getD 0) (outR l c)
def dirR (l : Dir) (cs : List RChg) : Dir := cs.foldl doneR l
structure RDisk where
  sure : Dir
  loose : List RChg
  files : List (List UInt8 × Nat)
  room : Int
  fuse : Int
  off : Bool
def RDisk.dir (r : RDisk) : Dir := dirR r.sure r.loose
def RDisk.bytes (r : RDisk) (i : Nat) : List UInt8 := ((r.files[i]?).map (·.1)).getD []
def RDisk.used (r : RDisk) : Nat := (r.dir.map fun p => (r.bytes p.2).length).sum
def RDisk.power (r : RDisk) : Bool × RDisk := if r.fuse = 0 then (false, { r with off := true }) else if r.fuse > 0 then (true, { r with fuse := r.fuse - 1 }) else (true, r)
theorem before_asymm {a b : Nm} (h : before a b = true) : before b a = false := by
  cases h2 : before b a with
  | false => rfl
  | true =>
    have h3 : (Lit.string a).before (Lit.string a) = true := before_trans h h2
    rw [before_irrefl] at h3
    cases h3
/-- numbers of blocks in the place of indices -/
def onto (blk : Nat → Nat) (l : Dir) : Dir := l.map fun p => (p.1, blk p.2)
theorem onto_names (blk : Nat → Nat) (l : Dir) : (onto blk l).map (·.1) = l.map (·.1) := by simp [onto]
theorem get_onto (blk : Nat → Nat) (l : Dir) (n : Nm) : get (onto blk l) n = (get l n).map blk := by
  induction l with
  | nil => rfl
  | cons q l ih =>
    show get ((q.1, blk q.2) :: onto blk l) n = _
    rw [get_cons, get_cons]
    by_cases h : q.1 = n
    · rw [if_pos h, if_pos h]; rfl
    · rw [if_neg h, if_neg h]; exact ih
theorem del_onto (blk : Nat → Nat) (l : Dir) (n : Nm) : del (onto blk l) n = onto blk (del l n) := by
  unfold del onto
  rw [List.filter_map]
  rfl
theorem insR_ins {p : Nm × Nat} : ∀ {l : Dir}, (∀ q ∈ l, q.1 ≠ p.1) → insR p l = ins p l
  | [], _ => rfl
  | q :: l, h => by
    have hq := h q (by simp)
    have ih := insR_ins (p := p) (l := l) (fun r hr => h r (by simp [hr]))
    unfold insR ins
    by_cases hb : before p.1 q.1 = true
    · rw [if_neg (by rw [before_asymm hb]; simp), if_pos hb]
    · have hb2 : before q.1 p.1 = true := by
        have ht := Go.ChangeMaps.before_total (a := Lit.string q.1) (b := Lit.string p.1) ⟨_, rfl⟩ ⟨_, rfl⟩ (fun e => hq (by injection e))
        rcases ht with ht | ht
        · exact ht
        · exact absurd ht hb
      rw [if_pos hb2, if_neg hb, ih]
theorem ins_onto (blk : Nat → Nat) (p : Nm × Nat) : ∀ l : Dir, ins (p.1, blk p.2) (onto blk l) = onto blk (ins p l)
  | [] => rfl
  | q :: l => by
    show ins (p.1, blk p.2) ((q.1, blk q.2) :: onto blk l) = _
    unfold ins
    split
    · rfl
    · rw [ins_onto blk p l]; rfl
/-- sorted, without doubles -/
def Sorted (l : Dir) : Prop := l.Pairwise fun p q => before p.1 q.1 = true
theorem sorted_filter {l : Dir} (h : Sorted l) (f : Nm × Nat → Bool) : Sorted (l.filter f) := List.Pairwise.filter f h
theorem ins_sorted {p : Nm × Nat} : ∀ {l : Dir}, Sorted l → (∀ q ∈ l, q.1 ≠ p.1) → Sorted (ins p l)
  | [], _, _ => List.pairwise_singleton _ _
  | q :: l, h, hn => by
    obtain ⟨h1, h2⟩ := List.pairwise_cons.1 h
    unfold ins
    by_cases hb : before p.1 q.1 = true
    · rw [if_pos hb]
      refine List.pairwise_cons.2 ⟨fun r hr => ?_, h⟩
      rcases List.mem_cons.1 hr with rfl | hr
      · exact hb
      · exact (before_trans hb (h1 r hr) : (Lit.string p.1).before (Lit.string r.1) = true)
    · rw [if_neg hb]
      refine List.pairwise_cons.2 ⟨fun r hr => ?_, ins_sorted h2 (fun r hr => hn r (by simp [hr]))⟩
      rcases (mem_ins p r l).1 hr with rfl | hr
      · have ht := Go.ChangeMaps.before_total (a := Lit.string q.1) (b := Lit.string r.1) ⟨_, rfl⟩ ⟨_, rfl⟩ (fun e => hn q (by simp) (by injection e))
        rcases ht with ht | ht
        · exact ht
        · exact absurd ht hb
      · exact h1 r hr
theorem ins_front {p : Nm × Nat} {l : Dir} (h : ∀ q ∈ l, before p.1 q.1 = true) : ins p l = p :: l := by
  cases l with
  | nil => rfl
  | cons q l => unfold ins; rw [if_pos (h q (by simp))]
theorem del_ins {p : Nm × Nat} {n : Nm} (hn : n ≠ p.1) : ∀ {l : Dir}, Sorted l → del (ins p l) n = ins p (del l n)
  | [], _ => by
    unfold ins del
    rw [List.filter_cons, if_pos (by simpa using fun e : p.1 = n => hn e.symm)]
    rfl
  | q :: l, h => by
    obtain ⟨h1, h2⟩ := List.pairwise_cons.1 h
    have ih := del_ins hn h2
    by_cases hb : before p.1 q.1 = true
    · have e1 : ins p (q :: l) = p :: q :: l := by rw [ins, if_pos hb]
      have e2 : del (p :: q :: l) n = p :: del (q :: l) n := by unfold del; rw [List.filter_cons, if_pos (by simpa using fun e : p.1 = n => hn e.symm)]
      rw [e1, e2, ins_front]
      intro r hr
      rcases List.mem_cons.1 (mem_del.1 hr).1 with rfl | hr
      · exact hb
      · exact (before_trans hb (h1 r hr) : (Lit.string p.1).before (Lit.string r.1) = true)
    · have e1 : ins p (q :: l) = q :: ins p l := by rw [ins, if_neg hb]
      rw [e1]
      by_cases hq : q.1 = n
      · have e2 : del (q :: ins p l) n = del (ins p l) n := by unfold del; rw [List.filter_cons, if_neg (by simp [hq])]
        have e3 : del (q :: l) n = del l n := by unfold del; rw [List.filter_cons, if_neg (by simp [hq])]
        rw [e2, e3, ih]
      · have e2 : del (q :: ins p l) n = q :: del (ins p l) n := by unfold del; rw [List.filter_cons, if_pos (by simpa using hq)]
        have e3 : del (q :: l) n = q :: del l n := by unfold del; rw [List.filter_cons, if_pos (by simpa using hq)]
        rw [e2, e3, ih, ins, if_neg hb]
/-- the same change, of blocks -/
def chgOf (blk : Nat → Nat) (c : RChg) : Chg := if c.kind = 1 then .create c.src (blk c.file) else if c.kind = 2 then .rename c.src c.dest else .unlink c.src
theorem out_del {l : Dir} {c : RChg} (h : c.kind ≠ 2) : outR l c = del l c.src := by
  unfold outR del
  refine List.filter_congr (fun p _ => ?_)
  have : (c.kind == 2) = false := by simpa using h
  rw [this]
  simp
theorem out_two {l : Dir} {c : RChg} (h : c.kind = 2) : outR l c = del (del l c.dest) c.src := by
  unfold outR del
  rw [List.filter_filter]
  refine List.filter_congr (fun p _ => ?_)
  rw [h]
  simp
theorem out_names {l : Dir} {c : RChg} : ∀ q ∈ outR l c, q.1 ≠ c.src ∧ (c.kind = 2 → q.1 ≠ c.dest) := by
  intro q hq
  have := (List.mem_filter.1 hq).2
  simp only [Bool.and_eq_true, Bool.not_eq_true', beq_eq_false_iff_ne, ne_eq, Bool.and_eq_false_imp, beq_iff_eq] at this
  exact ⟨this.1, fun h e => by have h2 := this.2 h; simp [e] at h2⟩
theorem sorted_onto {blk : Nat → Nat} {l : Dir} (h : Sorted l) : Sorted (onto blk l) := by
  unfold Sorted onto at *
  exact List.pairwise_map.2 h
theorem done_app (blk : Nat → Nat) {l : Dir} (hs : Sorted l) (c : RChg) (hk : c.kind = 1 ∨ c.kind = 3 ∨ (c.kind = 2 ∧ c.src ≠ c.dest ∧ (get l c.src).isSome)) : onto blk (doneR l c) = (chgOf blk c).app (onto blk l) ∧ Sorted (doneR l c) := by
  rcases hk with h | h | ⟨h, hne, hg⟩
  · have e : doneR l c = ins (c.src, c.file) (del l c.src) := by
      unfold doneR
      rw [if_neg (by omega), if_pos h, insR_ins (fun q hq => (out_names q hq).1), out_del (by omega)]
    have e2 : chgOf blk c = .create c.src (blk c.file) := by unfold chgOf; rw [if_pos h]
    rw [e, e2]
    refine ⟨?_, ins_sorted (sorted_filter hs _) (fun q hq => (mem_del.1 hq).2)⟩
    show _ = put (onto blk l) c.src (blk c.file)
    unfold put
    rw [del_onto, ← ins_onto blk (c.src, c.file)]
  · have e : doneR l c = del l c.src := by
      unfold doneR
      rw [if_pos h, out_del (by omega)]
    have e2 : chgOf blk c = .unlink c.src := by unfold chgOf; rw [if_neg (by omega), if_neg (by omega)]
    rw [e, e2]
    exact ⟨(del_onto blk l c.src).symm, sorted_filter hs _⟩
  · obtain ⟨i, hi⟩ := Option.isSome_iff_exists.1 hg
    have e : doneR l c = ins (c.dest, i) (del (del l c.dest) c.src) := by
      unfold doneR
      rw [if_neg (by omega), if_neg (by omega), insR_ins (fun q hq => (out_names q hq).2 h), out_two h, hi]
      rfl
    have e2 : chgOf blk c = .rename c.src c.dest := by unfold chgOf; rw [if_neg (by omega), if_pos h]
    rw [e, e2]
    refine ⟨?_, ins_sorted (sorted_filter (sorted_filter hs _) _) (fun q hq => (mem_del.1 (mem_del.1 hq).1).2)⟩
    show _ = match get (onto blk l) c.src with | some x => del (put (onto blk l) c.dest x) c.src | none => onto blk l
    rw [get_onto, hi]
    show _ = del (put (onto blk l) c.dest (blk i)) c.src
    unfold put
    have hsd : Sorted (del (onto blk l) c.dest) := sorted_filter (sorted_onto hs) _
    rw [del_ins (p := (c.dest, blk i)) hne hsd, del_onto, del_onto, ← ins_onto blk (c.dest, i)]
def mayC (l : Dir) (c : RChg) : Prop := c.kind = 1 ∨ c.kind = 3 ∨ (c.kind = 2 ∧ c.src ≠ c.dest ∧ (get l c.src).isSome)
def mayR (l : Dir) : List RChg → Prop
  | [] => True
  | c :: cs => mayC l c ∧ mayR (doneR l c) cs
theorem dir_apps (blk : Nat → Nat) : ∀ (cs : List RChg) {l : Dir}, Sorted l → mayR l cs → onto blk (dirR l cs) = apps (onto blk l) (cs.map (chgOf blk)) ∧ Sorted (dirR l cs)
  | [], _, hs, _ => ⟨rfl, hs⟩
  | c :: cs, l, hs, hk => by
    obtain ⟨h1, h2⟩ := done_app blk hs c hk.1
    obtain ⟨h3, h4⟩ := dir_apps blk cs h2 hk.2
    refine ⟨?_, h4⟩
    show onto blk (dirR (doneR l c) cs) = apps ((chgOf blk c).app (onto blk l)) (cs.map (chgOf blk))
    rw [h3, h1]
theorem dir_snoc (l : Dir) (cs : List RChg) (c : RChg) : dirR l (cs ++ [c]) = doneR (dirR l cs) c := by simp [dirR]
theorem mayR_snoc {c : RChg} : ∀ {cs : List RChg} {l : Dir}, mayR l (cs ++ [c]) ↔ mayR l cs ∧ mayC (dirR l cs) c
  | [], l => by simp [mayR, dirR]
  | e :: cs, l => by
    show mayC l e ∧ mayR (doneR l e) (cs ++ [c]) ↔ (mayC l e ∧ mayR (doneR l e) cs) ∧ mayC (dirR (doneR l e) cs) c
    rw [mayR_snoc (cs := cs), and_assoc]
theorem mayR_take {cs : List RChg} {l : Dir} (h : mayR l cs) (k : Nat) : mayR l (cs.take k) := by
  induction cs generalizing l k with
  | nil => simpa using h
  | cons c cs ih =>
    cases k with
    | zero => trivial
    | succ k => exact ⟨h.1, ih h.2 k⟩
/-- is the file one of the directory, now or by a change? -/
def RDisk.live (r : RDisk) (i : Nat) : Prop := (∃ n, (n, i) ∈ r.sure) ∨ ∃ c ∈ r.loose, c.kind = 1 ∧ c.file = i
/-- a disk, and the reference's: file i is block 'blk i' -/
structure Sim (blk : Nat → Nat) (d : Disk) (r : RDisk) : Prop where
  sure : d.sure = onto blk r.sure
  loose : d.loose = r.loose.map (chgOf blk)
  srt : Sorted r.sure
  ok : mayR r.sure r.loose
  room : d.room = r.room
  fuse : d.fuse = r.fuse
  down : d.down = r.off
  inj : ∀ i j, r.live i → r.live j → blk i = blk j → i = j
  files : ∀ i, r.live i → r.files[i]? = some (d.bytes (blk i), d.firm (blk i))
theorem Sim.now {blk : Nat → Nat} {d : Disk} {r : RDisk} (h : Sim blk d r) : d.now = onto blk r.dir ∧ Sorted r.dir := by
  obtain ⟨h1, h2⟩ := dir_apps blk r.loose h.srt h.ok
  refine ⟨?_, h2⟩
  unfold Disk.now
  rw [h.sure, h.loose]
  exact h1.symm
theorem done_all {P : Nat → Prop} {l : Dir} {c : RChg} (hl : ∀ p ∈ l, P p.2) (hc : c.kind = 1 → P c.file) (hk : mayC l c) : ∀ p ∈ doneR l c, P p.2 := by
  intro p hp
  have ho : ∀ q ∈ outR l c, P q.2 := fun q hq => hl q (List.mem_filter.1 hq).1
  have hins : ∀ (e : Nm × Nat) (m : Dir), P e.2 → (∀ q ∈ m, P q.2) → ∀ q ∈ insR e m, P q.2 := by
    intro e m he
    induction m with
    | nil => intro _ q hq; rw [List.mem_singleton.1 hq]; exact he
    | cons a m ih =>
      intro hm q hq
      unfold insR at hq
      split at hq
      · rcases List.mem_cons.1 hq with rfl | hq
        · exact hm q (by simp)
        · exact ih (fun r hr => hm r (by simp [hr])) q hq
      · rcases List.mem_cons.1 hq with rfl | hq
        · exact he
        · exact hm q hq
  unfold doneR at hp
  split at hp
  · exact ho p hp
  · split at hp
    · rename_i h1
      exact hins _ _ (hc h1) ho p hp
    · rename_i h3 h1
      rcases hk with hk | hk | ⟨_, _, hg⟩
      · exact absurd hk h1
      · exact absurd hk h3
      · obtain ⟨i, hi⟩ := Option.isSome_iff_exists.1 hg
        rw [hi] at hp
        exact hins (c.dest, i) _ (hl (c.src, i) (get_mem hi)) ho p hp
theorem live_dir (r : RDisk) (h : mayR r.sure r.loose) : ∀ p ∈ r.dir, r.live p.2 := by
  have key : ∀ (cs : List RChg) (l : Dir), mayR l cs → (∀ p ∈ l, r.live p.2) → (∀ c ∈ cs, c.kind = 1 → r.live c.file) → ∀ p ∈ dirR l cs, r.live p.2 := by
    intro cs
    induction cs with
    | nil => intro l _ hl _; exact hl
    | cons c cs ih => intro l hk hl hc; exact ih (doneR l c) hk.2 (done_all hl (hc c (by simp)) hk.1) (fun e he => hc e (by simp [he]))
  exact key r.loose r.sure h (fun p hp => .inl ⟨p.1, hp⟩) (fun c hc hk => .inr ⟨c, hc, hk, rfl⟩)
theorem Sim.has {blk : Nat → Nat} {d : Disk} {r : RDisk} (h : Sim blk d r) {i : Nat} (hi : r.live i) : d.has (blk i) := by
  rcases hi with ⟨n, hn⟩ | ⟨c, hc, hk, rfl⟩
  · exact .inl ⟨n, by rw [h.sure]; exact List.mem_map.2 ⟨(n, i), hn, rfl⟩⟩
  · exact .inr ⟨c.src, by rw [h.loose]; exact List.mem_map.2 ⟨c, hc, by unfold chgOf; rw [if_pos hk]⟩⟩
theorem Sim.get {blk : Nat → Nat} {d : Disk} {r : RDisk} (h : Sim blk d r) (n : Nm) : get d.now n = (get r.dir n).map blk := by
  rw [h.now.1, get_onto]
theorem Sim.bytes {blk : Nat → Nat} {d : Disk} {r : RDisk} (h : Sim blk d r) {p : Nm × Nat} (hp : p ∈ r.dir) : r.files[p.2]? = some (d.bytes (blk p.2), d.firm (blk p.2))  :=
  h.files p.2 (live_dir r h.ok p hp)
theorem Sim.used {blk : Nat → Nat} {d : Disk} {r : RDisk} (h : Sim blk d r) : used d.bytes d.now = r.used := by
  unfold Fs.used RDisk.used
  rw [h.now.1]
  unfold onto
  rw [List.map_map]
  congr 1
  refine List.map_congr_left (fun p hp => ?_)
  show (d.bytes (blk p.2)).length = (r.bytes p.2).length
  unfold RDisk.bytes
  rw [h.bytes hp]
  rfl
theorem Sim.power {blk : Nat → Nat} {d : Disk} {r : RDisk} (h : Sim blk d r) : Sim blk d.power.2 r.power.2 ∧ d.power.1 = if r.power.1 = true then 0 else 2 := by
  have hf := h.fuse
  unfold Disk.power RDisk.power
  by_cases h0 : r.fuse = 0
  · rw [if_pos (hf.trans h0), if_pos h0]
    exact ⟨⟨h.sure, h.loose, h.srt, h.ok, h.room, h.fuse, rfl, h.inj, h.files⟩, rfl⟩
  · rw [if_neg (fun e => h0 (hf.symm.trans e)), if_neg h0]
    by_cases h1 : r.fuse > 0
    · rw [if_pos (by rw [hf]; exact h1), if_pos h1]
      exact ⟨⟨h.sure, h.loose, h.srt, h.ok, h.room, by show d.fuse - 1 = r.fuse - 1; rw [hf], h.down, h.inj, h.files⟩, rfl⟩
    · rw [if_neg (by rw [hf]; exact h1), if_neg h1]
      exact ⟨h, rfl⟩
end Go.Proofs.Ytibmgcihpbofdaa.Fs
namespace Go.Proofs.Ytibmgcihpbofdaa.Fs
open Go.RowKit Go.Proofs.Ytibmgcihpbofdaa.Plain Go.WideShapes Go.Sort
set_option linter.unusedVariables false
set_option linter.unusedSimpArgs false
theorem insR_all {P : Nm × Nat → Prop} (e : Nm × Nat) : ∀ m : Dir, P e → (∀ q ∈ m, P q) → ∀ q ∈ insR e m, P q
  | [], he, _, q, hq => by rw [List.mem_singleton.1 hq]; exact he
  | a :: m, he, hm, q, hq => by
    unfold insR at hq
    split at hq
    · rcases List.mem_cons.1 hq with rfl | hq
      · exact hm q (by simp)
      · exact insR_all e m he (fun r hr => hm r (by simp [hr])) q hq
    · rcases List.mem_cons.1 hq with rfl | hq
      · exact he
      · exact hm q hq
theorem dir_all {P : Nm × Nat → Prop} : ∀ (cs : List RChg) (l : Dir), mayR l cs → (∀ p ∈ l, P p) → (∀ c ∈ cs, c.kind = 1 → P (c.src, c.file)) → (∀ c ∈ cs, c.kind = 2 → ∀ n i, P (n, i) → P (c.dest, i)) → ∀ p ∈ dirR l cs, P p
  | [], l, _, hl, _, _ => hl
  | c :: cs, l, hk, hl, h1, h2 => by
    refine dir_all cs (doneR l c) hk.2 (fun p hp => ?_) (fun e he => h1 e (by simp [he])) (fun e he => h2 e (by simp [he]))
    have ho : ∀ q ∈ outR l c, P q := fun q hq => hl q (List.mem_filter.1 hq).1
    unfold doneR at hp
    split at hp
    · exact ho p hp
    · split at hp
      · rename_i h3 h4
        exact insR_all _ _ (h1 c (by simp) h4) ho p hp
      · rename_i h3 h4
        rcases hk.1 with hk | hk | ⟨hk, _, hg⟩
        · exact absurd hk h4
        · exact absurd hk h3
        · obtain ⟨i, hi⟩ := Option.isSome_iff_exists.1 hg
          rw [hi] at hp
          exact insR_all _ _ (h2 c (by simp) hk _ i (hl _ (get_mem hi))) ho p hp
theorem insR_length (e : Nm × Nat) : ∀ m : Dir, (insR e m).length = m.length + 1
  | [] => rfl
  | a :: m => by
    unfold insR
    split
    · simp [insR_length e m]
    · rfl
theorem doneR_length (l : Dir) (c : RChg) : (doneR l c).length ≤ l.length + 1 := by
  have : (outR l c).length ≤ l.length := List.length_filter_le _ _
  unfold doneR
  split
  · omega
  · split <;> rw [insR_length] <;> omega
theorem dirR_length : ∀ (cs : List RChg) (l : Dir), (dirR l cs).length ≤ l.length + cs.length
  | [], l => Nat.le_refl _
  | c :: cs, l => by
    have h1 := dirR_length cs (doneR l c)
    have h2 := doneR_length l c
    show (dirR (doneR l c) cs).length ≤ _
    simp only [List.length_cons]
    omega
/-- names that are right, files that are there -/
structure ROk (r : RDisk) (N : Nat) : Prop where
  srt : Sorted r.sure
  ok : mayR r.sure r.loose
  rt1 : ∀ p ∈ r.sure, rightB p.1 = true
  rt2 : ∀ c ∈ r.loose, rightB c.src = true ∧ (c.kind = 2 → rightB c.dest = true)
  kd : ∀ c ∈ r.loose, c.kind = 1 ∨ c.kind = 2 ∨ c.kind = 3
  live : ∀ i, r.live i → i < r.files.length
  firm : ∀ p ∈ r.files, p.2 ≤ p.1.length ∧ p.1.length ≤ N
  many : r.sure.length + r.loose.length ≤ N ∧ r.files.length ≤ N
  room : 0 ≤ r.room ∧ r.room ≤ 16777216
  fuse : -1 ≤ r.fuse ∧ r.fuse ≤ 9223372036854775807
theorem ROk.right {r : RDisk} {N : Nat} (h : ROk r N) : ∀ p ∈ r.dir, rightB p.1 = true :=
  dir_all (P := fun p => rightB p.1 = true) r.loose r.sure h.ok h.rt1 (fun c hc _ => (h.rt2 c hc).1) (fun c hc hk _ _ _ => (h.rt2 c hc).2 hk)
theorem ROk.dirLen {r : RDisk} {N : Nat} (h : ROk r N) : r.dir.length ≤ N := Nat.le_trans (dirR_length r.loose r.sure) h.many.1
theorem ROk.there {r : RDisk} {N : Nat} (h : ROk r N) : ∀ p ∈ r.dir, p.2 < r.files.length := fun p hp => h.live p.2 (live_dir r h.ok p hp)
theorem ROk.le {r : RDisk} {N N' : Nat} (h : ROk r N) (hN : N ≤ N') : ROk r N' :=
  { h with firm := fun p hp => ⟨(h.firm p hp).1, Nat.le_trans (h.firm p hp).2 hN⟩, many := ⟨Nat.le_trans h.many.1 hN, Nat.le_trans h.many.2 hN⟩ }
theorem dir_sorted {l : Dir} (hs : Sorted l) {cs : List RChg} (hk : mayR l cs) : Sorted (dirR l cs) := (dir_apps (fun _ => 0) cs hs hk).2
theorem ROk.sorted {r : RDisk} {N : Nat} (h : ROk r N) : Sorted r.dir := dir_sorted h.srt h.ok
def RDisk.firm (r : RDisk) (i : Nat) : Nat := ((r.files[i]?).map (·.2)).getD 0
/-- a change of the directory, where there is power -/
def RDisk.push (r : RDisk) (c : RChg) : RDisk := { r with loose := r.loose ++ [c] }
def RDisk.born (r : RDisk) (a : Nm) : RDisk := { r with files := r.files ++ [([], 0)], loose := r.loose ++ [⟨1, a, [], r.files.length⟩] }
def RDisk.write (r : RDisk) (i : Nat) (b : List UInt8) (s : Nat) : RDisk := { r with files := r.files.set i (b, s) }
def RDisk.firmed (r : RDisk) : RDisk := { r with sure := r.dir, loose := [] }
def RDisk.on (r : RDisk) (f : RDisk → RDisk) : Int × RDisk := if r.power.1 = true then (0, f r.power.2) else (2, r.power.2)
def RDisk.act (r : RDisk) (kind : Int) (a b : Nm) (u : List UInt8) : Int × RDisk :=
  if (kind < 6 ∧ rightB a = false) ∨ (kind = 4 ∧ rightB b = false) then (1, r)
  else if r.off = true then (2, r)
  else if kind = 1 then (if (get r.dir a).isSome then (5, r) else if r.dir.length ≥ 256 then (3, r) else r.on (·.born a))
  else if kind = 6 then r.on (·.firmed)
  else match get r.dir a with
    | none => (4, r)
    | some i =>
      if kind = 2 then (if (u.length : Int) > r.room - (r.used : Int) then (3, r) else r.on (·.write i (r.bytes i ++ u) (r.firm i)))
      else if kind = 3 then r.on (·.write i (r.bytes i) (r.bytes i).length)
      else if kind = 4 then r.on (fun x => if a = b then x else x.push ⟨2, a, b, 0⟩)
      else r.on (·.push ⟨3, a, [], 0⟩)
def cutR (more : Int) (p : List UInt8 × Nat) : List UInt8 × Nat :=
  (p.1.take (p.2 + min (max more 0).toNat (p.1.length - p.2)), p.2 + min (max more 0).toNat (p.1.length - p.2))
def RDisk.crash (r : RDisk) (dirs more : Int) : RDisk :=
  { sure := dirR r.sure (r.loose.take (min (max dirs 0) (r.loose.length : Int)).toNat), loose := [], files := r.files.map (cutR more), room := r.room, fuse := -1, off := false }
/-! the two powers -/
theorem dpow_eq (d : Disk) : ∃ fu dn, d.power.2 = { d with fuse := fu, down := dn } := by
  unfold Disk.power
  split
  · exact ⟨d.fuse, true, rfl⟩
  · split
    · exact ⟨d.fuse - 1, d.down, rfl⟩
    · exact ⟨d.fuse, d.down, rfl⟩
theorem rpow_eq (r : RDisk) : ∃ fu dn, r.power.2 = { r with fuse := fu, off := dn } ∧ (-1 ≤ r.fuse ∧ r.fuse ≤ 9223372036854775807 → -1 ≤ fu ∧ fu ≤ 9223372036854775807) := by
  unfold RDisk.power
  split
  · exact ⟨r.fuse, true, rfl, fun h => h⟩
  · split
    · exact ⟨r.fuse - 1, r.off, rfl, fun h => by constructor <;> omega⟩
    · exact ⟨r.fuse, r.off, rfl, fun h => h⟩
theorem ROk.power {r : RDisk} {N : Nat} (h : ROk r N) : ROk r.power.2 N := by
  obtain ⟨fu, dn, e, hf⟩ := rpow_eq r
  rw [e]
  exact ⟨h.srt, h.ok, h.rt1, h.rt2, h.kd, h.live, h.firm, h.many, h.room, hf h.fuse⟩
theorem live_snoc {r : RDisk} {c : RChg} {i : Nat} {fs : List (List UInt8 × Nat)} (h : RDisk.live { r with files := fs, loose := r.loose ++ [c] } i) : r.live i ∨ (c.kind = 1 ∧ c.file = i) := by
  rcases h with h | ⟨e, he, hk, hf⟩
  · exact .inl (.inl h)
  · rcases List.mem_append.1 he with he | he
    · exact .inl (.inr ⟨e, he, hk, hf⟩)
    · rw [List.mem_singleton.1 he] at hk hf
      exact .inr ⟨hk, hf⟩
theorem Sim.push {blk : Nat → Nat} {d : Disk} {r : RDisk} (h : Sim blk d r) (c : RChg) (hc : mayC r.dir c) (h1 : c.kind ≠ 1) : Sim blk { d with loose := d.loose ++ [chgOf blk c] } (r.push c) := by
  have hl : ∀ i, (r.push c).live i → r.live i := fun i hi => (live_snoc (fs := r.files) hi).resolve_right (fun e => h1 e.1)
  exact ⟨h.sure, by show d.loose ++ _ = (r.loose ++ [c]).map _; rw [h.loose, List.map_append]; rfl, h.srt, mayR_snoc.2 ⟨h.ok, hc⟩, h.room, h.fuse, h.down, fun i j hi hj => h.inj i j (hl i hi) (hl j hj), fun i hi => h.files i (hl i hi)⟩
theorem ROk.push {r : RDisk} {N : Nat} (h : ROk r N) (c : RChg) (hc : mayC r.dir c) (h1 : c.kind ≠ 1) (hr : rightB c.src = true ∧ (c.kind = 2 → rightB c.dest = true)) : ROk (r.push c) (N + 1) := by
  have hl : ∀ i, (r.push c).live i → r.live i := fun i hi => (live_snoc (fs := r.files) hi).resolve_right (fun e => h1 e.1)
  have h2 := h.le (Nat.le_succ N)
  refine ⟨h.srt, mayR_snoc.2 ⟨h.ok, hc⟩, h.rt1, fun e he => ?_, fun e he => ?_, fun i hi => h.live i (hl i hi), h2.firm, ⟨?_, h2.many.2⟩, h.room, h.fuse⟩
  · rcases List.mem_append.1 he with he | he
    · exact h.rt2 e he
    · rw [List.mem_singleton.1 he]; exact hr
  · rcases List.mem_append.1 he with he | he
    · exact h.kd e he
    · rw [List.mem_singleton.1 he]
      rcases hc with k | k | ⟨k, _⟩
      · exact .inl k
      · exact .inr (.inr k)
      · exact .inr (.inl k)
  · have := h.many.1
    show r.sure.length + (r.loose ++ [c]).length ≤ N + 1
    rw [List.length_append, List.length_singleton]
    omega
/-- a block that is none of the disk's -/
theorem Sim.junk {blk : Nat → Nat} {d : Disk} {r : RDisk} (h : Sim blk d r) {y : Nat} (hy : ¬ d.has y) (b : List UInt8) (s : Nat) : Sim blk { d with bytes := setAt d.bytes y b, firm := setAt d.firm y s } r := by
  refine ⟨h.sure, h.loose, h.srt, h.ok, h.room, h.fuse, h.down, h.inj, fun i hi => ?_⟩
  have hne : blk i ≠ y := fun e => hy (e ▸ h.has hi)
  show _ = some (setAt d.bytes y b (blk i), setAt d.firm y s (blk i))
  rw [setAt_other _ _ hne, setAt_other _ _ hne]
  exact h.files i hi
theorem Sim.born {blk : Nat → Nat} {d : Disk} {r : RDisk} (h : Sim blk d r) (hl0 : ∀ i, r.live i → i < r.files.length) {y : Nat} (hy : ¬ d.has y) (hb : d.bytes y = []) (hf : d.firm y = 0) (a : Nm) :
    Sim (fun i => if i = r.files.length then y else blk i) { d with loose := d.loose ++ [.create a y] } (r.born a) := by
  have ho : ∀ i, r.live i → (if i = r.files.length then y else blk i) = blk i := fun i hi => if_neg (by have := hl0 i hi; omega)
  have hl : ∀ i, (r.born a).live i → r.live i ∨ i = r.files.length := fun i hi => (live_snoc hi).imp_right (fun e => e.2.symm)
  refine ⟨?_, ?_, h.srt, mayR_snoc.2 ⟨h.ok, .inl rfl⟩, h.room, h.fuse, h.down, fun i j hi hj e => ?_, fun i hi => ?_⟩
  · show d.sure = onto _ r.sure
    rw [h.sure]
    exact List.map_congr_left (fun p hp => by show (p.1, blk p.2) = (p.1, if p.2 = r.files.length then y else blk p.2); rw [ho p.2 (.inl ⟨p.1, hp⟩)])
  · show d.loose ++ _ = (r.loose ++ [_]).map _
    rw [h.loose, List.map_append]
    congr 1
    · refine List.map_congr_left (fun c hc => ?_)
      unfold chgOf
      by_cases h1 : c.kind = 1
      · rw [if_pos h1, if_pos h1]
        show Chg.create c.src (blk c.file) = Chg.create c.src (if c.file = r.files.length then y else blk c.file)
        rw [ho c.file (.inr ⟨c, hc, h1, rfl⟩)]
      · rw [if_neg h1, if_neg h1]
    · show _ = [chgOf _ ⟨1, a, [], r.files.length⟩]
      unfold chgOf
      rw [if_pos rfl]
      show _ = [Chg.create a (if r.files.length = r.files.length then y else blk r.files.length)]
      rw [if_pos rfl]
  · rcases hl i hi with hi' | hi' <;> rcases hl j hj with hj' | hj'
    · rw [ho i hi', ho j hj'] at e
      exact h.inj i j hi' hj' e
    · rw [ho i hi', if_pos hj'] at e
      exact absurd (h.has hi') (e ▸ hy)
    · rw [ho j hj', if_pos hi'] at e
      exact absurd (h.has hj') (e ▸ hy)
    · rw [hi', hj']
  · show (r.files ++ [([], 0)])[i]? = _
    rcases hl i hi with hi' | hi'
    · rw [ho i hi', List.getElem?_append_left (hl0 i hi')]
      exact h.files i hi'
    · rw [if_pos hi', hi', List.getElem?_append_right (Nat.le_refl _), Nat.sub_self, hb, hf]
      rfl
theorem ROk.born {r : RDisk} {N : Nat} (h : ROk r N) {a : Nm} (ha : rightB a = true) : ROk (r.born a) (N + 1) := by
  have h2 := h.le (Nat.le_succ N)
  refine ⟨h.srt, mayR_snoc.2 ⟨h.ok, .inl rfl⟩, h.rt1, fun e he => ?_, fun e he => ?_, fun i hi => ?_, fun p hp => ?_, ⟨?_, ?_⟩, h.room, h.fuse⟩
  · rcases List.mem_append.1 he with he | he
    · exact h.rt2 e he
    · rw [List.mem_singleton.1 he]; exact ⟨ha, fun e => by simp at e⟩
  · rcases List.mem_append.1 he with he | he
    · exact h.kd e he
    · rw [List.mem_singleton.1 he]; exact .inl rfl
  · show i < (r.files ++ [([], 0)]).length
    rw [List.length_append, List.length_singleton]
    rcases live_snoc hi with hi | hi
    · have := h.live i hi; omega
    · have := hi.2; simp only [] at this; omega
  · rcases List.mem_append.1 hp with hp | hp
    · exact h2.firm p hp
    · rw [List.mem_singleton.1 hp]; simp
  · have := h.many.1
    show r.sure.length + (r.loose ++ [_]).length ≤ N + 1
    rw [List.length_append, List.length_singleton]
    omega
  · have := h.many.2
    show (r.files ++ [_]).length ≤ N + 1
    rw [List.length_append, List.length_singleton]
    omega
theorem Sim.write {blk : Nat → Nat} {d : Disk} {r : RDisk} (h : Sim blk d r) {i : Nat} (hi : r.live i) (b : List UInt8) (s : Nat) (d' : Disk) (hd : d' = { d with bytes := setAt d.bytes (blk i) b, firm := setAt d.firm (blk i) s }) : Sim blk d' (r.write i b s) := by
  subst hd
  refine ⟨h.sure, h.loose, h.srt, h.ok, h.room, h.fuse, h.down, h.inj, fun j hj => ?_⟩
  have hj' : r.live j := hj
  show (r.files.set i (b, s))[j]? = some (setAt d.bytes (blk i) b (blk j), setAt d.firm (blk i) s (blk j))
  have hs := h.files i hi
  have hlt : i < r.files.length := (List.getElem?_eq_some_iff.1 hs).1
  by_cases e : i = j
  · subst e
    rw [setAt_same, setAt_same, List.getElem?_set_self hlt]
  · have hne : blk j ≠ blk i := fun e2 => e (h.inj j i hj' hi e2).symm
    rw [setAt_other _ _ hne, setAt_other _ _ hne, List.getElem?_set_ne e]
    exact h.files j hj'
theorem ROk.write {r : RDisk} {N M : Nat} (h : ROk r N) {i : Nat} {b : List UInt8} {s : Nat} (hNM : N ≤ M) (hs : s ≤ b.length) (hb : b.length ≤ M) : ROk (r.write i b s) M := by
  have h2 := h.le hNM
  refine ⟨h.srt, h.ok, h.rt1, h.rt2, h.kd, fun j hj => ?_, fun p hp => ?_, ⟨h2.many.1, ?_⟩, h.room, h.fuse⟩
  · show j < (r.files.set i (b, s)).length
    rw [List.length_set]
    exact h.live j hj
  · rcases List.mem_or_eq_of_mem_set hp with hp | rfl
    · exact h2.firm p hp
    · exact ⟨hs, hb⟩
  · show (r.files.set i (b, s)).length ≤ M
    rw [List.length_set]
    exact h2.many.2
theorem live_firmed {r : RDisk} (hk : mayR r.sure r.loose) {i : Nat} (h : r.firmed.live i) : r.live i := by
  rcases h with ⟨n, hn⟩ | ⟨c, hc, _⟩
  · exact live_dir r hk (n, i) hn
  · cases hc
theorem Sim.firmed {blk : Nat → Nat} {d : Disk} {r : RDisk} (h : Sim blk d r) : Sim blk { d with sure := d.now, loose := [] } r.firmed :=
  ⟨h.now.1, rfl, h.now.2, trivial, h.room, h.fuse, h.down, fun i j hi hj => h.inj i j (live_firmed h.ok hi) (live_firmed h.ok hj), fun i hi => h.files i (live_firmed h.ok hi)⟩
theorem ROk.firmed {r : RDisk} {N : Nat} (h : ROk r N) : ROk r.firmed N :=
  ⟨h.sorted, trivial, h.right, fun c hc => (by cases hc), fun c hc => (by cases hc), fun i hi => h.live i (live_firmed h.ok hi), h.firm, ⟨h.dirLen, h.many.2⟩, h.room, h.fuse⟩
/-! every write -/
theorem dpow_raw (d : Disk) : d.power.2.sure = d.sure ∧ d.power.2.loose = d.loose ∧ d.power.2.bytes = d.bytes ∧ d.power.2.firm = d.firm ∧ d.power.2.now = d.now := by
  obtain ⟨fu, dn, e⟩ := dpow_eq d
  rw [e]
  exact ⟨rfl, rfl, rfl, rfl, rfl⟩
theorem rpow_raw (r : RDisk) : r.power.2.files = r.files ∧ r.power.2.dir = r.dir ∧ (∀ i, r.power.2.live i ↔ r.live i) := by
  obtain ⟨fu, dn, e, -⟩ := rpow_eq r
  rw [e]
  exact ⟨rfl, rfl, fun i => Iff.rfl⟩
/-- what is done where there is power -/
theorem sim_on {blk blk' : Nat → Nat} {d : Disk} {r : RDisk} (h : Sim blk d r) {q : Int × Disk} {F : RDisk → RDisk} {D : Disk} (hq : q = if d.power.1 = 0 then (0, D) else d.power) (hD : Sim blk d.power.2 r.power.2 → Sim blk' D (F r.power.2)) :
    (∃ b, Sim b q.2 (r.on F).2) ∧ q.1 = (r.on F).1 := by
  obtain ⟨hs, hp⟩ := h.power
  unfold RDisk.on
  by_cases h0 : r.power.1 = true
  · rw [if_pos h0] at hp
    rw [if_pos h0, hq, if_pos hp]
    exact ⟨⟨_, hD hs⟩, rfl⟩
  · rw [if_neg h0] at hp
    rw [if_neg h0, hq, if_neg (by rw [hp]; omega)]
    exact ⟨⟨_, hs⟩, hp⟩
theorem change_eq (d : Disk) (c : Chg) : d.change c = if d.power.1 = 0 then (0, { d.power.2 with loose := d.power.2.loose ++ [c] }) else d.power := by
  unfold Disk.change
  rw [(dpow_raw d).2.1]
theorem live_get {r : RDisk} (hk : mayR r.sure r.loose) {a : Nm} {i : Nat} (h : get r.dir a = some i) : r.live i := live_dir r hk (a, i) (get_mem h)
theorem Sim.both {blk : Nat → Nat} {d : Disk} {r : RDisk} (h : Sim blk d r) {i : Nat} (hi : r.live i) : r.bytes i = d.bytes (blk i) ∧ r.firm i = d.firm (blk i) := by
  unfold RDisk.bytes RDisk.firm
  rw [h.files i hi]
  exact ⟨rfl, rfl⟩
theorem sim_act {blk : Nat → Nat} {d : Disk} {r : RDisk} {N : Nat} (h : Sim blk d r) (hok : ROk r N) {kind : Int} (hk : 1 ≤ kind ∧ kind ≤ 6) {y : Nat} (hy : kind = 1 → ¬ d.has y) (a b : Nm) (u : List UInt8) :
    (∃ blk', Sim blk' (d.act y kind a b u).2 (r.act kind a b u).2) ∧ (d.act y kind a b u).1 = (r.act kind a b u).1 := by
  have hlen : d.now.length = r.dir.length := by rw [h.now.1]; simp [onto]
  have hdn := h.down
  have hrd : ∀ ns : List Nm, d.ready ns = if ns.any (fun n => !rightB n) then 1 else if r.off then 2 else 0 := fun ns => by unfold Disk.ready; rw [hdn]
  have h6 : kind = 1 ∨ kind = 2 ∨ kind = 3 ∨ kind = 4 ∨ kind = 5 ∨ kind = 6 := by omega
  clear hk
  by_cases hra : kind < 6 ∧ rightB a = false
  · have e : r.act kind a b u = (1, r) := by unfold RDisk.act; rw [if_pos (.inl hra)]
    rw [e]
    have hr1 : ∀ ns, d.ready (a :: ns) = 1 := fun ns => by rw [hrd]; simp [hra.2]
    have e2 : d.act y kind a b u = (1, d) := by
      rcases h6 with rfl | rfl | rfl | rfl | rfl | rfl
      · show d.create y a = _; unfold Disk.create; rw [hr1, if_pos (by omega)]
      · show d.append a u = _; unfold Disk.append; rw [hr1, if_pos (by omega)]
      · show d.sync a = _; unfold Disk.sync; rw [hr1, if_pos (by omega)]
      · show d.rename a b = _; unfold Disk.rename; rw [hr1, if_pos (by omega)]
      · show d.unlink a = _; unfold Disk.unlink; rw [hr1, if_pos (by omega)]
      · have := hra.1; omega
    rw [e2]
    exact ⟨⟨_, h⟩, rfl⟩
  by_cases hrb : kind = 4 ∧ rightB b = false
  · have e : r.act kind a b u = (1, r) := by unfold RDisk.act; rw [if_pos (.inr hrb)]
    rw [e]
    obtain ⟨rfl, hb⟩ := hrb
    have e2 : d.act y 4 a b u = (1, d) := by
      show d.rename a b = _; unfold Disk.rename; rw [hrd, if_pos (by simp [hb])]; simp [hb]
    rw [e2]
    exact ⟨⟨_, h⟩, rfl⟩
  have hra' : kind < 6 → rightB a = true := fun hk => by
    cases hh : rightB a with
    | true => rfl
    | false => exact absurd ⟨hk, hh⟩ hra
  have hrb' : kind = 4 → rightB b = true := fun hk => by
    cases hh : rightB b with
    | true => rfl
    | false => exact absurd ⟨hk, hh⟩ hrb
  have e0 : r.act kind a b u = if r.off = true then (2, r) else if kind = 1 then (if (get r.dir a).isSome then (5, r) else if r.dir.length ≥ 256 then (3, r) else r.on (·.born a)) else if kind = 6 then r.on (·.firmed) else match get r.dir a with
    | none => (4, r)
    | some i =>
      if kind = 2 then (if (u.length : Int) > r.room - (r.used : Int) then (3, r) else r.on (·.write i (r.bytes i ++ u) (r.firm i)))
      else if kind = 3 then r.on (·.write i (r.bytes i) (r.bytes i).length)
      else if kind = 4 then r.on (fun x => if a = b then x else x.push ⟨2, a, b, 0⟩)
      else r.on (·.push ⟨3, a, [], 0⟩) := by
    conv => lhs; unfold RDisk.act
    rw [if_neg (fun e => e.elim hra hrb)]
  rw [e0]
  clear e0
  cases hoff : r.off with
  | true =>
    rw [if_pos rfl]
    have e2 : d.act y kind a b u = (2, d) := by
      rcases h6 with rfl | rfl | rfl | rfl | rfl | rfl
      · show d.create y a = _; unfold Disk.create; simp [hrd, hra', hoff]
      · show d.append a u = _; unfold Disk.append; simp [hrd, hra', hoff]
      · show d.sync a = _; unfold Disk.sync; simp [hrd, hra', hoff]
      · show d.rename a b = _; unfold Disk.rename; simp [hrd, hra', hrb', hoff]
      · show d.unlink a = _; unfold Disk.unlink; simp [hrd, hra', hoff]
      · show d.dirSync = _; unfold Disk.dirSync; simp [hrd, hoff]
    rw [e2]
    exact ⟨⟨_, h⟩, rfl⟩
  | false =>
    rw [if_neg (by simp)]
    have hr0 : kind < 6 → d.ready [a] = 0 := fun hk => by rw [hrd]; simp [hra' hk, hoff]
    have hg := h.get a
    have hpl := (rpow_raw r).2.2
    rcases h6 with rfl | rfl | rfl | rfl | rfl | rfl
    · rw [if_pos rfl]
      show (∃ B, Sim B (d.create y a).2 _) ∧ (d.create y a).1 = _
      unfold Disk.create
      rw [hr0 (by omega), if_neg (by simp), hg, Option.isSome_map]
      by_cases hs : (get r.dir a).isSome = true
      · rw [if_pos hs, if_pos hs]
        exact ⟨⟨_, h⟩, rfl⟩
      · rw [if_neg hs, if_neg hs, hlen]
        by_cases hl : r.dir.length ≥ 256
        · rw [if_pos hl, if_pos hl]
          exact ⟨⟨_, h⟩, rfl⟩
        · rw [if_neg hl, if_neg hl]
          have hy1 := hy rfl
          have h1 := h.junk hy1 [] 0
          refine sim_on (blk' := fun i => if i = r.power.2.files.length then y else blk i) h1 (change_eq _ _) (fun hs => ?_)
          have hy2 : ¬ Disk.has { d with bytes := setAt d.bytes y [], firm := setAt d.firm y 0 } y := hy1
          obtain ⟨q1, q2, q3, q4, -⟩ := dpow_raw { d with bytes := setAt d.bytes y [], firm := setAt d.firm y 0 }
          refine Sim.born hs (fun i hi => by rw [(rpow_raw r).1]; exact hok.live i ((hpl i).1 hi)) (fun hh => hy2 ?_) (by rw [q3]; exact setAt_same _ _ _) (by rw [q4]; exact setAt_same _ _ _) a
          unfold Disk.has at hh ⊢
          rw [q1, q2] at hh
          exact hh
    · rw [if_neg (by omega), if_neg (by omega)]
      show (∃ B, Sim B (d.append a u).2 _) ∧ (d.append a u).1 = _
      unfold Disk.append
      rw [hr0 (by omega), if_neg (by simp), hg]
      cases hi : get r.dir a with
      | none => exact ⟨⟨_, h⟩, rfl⟩
      | some i =>
        simp only [Option.map_some]
        rw [if_pos (show True from trivial), h.room, h.used]
        by_cases hf : (u.length : Int) > r.room - (r.used : Int)
        · rw [if_pos hf, if_pos hf]
          exact ⟨⟨_, h⟩, rfl⟩
        · rw [if_neg hf, if_neg hf]
          have hlv := live_get hok.ok hi
          refine sim_on h rfl (fun hs => hs.write ((hpl i).2 hlv) _ _ _ ?_)
          obtain ⟨q1, q2, q3, q4, -⟩ := dpow_raw d
          obtain ⟨b1, b2⟩ := h.both hlv
          rw [b1, b2, q3, q4, setAt_id]
    · rw [if_neg (by omega), if_neg (by omega)]
      show (∃ B, Sim B (d.sync a).2 _) ∧ (d.sync a).1 = _
      unfold Disk.sync
      rw [hr0 (by omega), if_neg (by simp), hg]
      cases hi : get r.dir a with
      | none => exact ⟨⟨_, h⟩, rfl⟩
      | some i =>
        simp only [Option.map_some]
        rw [if_neg (show ¬ (3 : Int) = 2 by decide), if_pos (show True from trivial)]
        have hlv := live_get hok.ok hi
        refine sim_on h rfl (fun hs => hs.write ((hpl i).2 hlv) _ _ _ ?_)
        obtain ⟨q1, q2, q3, q4, -⟩ := dpow_raw d
        obtain ⟨b1, b2⟩ := h.both hlv
        rw [b1, q3, q4, setAt_id]
    · rw [if_neg (by omega), if_neg (by omega)]
      show (∃ B, Sim B (d.rename a b).2 _) ∧ (d.rename a b).1 = _
      unfold Disk.rename
      rw [show d.ready [a, b] = 0 by rw [hrd]; simp [hra', hrb', hoff], if_neg (by simp), hg]
      cases hi : get r.dir a with
      | none => exact ⟨⟨_, h⟩, rfl⟩
      | some i =>
        simp only [Option.map_some]
        rw [if_neg (show ¬ (4 : Int) = 2 by decide), if_neg (show ¬ (4 : Int) = 3 by decide), if_pos (show True from trivial)]
        by_cases hab : a = b
        · rw [if_pos hab]
          refine sim_on (blk' := blk) (D := d.power.2) h ?_ (fun hs => by rw [if_pos hab]; exact hs)
          by_cases hp : d.power.1 = 0
          · rw [if_pos hp, ← hp]
          · rw [if_neg hp]
        · rw [if_neg hab]
          refine sim_on (blk' := blk) h (change_eq d _) (fun hs => ?_)
          rw [if_neg hab]
          have hgd : (get r.power.2.dir a).isSome := by rw [(rpow_raw r).2.1, hi]; rfl
          exact hs.push ⟨2, a, b, 0⟩ (.inr (.inr ⟨rfl, hab, hgd⟩)) (by simp)
    · rw [if_neg (by omega), if_neg (by omega)]
      show (∃ B, Sim B (d.unlink a).2 _) ∧ (d.unlink a).1 = _
      unfold Disk.unlink
      rw [hr0 (by omega), if_neg (by simp), hg]
      cases hi : get r.dir a with
      | none => exact ⟨⟨_, h⟩, rfl⟩
      | some i =>
        simp only [Option.map_some]
        rw [if_neg (show ¬ (5 : Int) = 2 by decide), if_neg (show ¬ (5 : Int) = 3 by decide), if_neg (show ¬ (5 : Int) = 4 by decide)]
        exact sim_on h (change_eq d _) (fun hs => hs.push ⟨3, a, [], 0⟩ (.inr (.inl rfl)) (by simp))
    · rw [if_neg (by omega), if_pos rfl]
      show (∃ B, Sim B d.dirSync.2 _) ∧ d.dirSync.1 = _
      unfold Disk.dirSync
      rw [hrd, if_neg (by simp [hoff])]
      refine sim_on (blk' := blk) h rfl (fun hs => ?_)
      have := hs.firmed
      rw [(dpow_raw d).2.2.2.2] at this
      exact this
theorem rok_on {r : RDisk} {N M : Nat} (h : ROk r N) (hNM : N ≤ M) {F : RDisk → RDisk} (hF : ROk r.power.2 N → ROk (F r.power.2) M) : ROk (r.on F).2 M := by
  unfold RDisk.on
  split
  · exact hF h.power
  · exact h.power.le hNM
theorem bytes_le {r : RDisk} {N : Nat} (h : ROk r N) (i : Nat) : (r.bytes i).length ≤ N ∧ r.firm i ≤ (r.bytes i).length := by
  unfold RDisk.bytes RDisk.firm
  cases hi : r.files[i]? with
  | none => simp
  | some p =>
    have := h.firm p (List.mem_of_getElem? hi)
    exact ⟨this.2, this.1⟩
theorem rok_act {r : RDisk} {N : Nat} (h : ROk r N) (kind : Int) (hk : 1 ≤ kind ∧ kind ≤ 6) (a b : Nm) (u : List UInt8) : ROk (r.act kind a b u).2 (N + u.length + 1) := by
  have h1 := h.le (show N ≤ N + u.length + 1 by omega)
  unfold RDisk.act
  split
  · exact h1
  rename_i hra
  have hra' : kind < 6 → rightB a = true := fun hk => by
    cases hh : rightB a with
    | true => rfl
    | false => exact absurd (.inl ⟨hk, hh⟩) hra
  have hrb' : kind = 4 → rightB b = true := fun hk => by
    cases hh : rightB b with
    | true => rfl
    | false => exact absurd (.inr ⟨hk, hh⟩) hra
  split
  · exact h1
  split
  · split
    · exact h1
    split
    · exact h1
    · exact rok_on h (by omega) (fun hp => (hp.born (hra' (by omega))).le (by omega))
  split
  · exact rok_on h (by omega) (fun hp => hp.firmed.le (by omega))
  split
  · exact h1
  rename_i i hi
  have hbl := bytes_le h i
  split
  · split
    · exact h1
    · exact rok_on h (by omega) (fun hp => hp.write (by omega) (by rw [List.length_append]; omega) (by rw [List.length_append]; omega))
  split
  · exact rok_on h (by omega) (fun hp => hp.write (by omega) (Nat.le_refl _) (by omega))
  split
  · refine rok_on h (by omega) (fun hp => ?_)
    split
    · exact hp.le (by omega)
    · rename_i hab
      exact (hp.push ⟨2, a, b, 0⟩ (.inr (.inr ⟨rfl, hab, by rw [(rpow_raw r).2.1, hi]; rfl⟩)) (by simp) ⟨hra' (by omega), fun _ => hrb' (by assumption)⟩).le (by omega)
  · exact rok_on h (by omega) (fun hp => (hp.push ⟨3, a, [], 0⟩ (.inr (.inl rfl)) (by simp) ⟨hra' (by omega), fun e => absurd e (by simp)⟩).le (by omega))
/-! a crash -/
theorem live_crash {r : RDisk} (hk : mayR r.sure r.loose) {n m : Int} {i : Nat} (h : (r.crash n m).live i) : (∃ p ∈ (r.crash n m).sure, p.2 = i) ∧ r.live i := by
  rcases h with ⟨nm, hn⟩ | ⟨c, hc, _⟩
  · refine ⟨⟨(nm, i), hn, rfl⟩, ?_⟩
    have hl := live_dir { r with loose := r.loose.take (min (max n 0) (r.loose.length : Int)).toNat } (mayR_take hk _) (nm, i) hn
    rcases hl with hl | ⟨c, hc, h1, h2⟩
    · exact .inl hl
    · exact .inr ⟨c, List.mem_of_mem_take hc, h1, h2⟩
  · cases hc
theorem sim_crash {blk : Nat → Nat} {d : Disk} {r : RDisk} {N : Nat} (h : Sim blk d r) (n m : Int) : Sim blk (d.crash n m) (r.crash n m) := by
  have hlen : d.loose.length = r.loose.length := by rw [h.loose]; simp
  have hd := dir_apps blk (r.loose.take (min (max n 0) (r.loose.length : Int)).toNat) h.srt (mayR_take h.ok _)
  have hs : (d.crash n m).sure = onto blk (r.crash n m).sure := by
    show apps d.sure (d.loose.take _) = onto blk (dirR r.sure _)
    rw [hd.1, h.sure, hlen, h.loose, List.map_take]
  refine ⟨hs, rfl, hd.2, trivial, h.room, rfl, rfl, fun i j hi hj => h.inj i j (live_crash h.ok hi).2 (live_crash h.ok hj).2, fun i hi => ?_⟩
  obtain ⟨⟨p, hp, rfl⟩, hl⟩ := live_crash h.ok hi
  have hany : (d.crash n m).sure.any (fun q => q.2 == blk p.2) = true := by
    rw [hs, List.any_eq_true]
    exact ⟨(p.1, blk p.2), List.mem_map.2 ⟨p, hp, rfl⟩, by simp⟩
  have e1 : (d.crash n m).bytes (blk p.2) = (d.bytes (blk p.2)).take (d.kept m (blk p.2)) := if_pos hany
  have e2 : (d.crash n m).firm (blk p.2) = d.kept m (blk p.2) := if_pos hany
  rw [e1, e2]
  show (r.files.map (cutR m))[p.2]? = _
  rw [List.getElem?_map, h.files p.2 hl]
  rfl
theorem rok_crash {r : RDisk} {N : Nat} (h : ROk r N) (n m : Int) : ROk (r.crash n m) N := by
  have hd := dir_apps (fun _ => 0) (r.loose.take (min (max n 0) (r.loose.length : Int)).toNat) h.srt (mayR_take h.ok _)
  refine ⟨hd.2, trivial, ?_, fun c hc => (by cases hc), fun c hc => (by cases hc), fun i hi => ?_, fun p hp => ?_, ⟨?_, ?_⟩, h.room, ⟨by show -1 ≤ (-1 : Int); omega, by show (-1 : Int) ≤ _; omega⟩⟩
  · exact dir_all (P := fun p => rightB p.1 = true) _ r.sure (mayR_take h.ok _) h.rt1 (fun c hc _ => (h.rt2 c (List.mem_of_mem_take hc)).1) (fun c hc hk _ _ _ => (h.rt2 c (List.mem_of_mem_take hc)).2 hk)
  · show i < (r.files.map (cutR m)).length
    rw [List.length_map]
    exact h.live i (live_crash h.ok hi).2
  · obtain ⟨q, hq, rfl⟩ := List.mem_map.1 hp
    have := h.firm q hq
    unfold cutR
    simp only [List.length_take]
    omega
  · have h1 := dirR_length (r.loose.take (min (max n 0) (r.loose.length : Int)).toNat) r.sure
    have h2 := h.many.1
    have h3 : (r.loose.take (min (max n 0) (r.loose.length : Int)).toNat).length ≤ r.loose.length := by rw [List.length_take]; omega
    show (dirR r.sure (r.loose.take _)).length + 0 ≤ N
    omega
  · show (r.files.map (cutR m)).length ≤ N
    rw [List.length_map]
    exact h.many.2
/-! the names, in order -/
theorem bytes_lt : ∀ (a b : List UInt8), bytesBefore a b = true → a ≤ b
  | [], [], h => by simp [bytesBefore] at h
  | [], _ :: _, _ => by simp
  | _ :: _, [], h => by simp [bytesBefore] at h
  | x :: a, y :: b, h => by
    simp only [bytesBefore, Bool.or_eq_true, decide_eq_true_eq, Bool.and_eq_true, beq_iff_eq] at h
    rcases h with h | ⟨rfl, h⟩
    · exact List.le_of_lt (List.Lex.rel h)
    · have := bytes_lt a b h
      rw [List.cons_le_cons_iff]
      exact .inr ⟨rfl, this⟩
theorem sorted_names {l : Dir} (h : Sorted l) : names l = l.map (·.1) := by
  unfold names
  refine List.mergeSort_of_pairwise ?_
  rw [List.pairwise_map]
  refine h.imp (fun {p q} hpq => ?_)
  simp only [leB, decide_eq_true_eq]
  exact bytes_lt p.1 q.1 hpq
theorem Sim.names {blk : Nat → Nat} {d : Disk} {r : RDisk} (h : Sim blk d r) : names d.now = r.dir.map (·.1) := by
  rw [h.now.1, sorted_names (sorted_onto h.now.2), onto_names]
theorem Sim.read {blk : Nat → Nat} {d : Disk} {r : RDisk} {N : Nat} (h : Sim blk d r) (hok : ROk r N) {p : Nm × Nat} (hp : p ∈ r.dir) (hg : Fs.get r.dir p.1 = some p.2) : d.read p.1 = if r.off = true then ([], 2) else (r.bytes p.2, 0) := by
  unfold Disk.read
  have hr : d.ready [p.1] = if r.off = true then 2 else 0 := by unfold Disk.ready; rw [h.down]; simp [hok.right p hp]
  rw [hr, h.get, hg]
  cases r.off with
  | true => rfl
  | false =>
    rw [if_neg (by simp), if_neg (by simp)]
    have := (h.both (live_dir r hok.ok p hp)).1
    rw [this]
    rfl
end Go.Proofs.Ytibmgcihpbofdaa.Fs
namespace Go.Proofs.Ytibmgcihpbofdaa.Fs
open Go.RowKit Go.Proofs.Ytibmgcihpbofdaa Go.Proofs.Ytibmgcihpbofdaa.Plain Go.Proofs.YtibmgcihpbofdaaW.PrintWords Go.Maps Go.WideShapes
set_option linter.unusedVariables false
set_option linter.unusedSimpArgs false
theorem infoEnt : (Try.prog.info? 88).map (fun i => (i.zero, i.size, i.bytes)) = some (some (.agg #[.string ByteArray.empty, .int .i64 0]), 2, 24) := by kernel_rfl
theorem infoChg : (Try.prog.info? 86).map (fun i => (i.zero, i.size, i.bytes)) = some (some (.agg #[.int .i64 0, .string ByteArray.empty, .string ByteArray.empty, .int .i64 0]), 4, 48) := by kernel_rfl
theorem infoFile : (Try.prog.info? 84).map (fun i => (i.zero, i.size, i.bytes)) = some (some (.agg #[.slice none 0 0, .int .i64 0]), 2, 32) := by kernel_rfl
/-! rows of so many cells each -/
section
variable {α : Type} {f : α → List Value} {k : Nat}
theorem flat_length (hf : ∀ a, (f a).length = k) (l : List α) : (l.flatMap f).length = l.length * k := by
  induction l with
  | nil => simp
  | cons a l ih => rw [List.flatMap_cons, List.length_append, ih, hf, List.length_cons, Nat.add_mul, Nat.one_mul, Nat.add_comm]
theorem flat_get (hf : ∀ a, (f a).length = k) : ∀ (l : List α) (j i : Nat) (hj : j < l.length), i < k → (l.flatMap f)[j * k + i]? = (f l[j])[i]?
  | [], j, i, hj, _ => by simp at hj
  | a :: l, 0, i, _, hi => by
    rw [List.flatMap_cons, Nat.zero_mul, Nat.zero_add, List.getElem?_append_left (by rw [hf]; exact hi)]
    rfl
  | a :: l, j + 1, i, hj, hi => by
    have hk : (j + 1) * k + i = k + (j * k + i) := by rw [Nat.add_mul, Nat.one_mul]; omega
    rw [List.flatMap_cons, List.getElem?_append_right (by rw [hf]; omega)]
    have := flat_get hf l j i (by simpa using hj) hi
    rw [show (j + 1) * k + i - (f a).length = j * k + i by rw [hf]; omega, this]
    rfl
theorem flat_take (hf : ∀ a, (f a).length = k) (l : List α) (n : Nat) : (l.take n).flatMap f = (l.flatMap f).take (n * k) := by
  induction l generalizing n with
  | nil => simp
  | cons a l ih =>
    cases n with
    | zero => simp
    | succ n =>
      have e : (n + 1) * k = (f a).length + n * k := by rw [hf, Nat.add_mul, Nat.one_mul, Nat.add_comm]
      rw [List.take_succ_cons, List.flatMap_cons, List.flatMap_cons, ih, e, List.take_length_add_append]
theorem flat_drop (hf : ∀ a, (f a).length = k) (l : List α) (n : Nat) : (l.drop n).flatMap f = (l.flatMap f).drop (n * k) := by
  induction l generalizing n with
  | nil => simp
  | cons a l ih =>
    cases n with
    | zero => simp
    | succ n =>
      have e : (n + 1) * k = (f a).length + n * k := by rw [hf, Nat.add_mul, Nat.one_mul, Nat.add_comm]
      rw [List.drop_succ_cons, List.flatMap_cons, ih, e, List.drop_length_add_append]
end
def entV (p : Nm × Nat) : List Value := [.string (S p.1), .int .i64 (p.2 : Int)]
def entsV (l : Dir) : List Value := l.flatMap entV
theorem entV_len (p : Nm × Nat) : (entV p).length = 2 := rfl
def chgV (c : RChg) : List Value := [.int .i64 (c.kind : Int), .string (S c.src), .string (S c.dest), .int .i64 (c.file : Int)]
def chgsV (l : List RChg) : List Value := l.flatMap chgV
theorem chgV_len (c : RChg) : (chgV c).length = 4 := rfl
def fileV (p : Value × Nat) : List Value := [p.1, .int .i64 (p.2 : Int)]
def filesV (l : List (Value × Nat)) : List Value := l.flatMap fileV
theorem fileV_len (p : Value × Nat) : (fileV p).length = 2 := rfl
theorem entsV_append (l r : Dir) : entsV (l ++ r) = entsV l ++ entsV r := by simp [entsV]
theorem chgsV_append (l r : List RChg) : chgsV (l ++ r) = chgsV l ++ chgsV r := by simp [chgsV]
theorem filesV_append (l r : List (Value × Nat)) : filesV (l ++ r) = filesV l ++ filesV r := by simp [filesV]
/-- an element's cells in a row -/
theorem row_cells {α : Type} {f : α → List Value} {k : Nat} (hf : ∀ a, (f a).length = k) {W : World} {base : Nat} {t : TypeId} {v : Value} {l : List α} (h : W.ownsRow base t k v l.length (l.flatMap f)) (j : Nat) (hj : j < l.length) :
    ∃ g c, v = .slice (some ⟨g, 0, none⟩) l.length c ∧ base ≤ g ∧ g < W.heap.size ∧ ∀ i, i < k → W.cell? ⟨g, j * k + i, none⟩ = (f l[j])[i]? := by
  rcases h.2 with ⟨_, h0⟩ | ⟨g, cap, cur, e, hb, hg, hcap, _, hs, ht⟩
  · omega
  · refine ⟨g, cap, e, hb, (Array.getElem?_eq_some_iff.1 hg).1, fun i hi => ?_⟩
    have hlt : j * k + i < l.length * k := by
      have : (j + 1) * k ≤ l.length * k := Nat.mul_le_mul_right _ hj
      rw [Nat.add_mul, Nat.one_mul] at this
      omega
    rw [cell_of_row W g (j * k + i) cur t (0, 0) hg, ← flat_get hf l j i hj hi, ← ht, List.getElem?_take_of_lt hlt, Array.getElem?_toList]
/-- entries that are read -/
def EntsAt (W : World) (A : Option Addr) (l : Dir) : Prop := ∀ j (hj : j < l.length), ∃ g, A = some ⟨g, 0, none⟩ ∧ g < W.heap.size ∧ W.cell? ⟨g, j * 2, none⟩ = some (.string (S l[j].1)) ∧ W.cell? ⟨g, j * 2 + 1, none⟩ = some (.int .i64 (l[j].2 : Int))
theorem EntsAt.below {W X : World} {A : Option Addr} {l : Dir} (h : EntsAt W A l) (hb : Below W.heap.size W X) : EntsAt X A l := fun j hj => by
  obtain ⟨g, e, hg, h1, h2⟩ := h j hj
  exact ⟨g, e, Nat.lt_of_lt_of_le hg hb.size, (World.cell?_of_block (hb.block g hg)).trans h1, (World.cell?_of_block (hb.block g hg)).trans h2⟩
theorem entsAt_of {W : World} {base n c : Nat} {A : Option Addr} {l : Dir} (h : W.ownsRow base 88 2 (.slice A n c) l.length (entsV l)) : EntsAt W A l := fun j hj => by
  obtain ⟨g, c', e, _, hg, hc⟩ := row_cells entV_len h j hj
  injection e with e1 _ _
  exact ⟨g, e1, hg, hc 0 (by omega), hc 1 (by omega)⟩
/-- a list of entries that a call owns -/
structure ERow (w0 : World) (v : Value) (l : Dir) (W : World) : Prop where
  row : W.ownsRow w0.heap.size 88 2 v l.length (entsV l)
  below : Below w0.heap.size w0 W
theorem ERow.step {w0 W X : World} {v : Value} {l : Dir} (h : ERow w0 v l W) (hb : Below W.heap.size W X) : ERow w0 v l X :=
  ⟨own_move h.row (fun k hk => hb.block k (h.row.lt k hk).2), h.below.trans (hb.mono h.below.size)⟩
theorem ERow.slice {w0 W : World} {v : Value} {l : Dir} (h : ERow w0 v l W) : ∃ A c, v = .slice A l.length c := own_slice h.row
theorem ERow.at_ {w0 W : World} {A : Option Addr} {n c : Nat} {l : Dir} (h : ERow w0 (.slice A n c) l W) : EntsAt W A l := entsAt_of h.row
theorem ERow.made {w0 W : World} (hb : Below w0.heap.size w0 W) : ERow w0 (.slice (some ⟨W.heap.size, 0, none⟩) 0 0) [] (W.alloc (.cells #[] 88)) :=
  ⟨World.ownsRow_made W #[] 0 hb.size (by simp [maxLen]) (by simp), below_alloc hb _⟩
/-- 'append(s, x...)', whatever x is: as a step of a region that draws -/
theorem run_append_any {P : Program} (w : World) (base : Nat) (t ty e : TypeId) (i : TypeInfo) (z : Value) (size bytes : Nat) (ht : P.underlying t = some (.slice e)) (hi : P.info? e = some i) (hz : i.zero = some z)
    (hsize : i.size = size) (hby : i.bytes = bytes) (hzs : z.cells.size = size) (hsz : 0 < size)
    (v : Value) (n : Nat) (xs : List Value) (hown : w.ownsRow base e size v n xs)
    (A : Option Addr) (m c : Nat) (news : List Value) (hA : A = none → m = 0) (hl : news.length = m * size) (hnews : ∀ ad, A = some ad → ∀ j u, news[j]? = some u → w.cell? (ad.add j) = some u) (h1 : ∀ u ∈ news, u.oneCell' = true)
    (h63 : n + m ≤ maxLen) (hbytes : (n + m) * bytes ≤ 140737488355328) (hbase : base ≤ w.heap.size) :
    ∃ v' w', (Builtin.append_ #[t, t] ty #[v, .slice A m c]).run P w = .ok v' w' ∧ w'.ownsRow base e size v' (n + m) (xs ++ news) ∧ w.grownBy w' v.ownBlock ∧ (v'.ownBlock = v.ownBlock ∨ v'.ownBlock = some w.heap.size) := by
  cases A with
  | some ad =>
    obtain ⟨v', w', h1, h2, h3, _, h5⟩ := run_append_own_at (P := P) w base t ty e i z size bytes ht hi hz hsize hby hzs hsz v n xs hown ad m c news hl (hnews ad rfl) h1 h63 hbytes hbase
    exact ⟨v', w', h1, h2, h3, h5⟩
  | none =>
    obtain rfl := hA rfl
    obtain rfl : news = [] := List.eq_nil_of_length_eq_zero (by simpa using hl)
    refine ⟨v, w, ?_, by simpa using hown, ⟨rfl, rfl, rfl, Nat.le_refl _, fun _ _ _ => rfl⟩, .inl rfl⟩
    rcases hown.2 with ⟨rfl, rfl⟩ | ⟨g, cap, cur, rfl, _, hg, hnc, _⟩
    · simp [Builtin.append_, run_underlying ht, sizeOf, typeInfo, hi, Builtin.lenOf, Builtin.firstCells]
    · simp [Builtin.append_, run_underlying ht, sizeOf, typeInfo, hi, Builtin.lenOf, hnc, Builtin.firstCells, storeCells]
theorem step_append_any {P : Program} {ops : Array Oper} {o : Oper} {a : Act} {w : World} {K : Act → World → Prop} {Q : Exit → Act → World → Prop} {E : Prop}
    (hg : o.guard = none) (s x : Operand) (t : TypeId) (hop : o.op = Op.call { callee := Callee.builtin Builtin.append, args := #[s, x], argTypes := #[t, t] })
    (base : Nat) (e : TypeId) (i : TypeInfo) (z : Value) (size bytes : Nat) (ht : P.underlying t = some (.slice e)) (hi : P.info? e = some i) (hz : i.zero = some z)
    (hsize : i.size = size) (hby : i.bytes = bytes) (hzs : z.cells.size = size) (hsz : 0 < size)
    (v : Value) (n : Nat) (xs : List Value) (hs : a.eval s = v) (hown : w.ownsRow base e size v n xs)
    (A : Option Addr) (m c : Nat) (news : List Value) (hx : a.eval x = .slice A m c) (hA : A = none → m = 0) (hl : news.length = m * size) (hnews : ∀ ad, A = some ad → ∀ j u, news[j]? = some u → w.cell? (ad.add j) = some u) (h1 : ∀ u ∈ news, u.oneCell' = true)
    (h63 : n + m ≤ maxLen) (hbytes : (n + m) * bytes ≤ 140737488355328) (hbase : base ≤ w.heap.size)
    (hK : ∀ v' w', w'.ownsRow base e size v' (n + m) (xs ++ news) → w.grownBy w' v.ownBlock → (v'.ownBlock = v.ownBlock ∨ v'.ownBlock = some w.heap.size) → K (a.put o.dst v') w') :
    if Region.wanted o (yielded ops a.tmps) = true then Oper.wp P o a w K Q else E := by
  have hw : Region.wanted o (yielded ops a.tmps) = true := by simp [Region.wanted, hg]
  rw [if_pos hw]
  obtain ⟨v', w', hr, h2, h3, h4⟩ := run_append_any (P := P) w base t o.type e i z size bytes ht hi hz hsize hby hzs hsz v n xs hown A m c news hA hl hnews h1 h63 hbytes hbase
  unfold Oper.wp execOp
  simp only [hop, resolve, invoke, builtin, Sem.run_bind, Sem.run_pure, Result.andThen_ok, List.map_toArray, List.map_cons, List.map_nil, hs, hx, hr]
  exact hK v' w' h2 h3 h4
theorem entsV_one (l : Dir) : ∀ u ∈ entsV l, u.oneCell' = true := by
  intro u hu
  obtain ⟨p, _, hp⟩ := List.mem_flatMap.1 hu
  simp only [entV, List.mem_cons, List.not_mem_nil, or_false] at hp
  rcases hp with rfl | rfl <;> rfl
theorem entsV_length (l : Dir) : (entsV l).length = l.length * 2 := flat_length entV_len l
/-- the cells of a part of a row of entries -/
theorem entsPart {W : World} {g : Nat} {l : Dir} (h : EntsAt W (some ⟨g, 0, none⟩) l) (k n : Nat) (hk : k + n ≤ l.length) : ∀ j u, (entsV ((l.drop k).take n))[j]? = some u → W.cell? ((⟨g, k * 2, none⟩ : Addr).add j) = some u := by
  intro j u hu
  have hlen : j < n * 2 := by
    have := (List.getElem?_eq_some_iff.1 hu).1
    rw [entsV_length, List.length_take, List.length_drop] at this
    omega
  have e : j = j / 2 * 2 + j % 2 := by omega
  have hq : j / 2 < n := by omega
  have hl2 : j / 2 < ((l.drop k).take n).length := by rw [List.length_take, List.length_drop]; omega
  have h3 := flat_get entV_len ((l.drop k).take n) (j / 2) (j % 2) hl2 (by omega)
  rw [← e] at h3
  have h4 : (entsV ((l.drop k).take n))[j]? = (entV (l[k + j / 2]'(by omega)))[j % 2]? := by
    refine h3.trans ?_
    simp
  rw [h4] at hu
  have hadd : (⟨g, k * 2, none⟩ : Addr).add j = ⟨g, k * 2 + j, none⟩ := by
    clear h4 h3 hl2 hlen hu e
    unfold Addr.add
    split <;> simp_all
  rw [hadd]
  obtain ⟨g', eg, _, h5, h6⟩ := h (k + j / 2) (by omega)
  injection eg with eg
  injection eg with eg _ _
  subst eg
  rcases Nat.mod_two_eq_zero_or_one j with hm | hm
  · rw [hm] at hu
    rw [show k * 2 + j = (k + j / 2) * 2 by omega, h5]
    exact hu
  · rw [hm] at hu
    rw [show k * 2 + j = (k + j / 2) * 2 + 1 by omega, h6]
    exact hu
/-- where a name is put: ahead of the first that is not smaller -/
theorem insR_at {p : Nm × Nat} : ∀ {l : Dir} {k : Nat}, k ≤ l.length → (∀ j (hj : j < k) (hl : j < l.length), before l[j].1 p.1 = true) → (∀ hk : k < l.length, before l[k].1 p.1 = false) → insR p l = l.take k ++ p :: l.drop k
  | [], k, hk, _, _ => by
    obtain rfl : k = 0 := by simpa using hk
    rfl
  | q :: l, 0, _, _, h => by
    have := h (by simp)
    unfold insR
    rw [if_neg (by simpa using this)]
    rfl
  | q :: l, k + 1, hk, h1, h2 => by
    unfold insR
    rw [if_pos (show before q.1 p.1 = true from h1 0 (by omega) (by simp)), insR_at (k := k) (by simpa using hk) (fun j hj hl => h1 (j + 1) (by omega) (by simpa using hl)) (fun hk' => h2 (by simpa using hk'))]
    rfl
/-- the file of a name, among the first so many -/
theorem get_snoc (l : Dir) (p : Nm × Nat) (n : Nm) : get (l ++ [p]) n = match get l n with | some x => some x | none => if p.1 = n then some p.2 else none := by
  induction l with
  | nil => rw [List.nil_append, get_cons]; rfl
  | cons q l ih =>
    rw [List.cons_append, get_cons, get_cons]
    by_cases h : q.1 = n
    · rw [if_pos h, if_pos h]
    · rw [if_neg h, if_neg h]; exact ih
theorem sorted_get {l : Dir} (h : Sorted l) {i : Nat} (hi : i < l.length) : get (l.take i) l[i].1 = none := by
  cases hg : get (l.take i) l[i].1 with
  | none => rfl
  | some x =>
    have hm := get_mem hg
    obtain ⟨j, hj, e⟩ := List.getElem_of_mem hm
    rw [List.length_take] at hj
    have hlt := List.pairwise_iff_getElem.1 h j i (by omega) hi (by omega)
    rw [List.getElem_take] at e
    rw [e] at hlt
    have h3 := before_irrefl (a := Lit.string l[i].1)
    rw [show (Lit.string l[i].1).before (Lit.string l[i].1) = true from hlt] at h3
    cases h3
theorem sorted_mem {l : Dir} (h : Sorted l) {p : Nm × Nat} (hp : p ∈ l) : get l p.1 = some p.2 := by
  obtain ⟨i, hi, e⟩ := List.getElem_of_mem hp
  have hl : l = l.take i ++ [l[i]] ++ l.drop (i + 1) := by simp
  have key : ∀ (a b : Dir) (n : Nm) (x : Nat), get a n = some x → get (a ++ b) n = some x := by
    intro a
    induction a with
    | nil => intro b n x hx; cases hx
    | cons q a ih =>
      intro b n x hx
      rw [List.cons_append, get_cons]
      rw [get_cons] at hx
      split
      · rename_i h1; rw [if_pos h1] at hx; exact hx
      · rename_i h1; rw [if_neg h1] at hx; exact ih b n x hx
  have h2 := sorted_get h hi
  rw [e] at h2 hl
  have h3 := key (l.take i ++ [p]) (l.drop (i + 1)) p.1 p.2 (by rw [get_snoc, h2]; simp)
  rw [← hl] at h3
  exact h3
end Go.Proofs.Ytibmgcihpbofdaa.Fs
namespace Go.Proofs.Ytibmgcihpbofdaa.Fs
open Go.RowKit Go.Proofs.Ytibmgcihpbofdaa.Plain
set_option linter.unusedVariables false
def RDisk.setRoom (r : RDisk) (n : Int) : RDisk := { r with room := min (max n 0) 16777216 }
def RDisk.setFuse (r : RDisk) (n : Int) : RDisk := { r with fuse := max n 0 }
def RDisk.fresh (n : Int) : RDisk := { sure := [], loose := [], files := [], room := min (max n 0) 16777216, fuse := -1, off := false }
theorem sim_room {blk : Nat → Nat} {d : Disk} {r : RDisk} (h : Sim blk d r) (n : Int) : Sim blk (d.setRoom n) (r.setRoom n) :=
  ⟨h.sure, h.loose, h.srt, h.ok, rfl, h.fuse, h.down, h.inj, h.files⟩
theorem sim_fuse {blk : Nat → Nat} {d : Disk} {r : RDisk} (h : Sim blk d r) (n : Int) : Sim blk (d.setFuse n) (r.setFuse n) :=
  ⟨h.sure, h.loose, h.srt, h.ok, h.room, rfl, h.down, h.inj, h.files⟩
theorem rok_room {r : RDisk} {N : Nat} (h : ROk r N) (n : Int) : ROk (r.setRoom n) N :=
  ⟨h.srt, h.ok, h.rt1, h.rt2, h.kd, h.live, h.firm, h.many, by show 0 ≤ min (max n 0) 16777216 ∧ min (max n 0) 16777216 ≤ 16777216; omega, h.fuse⟩
theorem rok_fuse {r : RDisk} {N : Nat} (h : ROk r N) (n : Int) (hn : n ≤ 9223372036854775807) : ROk (r.setFuse n) N :=
  ⟨h.srt, h.ok, h.rt1, h.rt2, h.kd, h.live, h.firm, h.many, h.room, by show -1 ≤ max n 0 ∧ max n 0 ≤ 9223372036854775807; omega⟩
theorem sim_fresh (n : Int) : Sim (fun i => i) (Disk.fresh n) (RDisk.fresh n) :=
  ⟨rfl, rfl, List.Pairwise.nil, trivial, rfl, rfl, rfl, fun i j _ _ h => h, fun i hi => by rcases hi with ⟨_, h⟩ | ⟨_, h, _⟩ <;> cases h⟩
theorem rok_fresh (n : Int) : ROk (RDisk.fresh n) 0 :=
  ⟨List.Pairwise.nil, trivial, fun p h => (by cases h), fun c h => (by cases h), fun c h => (by cases h), fun i hi => (by rcases hi with ⟨_, h⟩ | ⟨_, h, _⟩ <;> cases h), fun p h => (by cases h), ⟨Nat.le_refl 0, Nat.le_refl 0⟩, by show 0 ≤ min (max n 0) 16777216 ∧ min (max n 0) 16777216 ≤ 16777216; omega, by show (-1 : Int) ≤ -1 ∧ (-1 : Int) ≤ 9223372036854775807; omega⟩
end Go.Proofs.Ytibmgcihpbofdaa.Fs
namespace Go.Proofs.Ytibmgcihpbofdaa.Fs
open Go.RowKit Go.Proofs.Ytibmgcihpbofdaa Go.Proofs.Ytibmgcihpbofdaa.Plain Go.Proofs.YtibmgcihpbofdaaW.PrintWords Go.Maps
set_option linter.unusedVariables false
set_option linter.unusedSimpArgs false
/-- a file: where its bytes lie, its bytes, how many are sure -/
abbrev RFile := Value × List UInt8 × Nat
def fV (p : RFile) : List Value := [p.1, .int .i64 (p.2.2 : Int)]
theorem fV_len (p : RFile) : (fV p).length = 2 := rfl
def fsV (l : List RFile) : List Value := l.flatMap fV
theorem fsV_append (l r : List RFile) : fsV (l ++ r) = fsV l ++ fsV r := by simp [fsV]
def BytesIs (W : World) (base : Nat) (v : Value) (u : List UInt8) : Prop := W.ownsRow base 5 1 v (B u).length (nums .u8 (B u))
theorem BytesIs.below {W X : World} {base : Nat} {v : Value} {u : List UInt8} (h : BytesIs W base v u) (hb : Below W.heap.size W X) : BytesIs X base v u :=
  own_move h (fun k hk => hb.block k (World.ownsRow.lt h k hk).2)
structure RCore (w0 W : World) (r : Nat) (d : RDisk) (R : Nat → Prop) (vs vl vf : Value) (fl : List RFile) : Prop where
  head : W.heap[r]? = some (.cells #[vs, vl, vf, .int .i64 d.room, .int .i64 d.fuse, .bool d.off] 55 (0, 0))
  sure : W.ownsRow w0.heap.size 88 2 vs d.sure.length (entsV d.sure)
  loose : W.ownsRow w0.heap.size 86 4 vl d.loose.length (chgsV d.loose)
  files : W.ownsRow w0.heap.size 84 2 vf fl.length (fsV fl)
  eq : d.files = fl.map (·.2)
  each : ∀ p ∈ fl, BytesIs W w0.heap.size p.1 p.2.1
  inR : R r
  inS : ∀ g, vs.ownBlock = some g → R g
  inL : ∀ g, vl.ownBlock = some g → R g
  inF : ∀ g, vf.ownBlock = some g → R g
  inX : ∀ p ∈ fl, ∀ g, p.1.ownBlock = some g → R g
  mine : ∀ k, R k → w0.heap.size ≤ k ∧ k < W.heap.size
  below : Below w0.heap.size w0 W
def RAt (w0 : World) (r : Nat) (d : RDisk) (R : Nat → Prop) (W : World) : Prop := ∃ vs vl vf fl, RCore w0 W r d R vs vl vf fl
theorem RCore.move {w0 W X : World} {r : Nat} {d : RDisk} {R : Nat → Prop} {vs vl vf : Value} {fl : List RFile} (h : RCore w0 W r d R vs vl vf fl) (hk : ∀ k, R k → X.heap[k]? = W.heap[k]?) (hs : W.heap.size ≤ X.heap.size) (hb : Below w0.heap.size w0 X) : RCore w0 X r d R vs vl vf fl where
  head := (hk r h.inR).trans h.head
  sure := own_move h.sure (fun k e => hk k (h.inS k e))
  loose := own_move h.loose (fun k e => hk k (h.inL k e))
  files := own_move h.files (fun k e => hk k (h.inF k e))
  eq := h.eq
  each := fun p hp => own_move (h.each p hp) (fun k e => hk k (h.inX p hp k e))
  inR := h.inR
  inS := h.inS
  inL := h.inL
  inF := h.inF
  inX := h.inX
  mine := fun k hR => ⟨(h.mine k hR).1, Nat.lt_of_lt_of_le (h.mine k hR).2 hs⟩
  below := hb
theorem RCore.step {w0 W X : World} {r : Nat} {d : RDisk} {R : Nat → Prop} {vs vl vf : Value} {fl : List RFile} (h : RCore w0 W r d R vs vl vf fl) (hb : Below W.heap.size W X) : RCore w0 X r d R vs vl vf fl :=
  h.move (fun k hR => hb.block k (h.mine k hR).2) hb.size (h.below.trans (hb.mono h.below.size))
theorem RAt.step {w0 W X : World} {r : Nat} {d : RDisk} {R : Nat → Prop} (h : RAt w0 r d R W) (hb : Below W.heap.size W X) : RAt w0 r d R X := by
  obtain ⟨vs, vl, vf, fl, h⟩ := h
  exact ⟨vs, vl, vf, fl, h.step hb⟩
theorem RAt.move {w0 W X : World} {r : Nat} {d : RDisk} {R : Nat → Prop} (h : RAt w0 r d R W) (hk : ∀ k, R k → X.heap[k]? = W.heap[k]?) (hs : W.heap.size ≤ X.heap.size) (hb : Below w0.heap.size w0 X) : RAt w0 r d R X := by
  obtain ⟨vs, vl, vf, fl, h⟩ := h
  exact ⟨vs, vl, vf, fl, h.move hk hs hb⟩
theorem RAt.below {w0 W : World} {r : Nat} {d : RDisk} {R : Nat → Prop} (h : RAt w0 r d R W) : Below w0.heap.size w0 W := by
  obtain ⟨vs, vl, vf, fl, h⟩ := h
  exact h.below
theorem RCore.cells {w0 W : World} {r : Nat} {d : RDisk} {R : Nat → Prop} {vs vl vf : Value} {fl : List RFile} (h : RCore w0 W r d R vs vl vf fl) :
    W.cell? ⟨r, 0, none⟩ = some vs ∧ W.cell? ⟨r, 1, none⟩ = some vl ∧ W.cell? ⟨r, 2, none⟩ = some vf ∧ W.cell? ⟨r, 3, none⟩ = some (.int .i64 d.room) ∧ W.cell? ⟨r, 4, none⟩ = some (.int .i64 d.fuse) ∧ W.cell? ⟨r, 5, none⟩ = some (.bool d.off) := by
  simp [World.cell?, h.head]
theorem RCore.frozen {w0 W : World} {r : Nat} {d : RDisk} {R : Nat → Prop} {vs vl vf : Value} {fl : List RFile} (h : RCore w0 W r d R vs vl vf fl) (o : Nat) : W.frozen? ⟨r, o, none⟩ = false := by
  simp [World.frozen?, h.head]
theorem RCore.slices {w0 W : World} {r : Nat} {d : RDisk} {R : Nat → Prop} {vs vl vf : Value} {fl : List RFile} (h : RCore w0 W r d R vs vl vf fl) : (∃ A c, vs = .slice A d.sure.length c) ∧ (∃ A c, vl = .slice A d.loose.length c) ∧ (∃ A c, vf = .slice A fl.length c) :=
  ⟨own_slice h.sure, own_slice h.loose, own_slice h.files⟩
/-- the blocks differ -/
theorem RCore.ne {w0 W : World} {r : Nat} {d : RDisk} {R : Nat → Prop} {vs vl vf : Value} {fl : List RFile} (h : RCore w0 W r d R vs vl vf fl) :
    (∀ g, vs.ownBlock = some g → g ≠ r ∧ vl.ownBlock ≠ some g ∧ vf.ownBlock ≠ some g) ∧ (∀ g, vl.ownBlock = some g → g ≠ r ∧ vf.ownBlock ≠ some g) ∧ (∀ g, vf.ownBlock = some g → g ≠ r ∧ vl.ownBlock ≠ some g) ∧ (∀ p ∈ fl, ∀ g, p.1.ownBlock = some g → g ≠ r ∧ vl.ownBlock ≠ some g ∧ vf.ownBlock ≠ some g) := by
  refine ⟨fun g hg => ?_, fun g hg => ?_, fun g hg => ?_, fun p hp g hg => ?_⟩
  · obtain ⟨c, h1⟩ := own_cells h.sure hg
    refine ⟨ne_of_obj h1 h.head (by simp), fun e => ?_, fun e => ?_⟩
    · obtain ⟨c', h2⟩ := own_cells h.loose e
      exact ne_of_obj h1 h2 (by simp) rfl
    · obtain ⟨c', h2⟩ := own_cells h.files e
      exact ne_of_obj h1 h2 (by simp) rfl
  · obtain ⟨c, h1⟩ := own_cells h.loose hg
    refine ⟨ne_of_obj h1 h.head (by simp), fun e => ?_⟩
    obtain ⟨c', h2⟩ := own_cells h.files e
    exact ne_of_obj h1 h2 (by simp) rfl
  · obtain ⟨c, h1⟩ := own_cells h.files hg
    refine ⟨ne_of_obj h1 h.head (by simp), fun e => ?_⟩
    obtain ⟨c', h2⟩ := own_cells h.loose e
    exact ne_of_obj h1 h2 (by simp) rfl
  · obtain ⟨c, h1⟩ := own_cells (h.each p hp) hg
    refine ⟨ne_of_obj h1 h.head (by simp), fun e => ?_, fun e => ?_⟩
    · obtain ⟨c', h2⟩ := own_cells h.loose e
      exact ne_of_obj h1 h2 (by simp) rfl
    · obtain ⟨c', h2⟩ := own_cells h.files e
      exact ne_of_obj h1 h2 (by simp) rfl
/-- another world: the head, the rows of changes and of files may have turned, nothing else that is old -/
theorem RCore.turn {w0 W X : World} {r : Nat} {d d' : RDisk} {R : Nat → Prop} {vs vl vf vs' vl' vf' : Value} {fl fl' : List RFile} (h : RCore w0 W r d R vs vl vf fl)
    (hk : ∀ k, k < W.heap.size → k ≠ r → vl.ownBlock ≠ some k → vf.ownBlock ≠ some k → X.heap[k]? = W.heap[k]?) (hs : W.heap.size ≤ X.heap.size) (hb : Below w0.heap.size w0 X)
    (head : X.heap[r]? = some (.cells #[vs', vl', vf', .int .i64 d'.room, .int .i64 d'.fuse, .bool d'.off] 55 (0, 0)))
    (sure : (vs' = vs ∧ d'.sure = d.sure) ∨ (X.ownsRow w0.heap.size 88 2 vs' d'.sure.length (entsV d'.sure) ∧ ∀ g, vs'.ownBlock = some g → R g ∨ W.heap.size ≤ g))
    (loose : X.ownsRow w0.heap.size 86 4 vl' d'.loose.length (chgsV d'.loose)) (hl : ∀ g, vl'.ownBlock = some g → R g ∨ W.heap.size ≤ g)
    (files : X.ownsRow w0.heap.size 84 2 vf' fl'.length (fsV fl')) (hf : ∀ g, vf'.ownBlock = some g → R g ∨ W.heap.size ≤ g)
    (eq : d'.files = fl'.map (·.2)) (each : ∀ p ∈ fl', p ∈ fl ∨ (BytesIs X w0.heap.size p.1 p.2.1 ∧ ∀ g, p.1.ownBlock = some g → R g ∨ W.heap.size ≤ g)) :
    RCore w0 X r d' (Wide R W X) vs' vl' vf' fl' ∧ Turn R W (Wide R W X) X := by
  obtain ⟨n1, n2, n3, n4⟩ := h.ne
  have hsz : ∀ {base size n : Nat} {t : TypeId} {v : Value} {xs : List Value}, X.ownsRow base t size v n xs → (∀ g, v.ownBlock = some g → R g ∨ W.heap.size ≤ g) → ∀ g, v.ownBlock = some g → Wide R W X g := fun ho hg g e =>
    (hg g e).elim .inl (fun h1 => .inr ⟨h1, (World.ownsRow.lt ho g e).2⟩)
  have hsure : X.ownsRow w0.heap.size 88 2 vs' d'.sure.length (entsV d'.sure) ∧ ∀ g, vs'.ownBlock = some g → R g ∨ W.heap.size ≤ g := by
    rcases sure with ⟨rfl, e⟩ | h1
    · rw [e]
      exact ⟨own_move h.sure (fun k e => hk k (World.ownsRow.lt h.sure k e).2 (n1 k e).1 (n1 k e).2.1 (n1 k e).2.2), fun g e => .inl (h.inS g e)⟩
    · exact h1
  have heach : ∀ p ∈ fl', BytesIs X w0.heap.size p.1 p.2.1 ∧ ∀ g, p.1.ownBlock = some g → R g ∨ W.heap.size ≤ g := fun p hp => by
    rcases each p hp with h1 | h1
    · exact ⟨own_move (h.each p h1) (fun k e => hk k (World.ownsRow.lt (h.each p h1) k e).2 (n4 p h1 k e).1 (n4 p h1 k e).2.1 (n4 p h1 k e).2.2), fun g e => .inl (h.inX p h1 g e)⟩
    · exact h1
  refine ⟨{ head := head, sure := hsure.1, loose := loose, files := files, eq := eq, each := fun p hp => (heach p hp).1, inR := .inl h.inR, inS := hsz hsure.1 hsure.2, inL := hsz loose hl, inF := hsz files hf, inX := fun p hp => hsz (heach p hp).1 (heach p hp).2, mine := fun k hk' => ?_, below := hb }, fun k hk' => hk'.elim .inl (fun h1 => .inr h1.1), fun k hk' => .inl hk', fun k hlt hR => hk k hlt (fun e => hR (e ▸ h.inR)) (fun e => hR (h.inL k e)) (fun e => hR (h.inF k e)), hs⟩
  rcases hk' with h1 | h1
  · exact ⟨(h.mine k h1).1, Nat.lt_of_lt_of_le (h.mine k h1).2 hs⟩
  · exact ⟨Nat.le_trans h.below.size h1.1, h1.2⟩
/-- a file's two cells -/
theorem RCore.file {w0 W : World} {r : Nat} {d : RDisk} {R : Nat → Prop} {vs vl vf : Value} {fl : List RFile} (h : RCore w0 W r d R vs vl vf fl) (i : Nat) (hi : i < fl.length) :
    ∃ g c, vf = .slice (some ⟨g, 0, none⟩) fl.length c ∧ R g ∧ g < W.heap.size ∧ W.cell? ⟨g, i * 2, none⟩ = some fl[i].1 ∧ W.cell? ⟨g, i * 2 + 1, none⟩ = some (.int .i64 (fl[i].2.2 : Int)) ∧ W.frozen? ⟨g, i * 2, none⟩ = false ∧ W.frozen? ⟨g, i * 2 + 1, none⟩ = false := by
  obtain ⟨g, c, e, _, hg, hc⟩ := row_cells fV_len h.files i hi
  have hfr : ∀ o, W.frozen? ⟨g, o, none⟩ = false := fun o => by
    have h1 := h.files
    rw [e] at h1
    exact World.ownsRow.frozenAt h1 o
  exact ⟨g, c, e, h.inF g (by rw [e]; rfl), hg, hc 0 (by omega), hc 1 (by omega), hfr _, hfr _⟩
theorem RCore.len {w0 W : World} {r : Nat} {d : RDisk} {R : Nat → Prop} {vs vl vf : Value} {fl : List RFile} (h : RCore w0 W r d R vs vl vf fl) : d.files.length = fl.length := by rw [h.eq, List.length_map]
theorem RCore.bytes {w0 W : World} {r : Nat} {d : RDisk} {R : Nat → Prop} {vs vl vf : Value} {fl : List RFile} (h : RCore w0 W r d R vs vl vf fl) (i : Nat) (hi : i < fl.length) : d.bytes i = fl[i].2.1 ∧ d.firm i = fl[i].2.2 := by
  unfold RDisk.bytes RDisk.firm
  rw [h.eq, List.getElem?_map, List.getElem?_eq_getElem hi]
  exact ⟨rfl, rfl⟩
/-- a change that is read -/
theorem RCore.chg {w0 W : World} {r : Nat} {d : RDisk} {R : Nat → Prop} {vs vl vf : Value} {fl : List RFile} (h : RCore w0 W r d R vs vl vf fl) (i : Nat) (hi : i < d.loose.length) :
    ∃ g c, vl = .slice (some ⟨g, 0, none⟩) d.loose.length c ∧ g < W.heap.size ∧ W.cell? ⟨g, i * 4, none⟩ = some (.int .i64 (d.loose[i].kind : Int)) ∧ W.cell? ⟨g, i * 4 + 1, none⟩ = some (.string (S d.loose[i].src)) ∧ W.cell? ⟨g, i * 4 + 2, none⟩ = some (.string (S d.loose[i].dest)) ∧ W.cell? ⟨g, i * 4 + 3, none⟩ = some (.int .i64 (d.loose[i].file : Int)) := by
  obtain ⟨g, c, e, _, hg, hc⟩ := row_cells chgV_len h.loose i hi
  exact ⟨g, c, e, hg, hc 0 (by omega), hc 1 (by omega), hc 2 (by omega), hc 3 (by omega)⟩
end Go.Proofs.Ytibmgcihpbofdaa.Fs
