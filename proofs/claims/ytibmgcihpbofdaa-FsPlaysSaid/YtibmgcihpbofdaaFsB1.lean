/- A disk of files as plain data: directories, changes, and what each call does. No program here. fs.right, and the asking of all names: what they answer. A disk of files in memory: what its blocks hold, and how that is carried. fs: ready, power, found: what they do. fs: the three changes of a directory, as function values: what each does to a map. -/
import Derived.Test.YtibmgcihpbofdaaPlain
import Derived.Maps.RangeWalk
import Derived.Test.YtibmgcihpbofdaaPRIGHTx1
import Derived.Deep.QuietTactic
import Derived.BigQuiet
import Derived.Deep.DeepMust
import Derived.WalkKit
import Derived.Maps.OwnSet
import Derived.ChangeAlike
namespace Go.Proofs.Ytibmgcihpbofdaa.Fs
open Go.RowKit Go.Proofs.YtibmgcihpbofdaaW.PrintWords Go.Proofs.Ytibmgcihpbofdaa.Plain
set_option linter.unusedVariables false
set_option linter.unusedSimpArgs false

abbrev Nm := List UInt8
abbrev Dir := List (Nm × Nat)
def before (a b : Nm) : Bool := (Lit.string a).before (Lit.string b)
def ins (p : Nm × Nat) : Dir → Dir
  | [] => [p]
  | q :: r => if before p.1 q.1 then p :: q :: r else q :: ins p r
def del (d : Dir) (n : Nm) : Dir := d.filter fun p => !(p.1 == n)
def put (d : Dir) (n : Nm) (x : Nat) : Dir := ins (n, x) (del d n)
def get (d : Dir) (n : Nm) : Option Nat := (d.find? fun p => p.1 == n).map (·.2)

/-- how an entry reads -/
def ent (p : Nm × Nat) : Lit × DataW Unit := (.string p.1, .lit (.int .i64 (p.2 : Int)))
def D (d : Dir) : DataW Unit := .map (d.map ent)
/-- how a pointer to a block reads: by the block's number -/
def ptrElem : Value → Option (DataW Unit × List MemPlace)
  | .pointer (some ⟨b, 0, none⟩) => some (.lit (.int .i64 (b : Int)), [])
  | .pointer none => some (.nil, [])
  | _ => none
theorem ptrElem_mk (b : Nat) : ptrElem (.pointer (some ⟨b, 0, none⟩)) = some (.lit (.int .i64 (b : Int)), []) := rfl
theorem ptrElem_inv {v : Value} {y : DataW Unit × List MemPlace} (h : ptrElem v = some y) : (∃ b : Nat, v = .pointer (some ⟨b, 0, none⟩) ∧ y = (.lit (.int .i64 (b : Int)), [])) ∨ (v = .pointer none ∧ y = (.nil, [])) := by
  unfold ptrElem at h
  split at h
  · rename_i b
    exact .inl ⟨b, rfl, by simpa using h.symm⟩
  · exact .inr ⟨rfl, by simpa using h.symm⟩
  · cases h

theorem ins_ent (p : Nm × Nat) (d : Dir) : (ins p d).map ent = DataW.insert (ent p) (d.map ent) := by
  induction d with
  | nil => rfl
  | cons q r ih =>
    simp only [ins, List.map_cons, DataW.insert]
    have : (ent p).1.before (ent q).1 = before p.1 q.1 := rfl
    rw [this]
    split
    · rfl
    · rw [List.map_cons, ih]
theorem del_ent (d : Dir) (n : Nm) : (del d n).map ent = (d.map ent).filter fun p => !p.1.sameKey (.string n) := by
  unfold del
  rw [List.filter_map]
  rfl
theorem D_put (d : Dir) (n : Nm) (x : Nat) : (D d).put (.string n) (.lit (.int .i64 (x : Int))) = D (put d n x) := by
  simp only [D, DataW.put, put, ins_ent, del_ent]
  rfl
theorem D_del (d : Dir) (n : Nm) : (D d).del (.string n) = D (del d n) := by
  simp only [D, DataW.del, del_ent]
theorem D_size (d : Dir) : Maps.size (D d) = d.length := by simp [D, Maps.size]
theorem D_has (d : Dir) (n : Nm) : Maps.has (D d) (.string n) = (get d n).isSome := by
  simp only [D, Maps.has, get, List.any_map]
  induction d with
  | nil => rfl
  | cons q r ih =>
    simp only [List.any_cons, List.find?_cons]
    by_cases h : q.1 = n
    · simp [ent, Lit.sameKey, h]
    · simp only [Function.comp_apply, ent, Lit.sameKey, beq_eq_false_iff_ne.2 h, Bool.false_or]
      exact ih
theorem D_at (d : Dir) (n : Nm) (z : DataW Unit) : (D d).atKey (.string n) z = match get d n with | some x => .lit (.int .i64 (x : Int)) | none => z := by
  simp only [D, DataW.atKey, get]
  induction d with
  | nil => rfl
  | cons q r ih =>
    by_cases h : q.1 = n
    · simp [ent, Lit.sameKey, h]
    · simp only [List.map_cons, List.find?_cons, ent, Lit.sameKey, beq_eq_false_iff_ne.2 h]
      exact ih

/-! directories as lists -/
theorem get_nil (n : Nm) : get [] n = none := rfl
theorem get_cons (p : Nm × Nat) (d : Dir) (n : Nm) : get (p :: d) n = if p.1 = n then some p.2 else get d n := by
  unfold get
  simp only [List.find?_cons]
  by_cases h : p.1 = n
  · simp [h]
  · simp only [beq_eq_false_iff_ne.2 h, if_neg h]
theorem get_del_same (d : Dir) (n : Nm) : get (del d n) n = none := by
  induction d with
  | nil => rfl
  | cons p d ih =>
    unfold del at ih ⊢
    by_cases h : p.1 = n
    · simp [h, List.filter_cons, ih]
    · simp [h, List.filter_cons, get_cons, ih]
theorem get_del_other (d : Dir) {n m : Nm} (h : m ≠ n) : get (del d n) m = get d m := by
  induction d with
  | nil => rfl
  | cons p d ih =>
    unfold del at ih ⊢
    by_cases h1 : p.1 = n
    · have h2 : ¬ p.1 = m := fun e => h (e.symm.trans h1)
      simp [h1, List.filter_cons, ih, get_cons]
      intro e
      exact absurd (e ▸ rfl) h
    · simp [h1, List.filter_cons, get_cons, ih]
theorem get_ins (p : Nm × Nat) (d : Dir) (h : get d p.1 = none) (m : Nm) : get (ins p d) m = if p.1 = m then some p.2 else get d m := by
  induction d with
  | nil => simp [ins, get_cons, get_nil]
  | cons q r ih =>
    rw [get_cons] at h
    have hq : ¬ q.1 = p.1 := by
      intro e
      rw [if_pos e] at h
      cases h
    rw [if_neg hq] at h
    simp only [ins]
    split
    · rw [get_cons]
    · rw [get_cons, ih h, get_cons]
      by_cases h1 : q.1 = m
      · have : ¬ p.1 = m := fun e => hq (h1.trans e.symm)
        simp [h1, this]
      · simp [h1]
theorem get_put_same (d : Dir) (n : Nm) (x : Nat) : get (put d n x) n = some x := by
  unfold put
  rw [get_ins _ _ (get_del_same d n)]
  simp
theorem get_put_other (d : Dir) {n m : Nm} (x : Nat) (h : m ≠ n) : get (put d n x) m = get d m := by
  unfold put
  rw [get_ins _ _ (get_del_same d n), if_neg (fun e => h e.symm), get_del_other d h]
theorem mem_ins (p q : Nm × Nat) (d : Dir) : q ∈ ins p d ↔ q = p ∨ q ∈ d := by
  induction d with
  | nil => simp [ins]
  | cons r d ih =>
    simp only [ins]
    split
    · simp
    · simp only [List.mem_cons, ih]
      constructor
      · rintro (h | h | h)
        · exact .inr (.inl h)
        · exact .inl h
        · exact .inr (.inr h)
      · rintro (h | h | h)
        · exact .inr (.inl h)
        · exact .inl h
        · exact .inr (.inr h)
theorem mem_del {q : Nm × Nat} {d : Dir} {n : Nm} : q ∈ del d n ↔ q ∈ d ∧ q.1 ≠ n := by
  simp [del]
theorem mem_put {q : Nm × Nat} {d : Dir} {n : Nm} {x : Nat} : q ∈ put d n x ↔ q = (n, x) ∨ (q ∈ d ∧ q.1 ≠ n) := by
  unfold put
  rw [mem_ins, mem_del]
theorem length_ins (p : Nm × Nat) (d : Dir) : (ins p d).length = d.length + 1 := by
  induction d with
  | nil => rfl
  | cons q r ih => simp only [ins]; split <;> simp [ih]
theorem length_del_le (d : Dir) (n : Nm) : (del d n).length ≤ d.length := List.length_filter_le _ _
theorem length_put_le (d : Dir) (n : Nm) (x : Nat) : (put d n x).length ≤ d.length + 1 := by
  unfold put
  rw [length_ins]
  have := length_del_le d n
  omega
theorem get_mem {d : Dir} {n : Nm} {x : Nat} (h : get d n = some x) : (n, x) ∈ d := by
  induction d with
  | nil => cases h
  | cons p d ih =>
    rw [get_cons] at h
    split at h
    · rename_i e
      injection h with h
      subst e h
      exact List.mem_cons_self
    · exact List.mem_cons_of_mem _ (ih h)

/-! changes -/
inductive Chg where
  | create (n : Nm) (x : Nat)
  | rename (a b : Nm)
  | unlink (n : Nm)
/-- a directory with a change -/
def Chg.app (d : Dir) : Chg → Dir
  | .create n x => put d n x
  | .rename a b => match get d a with | some x => del (put d b x) a | none => d
  | .unlink n => del d n
/-- may the change be done to it? -/
def Chg.ok (d : Dir) : Chg → Prop
  | .create _ _ => True
  | .rename a _ => (get d a).isSome
  | .unlink _ => True
def apps (d : Dir) (l : List Chg) : Dir := l.foldl Chg.app d
def oks (d : Dir) : List Chg → Prop
  | [] => True
  | c :: l => c.ok d ∧ oks (c.app d) l
theorem apps_snoc (d : Dir) (l : List Chg) (c : Chg) : apps d (l ++ [c]) = c.app (apps d l) := by simp [apps]
theorem oks_snoc {d : Dir} {l : List Chg} {c : Chg} : oks d (l ++ [c]) ↔ oks d l ∧ c.ok (apps d l) := by
  induction l generalizing d with
  | nil => simp [oks, apps]
  | cons a l ih => simp [oks, ih, apps, and_assoc]
theorem oks_take {d : Dir} {l : List Chg} (h : oks d l) (k : Nat) : oks d (l.take k) := by
  induction l generalizing d k with
  | nil => simp [oks]
  | cons a l ih =>
    cases k with
    | zero => simp [oks]
    | succ k => exact ⟨h.1, ih h.2 k⟩
theorem length_app_le (d : Dir) (c : Chg) : (c.app d).length ≤ d.length + 1 := by
  cases c with
  | create n x => exact length_put_le d n x
  | rename a b =>
    simp only [Chg.app]
    split
    · exact Nat.le_trans (length_del_le _ _) (length_put_le _ _ _)
    · omega
  | unlink n => exact Nat.le_trans (length_del_le d n) (by omega)
theorem length_apps_le (l : List Chg) : ∀ d : Dir, (apps d l).length ≤ d.length + l.length := by
  induction l with
  | nil => intro d; simp [apps]
  | cons c l ih =>
    intro d
    have := ih (c.app d)
    have h2 := length_app_le d c
    simp only [apps, List.foldl_cons, List.length_cons] at this ⊢
    omega

/-! a disk -/
structure Disk where
  sure : Dir
  loose : List Chg
  bytes : Nat → List UInt8
  firm : Nat → Nat
  room : Int
  fuse : Int
  down : Bool
def Disk.now (d : Disk) : Dir := apps d.sure d.loose
/-- is the block a file of the disk? -/
def Disk.has (d : Disk) (x : Nat) : Prop := (∃ n, (n, x) ∈ d.sure) ∨ ∃ n, Chg.create n x ∈ d.loose
/-- is it a name? -/
def rightB (n : Nm) : Bool := n.all (fun c => decide (33 ≤ c.toNat ∧ c.toNat ≤ 126 ∧ c.toNat ≠ 47)) && decide (1 ≤ n.length ∧ n.length ≤ 80)
def setAt {α : Type} (f : Nat → α) (x : Nat) (v : α) : Nat → α := fun y => if y = x then v else f y
theorem setAt_same {α : Type} (f : Nat → α) (x : Nat) (v : α) : setAt f x v x = v := by simp [setAt]
theorem setAt_other {α : Type} (f : Nat → α) {x y : Nat} (v : α) (h : y ≠ x) : setAt f x v y = f y := by simp [setAt, h]
/-- what all calls ask first -/
def Disk.ready (d : Disk) (ns : List Nm) : Int := if ns.any (fun n => !rightB n) then 1 else if d.down then 2 else 0
/-- is one more write done? -/
def Disk.power (d : Disk) : Int × Disk := if d.fuse = 0 then (2, { d with down := true }) else if d.fuse > 0 then (0, { d with fuse := d.fuse - 1 }) else (0, d)
def Disk.change (d : Disk) (c : Chg) : Int × Disk := if d.power.1 = 0 then (0, { d.power.2 with loose := d.loose ++ [c] }) else d.power
def used (b : Nat → List UInt8) (l : Dir) : Nat := (l.map fun p => (b p.2).length).sum
/-- x: the new file's block -/
def Disk.create (d : Disk) (x : Nat) (n : Nm) : Int × Disk :=
  if d.ready [n] ≠ 0 then (d.ready [n], d) else if (get d.now n).isSome then (5, d) else if d.now.length ≥ 256 then (3, d) else Disk.change { d with bytes := setAt d.bytes x [], firm := setAt d.firm x 0 } (.create n x)
def Disk.append (d : Disk) (n : Nm) (b : List UInt8) : Int × Disk :=
  if d.ready [n] ≠ 0 then (d.ready [n], d) else match get d.now n with
    | none => (4, d)
    | some x => if (b.length : Int) > d.room - (used d.bytes d.now : Int) then (3, d) else if d.power.1 = 0 then (0, { d.power.2 with bytes := setAt d.bytes x (d.bytes x ++ b) }) else d.power
def Disk.sync (d : Disk) (n : Nm) : Int × Disk :=
  if d.ready [n] ≠ 0 then (d.ready [n], d) else match get d.now n with
    | none => (4, d)
    | some x => if d.power.1 = 0 then (0, { d.power.2 with firm := setAt d.firm x (d.bytes x).length }) else d.power
def Disk.rename (d : Disk) (a b : Nm) : Int × Disk :=
  if d.ready [a, b] ≠ 0 then (d.ready [a, b], d) else match get d.now a with
    | none => (4, d)
    | some _ => if a = b then d.power else d.change (.rename a b)
def Disk.unlink (d : Disk) (n : Nm) : Int × Disk :=
  if d.ready [n] ≠ 0 then (d.ready [n], d) else match get d.now n with
    | none => (4, d)
    | some _ => d.change (.unlink n)
def Disk.dirSync (d : Disk) : Int × Disk :=
  if d.ready [] ≠ 0 then (d.ready [], d) else if d.power.1 = 0 then (0, { d.power.2 with sure := d.now, loose := [] }) else d.power
def Disk.read (d : Disk) (n : Nm) : List UInt8 × Int :=
  if d.ready [n] ≠ 0 then ([], d.ready [n]) else match get d.now n with
    | none => ([], 4)
    | some x => (d.bytes x, 0)
/-- how many bytes of a file are kept -/
def Disk.kept (d : Disk) (more : Int) (x : Nat) : Nat := d.firm x + min (max more 0).toNat ((d.bytes x).length - d.firm x)
def Disk.crash (d : Disk) (dirs more : Int) : Disk :=
  let s := apps d.sure (d.loose.take (min (max dirs 0) (d.loose.length : Int)).toNat)
  { sure := s, loose := [], bytes := fun x => if s.any (fun p => p.2 == x) then (d.bytes x).take (d.kept more x) else d.bytes x, firm := fun x => if s.any (fun p => p.2 == x) then d.kept more x else d.firm x, room := d.room, fuse := -1, down := false }
end Go.Proofs.Ytibmgcihpbofdaa.Fs
namespace Go.Proofs.Ytibmgcihpbofdaa.Fs
open Go.RowKit Go.Proofs.Ytibmgcihpbofdaa Go.Proofs.Ytibmgcihpbofdaa.Plain Go.Proofs.YtibmgcihpbofdaaW.PrintWords Go.Proofs.YtibmgcihpbofdaaW.PrintLast Go.Proofs.YtibmgcihpbofdaaW.PrintMore
set_option linter.unusedVariables false
set_option linter.unusedSimpArgs false
def okC (c : UInt8) : Bool := decide (33 ≤ c.toNat ∧ c.toNat ≤ 126 ∧ c.toNat ≠ 47)
theorem rightB_eq (u : Nm) : rightB u = (u.all okC && decide (1 ≤ u.length ∧ u.length ≤ 80)) := rfl
open PRIGHT in
theorem right_l0 (s : List UInt8) : ∀ (p : List UInt8) (k : Nat), (p ++ s).length ≤ 140737488351232 → p.all okC = true → s.length < k → fs_right.l0 k (S (p ++ s)) (B (p ++ s)) ((p ++ s).length : Int) (p.length : Int) = some (rightB (p ++ s)) := by
  induction s with
  | nil =>
    intro p k hz hp hk
    obtain ⟨k, rfl⟩ : ∃ m, k = m + 1 := ⟨k - 1, by simp at hk; omega⟩
    rw [List.append_nil] at hz ⊢
    simp only [fs_right.l0]
    rw [if_neg (by omega), rightB_eq, hp, S_toList, S_size]
    by_cases h : p = []
    · subst h; simp
    · have : 1 ≤ p.length := by
        cases p with
        | nil => exact absurd rfl h
        | cons a p => simp
      rw [if_neg h]
      congr 1
      rw [Bool.true_and, Bool.eq_iff_iff]
      simp only [decide_eq_true_eq]
      omega
  | cons b s ih =>
    intro p k hz hp hk
    obtain ⟨k, rfl⟩ : ∃ m, k = m + 1 := ⟨k - 1, by simp at hk; omega⟩
    have hz' : p.length + s.length + 1 ≤ 140737488351232 := by simp at hz; omega
    have hl : (p ++ b :: s).length = p.length + s.length + 1 := by simp; omega
    simp only [fs_right.l0]
    rw [B_length, if_pos (by omega), if_pos (by omega), if_pos (by omega)]
    have hrd : rd (B (p ++ b :: s)) (p.length : Int) = (b.toNat : Int) := by
      rw [rd_B (by simp)]
      simp
    rw [hrd]
    have hall : (p ++ b :: s).all okC = (okC b && s.all okC) := by simp [hp]
    by_cases hb : okC b = true
    · have hb' : 33 ≤ b.toNat ∧ b.toNat ≤ 126 ∧ b.toNat ≠ 47 := of_decide_eq_true hb
      rw [if_neg (by omega), if_neg (by omega), if_neg (by omega), wrap_succ (by omega)]
      have := ih (p ++ [b]) k (by simp at hz ⊢; omega) (by simp [hp, hb]) (by simp at hk; omega)
      simp only [List.append_assoc, List.singleton_append, List.length_append, List.length_cons, List.length_nil, Nat.zero_add] at this
      simp only [List.length_append, List.length_cons]
      exact this
    · have hf : rightB (p ++ b :: s) = false := by rw [rightB_eq, hall]; simp [hb]
      have hb' : ¬ (33 ≤ b.toNat ∧ b.toNat ≤ 126 ∧ b.toNat ≠ 47) := fun h => hb (decide_eq_true h)
      rw [hf]
      by_cases h1 : (b.toNat : Int) ≤ 32
      · rw [if_pos h1]
      · rw [if_neg h1]
        by_cases h2 : (b.toNat : Int) > 126
        · rw [if_pos h2]
        · rw [if_neg h2, if_pos (by omega)]
theorem right (u : Nm) (hz : u.length ≤ 140737488351232) (w : World) : Calls Try.prog 51 #[.string (S u)] w fun e w' => e = .returned (.bool (rightB u)) ∧ Below w.heap.size w w' := by
  refine PRIGHT.fs_right.calls (u.length + 1) (S u) (rightB u) w (Glob.of w) ?_
  unfold PRIGHT.fs_right.f
  rw [if_pos (by simp; omega)]
  have := right_l0 u [] (u.length + 1) (by simpa using hz) rfl (by omega)
  simp only [List.nil_append, List.length_nil] at this
  simp only [Option.bind_some, bytesOf_S, B_length]
  exact this
open PRIGHT in
theorem name_l0 (s : List UInt8) : ∀ (p : List UInt8) (k : Nat), (p ++ s).length ≤ 140737488351232 → p.all okC = true → s.length < k → pillarboxref01_Name.l0 k (S (p ++ s)) (p.length : Int) = some (rightB (p ++ s)) := by
  induction s with
  | nil =>
    intro p k hz hp hk
    obtain ⟨k, rfl⟩ : ∃ m, k = m + 1 := ⟨k - 1, by simp at hk; omega⟩
    rw [List.append_nil] at hz ⊢
    simp only [pillarboxref01_Name.l0]
    rw [S_size, if_neg (by omega), rightB_eq, hp]
    by_cases h : (p.length : Int) ≥ 1
    · rw [if_pos h]
      congr 1
      rw [Bool.true_and, Bool.eq_iff_iff]
      simp only [decide_eq_true_eq]
      omega
    · rw [if_neg h]
      congr 1
      rw [Bool.true_and]
      symm
      rw [decide_eq_false_iff_not]
      omega
  | cons b s ih =>
    intro p k hz hp hk
    obtain ⟨k, rfl⟩ : ∃ m, k = m + 1 := ⟨k - 1, by simp at hk; omega⟩
    have hz' : p.length + s.length + 1 ≤ 140737488351232 := by simp at hz; omega
    have hl : (p ++ b :: s).length = p.length + s.length + 1 := by simp; omega
    simp only [pillarboxref01_Name.l0]
    rw [S_size, if_pos (by omega), if_pos (by omega)]
    have hrd : bt (S (p ++ b :: s)) (p.length : Int) = (b.toNat : Int) := by
      rw [bt_S (by simp)]
      simp
    rw [hrd]
    have hall : (p ++ b :: s).all okC = (okC b && s.all okC) := by simp [hp]
    by_cases hb : okC b = true
    · have hb' : 33 ≤ b.toNat ∧ b.toNat ≤ 126 ∧ b.toNat ≠ 47 := of_decide_eq_true hb
      rw [if_neg (by omega), if_neg (by omega), if_neg (by omega), wrap_succ (by omega)]
      have := ih (p ++ [b]) k (by simp at hz ⊢; omega) (by simp [hp, hb]) (by simp at hk; omega)
      simp only [List.append_assoc, List.singleton_append, List.length_append, List.length_cons, List.length_nil, Nat.zero_add] at this
      exact this
    · have hf : rightB (p ++ b :: s) = false := by rw [rightB_eq, hall]; simp [hb]
      have hb' : ¬ (33 ≤ b.toNat ∧ b.toNat ≤ 126 ∧ b.toNat ≠ 47) := fun h => hb (decide_eq_true h)
      rw [hf]
      by_cases h1 : (b.toNat : Int) < 33
      · rw [if_pos h1]
      · rw [if_neg h1]
        by_cases h2 : (b.toNat : Int) > 126
        · rw [if_pos h2]
        · rw [if_neg h2, if_pos (by omega)]
theorem refName (u : Nm) (hz : u.length ≤ 140737488351232) (w : World) : Calls Try.prog 10 #[.string (S u)] w fun e w' => e = .returned (.bool (rightB u)) ∧ Drawn0 w w' := by
  refine PRIGHT.pillarboxref01_Name.calls (u.length + 1) (S u) (rightB u) w (Glob.of w) ?_
  have := name_l0 u [] (u.length + 1) (by simpa using hz) rfl (by omega)
  simp only [List.nil_append, List.length_nil] at this
  exact this
set_option maxHeartbeats 400000 in
theorem notRight (u : Nm) (hz : u.length ≤ 140737488351232) (w : World) : Calls Try.prog 50 #[.string (S u)] w fun e w' => e = .returned (.bool (!rightB u)) ∧ Below w.heap.size w w' := by
  have X := right u hz w
  obtain ⟨r, hr⟩ : ∃ r, rightB u = r := ⟨_, rfl⟩
  rw [hr] at X ⊢
  clear hr
  go_enter Try.func50, Try.ntmps50
  go_wp2_with (go_at_call 51; refine X.mono ?_; rintro e W ⟨rfl, hb⟩)
  go_ret
  exact ⟨rfl, hb⟩
/-- a slice of names -/
def NamesAt (W : World) (A : Option Addr) (ns : List Nm) : Prop := ∀ j (hj : j < ns.length), ∃ ad, A = some ad ∧ W.cell? (ad.add j) = some (.string (S ns[j])) ∧ ns[j].length ≤ 140737488351232
theorem NamesAt.below {W X : World} {A : Option Addr} {ns : List Nm} (h : NamesAt W A ns) (hb : Below W.heap.size W X) : NamesAt X A ns := fun j hj => by
  obtain ⟨ad, e, hc, hl⟩ := h j hj
  exact ⟨ad, e, (World.cell?_of_block (hb.block _ (World.block_lt_of_cell? _ _ hc))).trans hc, hl⟩
set_option maxHeartbeats 1000000 in
theorem indexFunc (A : Option Addr) (c : Nat) (ns : List Nm) (w : World) (h : NamesAt w A ns) (hn : ns.length ≤ 100) :
    Calls Try.prog 57 #[.slice A ns.length c, .func (.func 50) #[] #[]] w fun e w' => ∃ r : Int, e = .returned (.int .i64 r) ∧ (0 ≤ r ↔ ns.any (fun n => !rightB n) = true) ∧ Below w.heap.size w w' := by
  have HN := Aside0.mk h
  clear h
  go_enter Try.func57, Try.ntmps57
  go_wp2
  go_loopw [5, 8] (fun v5 v8 wr => ∃ i : Nat, i ≤ ns.length ∧ v8 = .int .i64 i ∧ Aside0 (∀ j (hj : j < ns.length), j < i → rightB ns[j] = true) ∧ Aside0 (Below w.heap.size w wr)) (fun _ v8 _ => ns.length - (intOf v8).toNat)
  case atStart => exact ⟨0, by omega, rfl, ⟨fun j hj h => by omega⟩, ⟨Below.refl _ _⟩⟩
  case round =>
    obtain ⟨i, hi, rfl, HI, HB⟩ := hrel
    by_cases hlt : i < ns.length
    · obtain ⟨ad, rfl, hcell, hlen⟩ := HN.out i hlt
      have hcell' : wr.cell? (ad.add i) = some (.string (S ns[i])) := (World.cell?_of_block (HB.out.block _ (World.block_lt_of_cell? _ _ hcell))).trans hcell
      have X := notRight ns[i] hlen wr
      obtain ⟨r, hr⟩ : ∃ r, rightB ns[i] = r := ⟨_, rfl⟩
      rw [hr] at X
      have HR := Aside0.mk hr
      obtain ⟨s, hs⟩ : ∃ s, S ns[i] = s := ⟨_, rfl⟩
      rw [hs] at X hcell'
      clear hcell hlen hr hs
      cases r with
      | true =>
        go_wp2_with (go_at_call 50; refine X.mono ?_; rintro e W ⟨rfl, hb⟩; have HB2 := Aside0.mk (HB.out.trans (hb.mono HB.out.size)); clear hb X)
        go_roundw
        case rel =>
          refine ⟨i + 1, by omega, by go_num, ⟨fun j hj h => ?_⟩, HB2⟩
          by_cases e : j = i
          · subst e; exact HR.out
          · exact HI.out j hj (by omega)
        case measure => simp [intOf]; omega
      | false =>
        go_wp2_with (go_at_call 50; refine X.mono ?_; rintro e W ⟨rfl, hb⟩; have HB2 := Aside0.mk (HB.out.trans (hb.mono HB.out.size)); clear hb X)
        go_ret
        refine ⟨(i : Int), rfl, ⟨fun _ => ?_, fun _ => by omega⟩, HB2.out⟩
        rw [List.any_eq_true]
        exact ⟨ns[i], List.getElem_mem hlt, by rw [HR.out]; rfl⟩
    · go_wp2
      go_ret
      refine ⟨-1, rfl, ⟨fun h => by omega, fun h => ?_⟩, HB.out⟩
      rw [List.any_eq_true] at h
      obtain ⟨x, hx, hx2⟩ := h
      obtain ⟨j, hj, rfl⟩ := List.getElem_of_mem hx
      rw [HI.out j hj (by omega)] at hx2
      cases hx2
set_option maxHeartbeats 400000 in
theorem containsFunc (A : Option Addr) (c : Nat) (ns : List Nm) (w : World) (h : NamesAt w A ns) (hn : ns.length ≤ 100) :
    Calls Try.prog 49 #[.slice A ns.length c, .func (.func 50) #[] #[]] w fun e w' => e = .returned (.bool (ns.any fun n => !rightB n)) ∧ Below w.heap.size w w' := by
  have X := indexFunc A c ns w h hn
  obtain ⟨b, hb⟩ : ∃ b, (ns.any fun n => !rightB n) = b := ⟨_, rfl⟩
  rw [hb] at X ⊢
  clear h hb
  go_enter Try.func49, Try.ntmps49
  go_wp2_with (go_at_call 57; refine X.mono ?_; rintro e W ⟨r, rfl, hr, hB⟩)
  go_ret
  refine ⟨?_, hB⟩
  cases b with
  | true => have : 0 ≤ r := hr.2 rfl; simp [this]
  | false => have : ¬ 0 ≤ r := fun h => by cases hr.1 h
             simp [this]
end Go.Proofs.Ytibmgcihpbofdaa.Fs
namespace Go.Proofs.Ytibmgcihpbofdaa.Fs
open Go.RowKit Go.Proofs.Ytibmgcihpbofdaa Go.Proofs.Ytibmgcihpbofdaa.Plain Go.Proofs.YtibmgcihpbofdaaW.PrintWords Go.Maps
set_option linter.unusedVariables false
set_option linter.unusedSimpArgs false
theorem infoU8 : (Try.prog.info? 5).map (fun i => (i.zero, i.size, i.bytes)) = some (some (.int .u8 0), 1, 1) := by kernel_rfl
theorem infoChange : (Try.prog.info? 76).map (fun i => (i.zero, i.size, i.bytes)) = some (some .nilFunc, 1, 8) := by kernel_rfl
theorem keyed : Keyed Try.prog 9 := string_keyed Try.underlying9
/-- what a change's function value is: its captured variables in blocks of their own -/
def CloIs (W : World) (T : Nat → Prop) : Chg → Value → Prop
  | .create n x, v => ∃ a b, v = .func (.func 35) #[] #[.pointer (some ⟨a, 0, none⟩), .pointer (some ⟨b, 0, none⟩)] ∧ W.heap[a]? = some (.cells #[.pointer (some ⟨x, 0, none⟩)] 66 (0, 0)) ∧ W.heap[b]? = some (.cells #[.string (S n)] 9 (0, 0)) ∧ T a ∧ T b ∧ n.length ≤ 80
  | .rename n m, v => ∃ a b, v = .func (.func 41) #[] #[.pointer (some ⟨a, 0, none⟩), .pointer (some ⟨b, 0, none⟩)] ∧ W.heap[a]? = some (.cells #[.string (S n)] 9 (0, 0)) ∧ W.heap[b]? = some (.cells #[.string (S m)] 9 (0, 0)) ∧ T a ∧ T b ∧ n.length ≤ 80 ∧ m.length ≤ 80
  | .unlink n, v => ∃ a, v = .func (.func 40) #[] #[.pointer (some ⟨a, 0, none⟩)] ∧ W.heap[a]? = some (.cells #[.string (S n)] 9 (0, 0)) ∧ T a ∧ n.length ≤ 80
def IsBox (W : World) (k : Nat) : Prop := ∃ c, W.heap[k]? = some (.cells c 66 (0, 0)) ∨ W.heap[k]? = some (.cells c 9 (0, 0))
theorem CloIs.move {W X : World} {T T' : Nat → Prop} {c : Chg} {v : Value} (h : CloIs W T c v) (hk : ∀ k, T k → IsBox W k → X.heap[k]? = W.heap[k]?) (hT : ∀ k, T k → T' k) : CloIs X T' c v := by
  cases c with
  | create n x => obtain ⟨a, b, e, h1, h2, h3, h4, h5⟩ := h; exact ⟨a, b, e, (hk a h3 ⟨_, .inl h1⟩).trans h1, (hk b h4 ⟨_, .inr h2⟩).trans h2, hT a h3, hT b h4, h5⟩
  | rename n m => obtain ⟨a, b, e, h1, h2, h3, h4, h5⟩ := h; exact ⟨a, b, e, (hk a h3 ⟨_, .inr h1⟩).trans h1, (hk b h4 ⟨_, .inr h2⟩).trans h2, hT a h3, hT b h4, h5⟩
  | unlink n => obtain ⟨a, e, h1, h2, h3⟩ := h; exact ⟨a, e, (hk a h2 ⟨_, .inr h1⟩).trans h1, hT a h2, h3⟩
inductive Clos (W : World) (T : Nat → Prop) : List Chg → List Value → Prop
  | nil : Clos W T [] []
  | cons {c : Chg} {v : Value} {l : List Chg} {fs : List Value} (h : CloIs W T c v) (r : Clos W T l fs) : Clos W T (c :: l) (v :: fs)
theorem Clos.move {W X : World} {T T' : Nat → Prop} {l : List Chg} {fs : List Value} (h : Clos W T l fs) (hk : ∀ k, T k → IsBox W k → X.heap[k]? = W.heap[k]?) (hT : ∀ k, T k → T' k) : Clos X T' l fs := by
  induction h with
  | nil => exact .nil
  | cons h r ih => exact .cons (h.move hk hT) ih
theorem Clos.snoc {W : World} {T : Nat → Prop} {l : List Chg} {fs : List Value} (h : Clos W T l fs) {c : Chg} {v : Value} (hc : CloIs W T c v) : Clos W T (l ++ [c]) (fs ++ [v]) := by
  induction h with
  | nil => exact .cons hc .nil
  | cons h r ih => exact .cons h ih
theorem Clos.length {W : World} {T : Nat → Prop} {l : List Chg} {fs : List Value} (h : Clos W T l fs) : fs.length = l.length := by
  induction h with
  | nil => rfl
  | cons h r ih => simp [ih]
theorem Clos.get {W : World} {T : Nat → Prop} {l : List Chg} {fs : List Value} (h : Clos W T l fs) (i : Nat) (hi : i < l.length) : ∃ v, fs[i]? = some v ∧ CloIs W T l[i] v := by
  induction h generalizing i with
  | nil => simp at hi
  | cons h r ih =>
    cases i with
    | zero => exact ⟨_, rfl, h⟩
    | succ i =>
      obtain ⟨v, h1, h2⟩ := ih i (by simpa using hi)
      exact ⟨v, by simpa using h1, by simpa using h2⟩
theorem ownsMap_move {W X : World} {b n : Nat} {E : DataW Unit} (h : W.ownsMap Try.prog 9 ptrElem b n E) (hk : X.heap[b]? = W.heap[b]?) : X.ownsMap Try.prog 9 ptrElem b n E := by
  obtain ⟨es, clock, hb, r⟩ := h
  exact ⟨es, clock, hk.trans hb, r⟩
theorem ownsMap_tight {W : World} {b n : Nat} {d : Dir} (h : W.ownsMap Try.prog 9 ptrElem b n (D d)) : W.ownsMap Try.prog 9 ptrElem b d.length (D d) := by
  obtain ⟨es, clock, hb, F, hs, hD⟩ := h
  refine ⟨es, clock, hb, F, ?_, hD⟩
  have h1 : Maps.size (D d) = es.size := by rw [hD]; simp [Maps.size, length_sorted]
  rw [D_size] at h1
  omega
theorem zeroPtr (w : World) : (zeroValue 66).run Try.prog w = .ok (.pointer none) w := by kernel_rfl
theorem keyS (n : Nm) (hn : n.length ≤ 140737488351232) : keyOf Try.prog 9 (.string (S n)) = some (.string n) := by
  have := Go.WideMaps.keyOf_string_mk (s := S n) Try.underlying9 (by simp [maxLen]; omega)
  rw [S_data] at this
  exact this
/-- 'x, ok := m[n]' -/
theorem lookOk {W : World} {b : Nat} {d : Dir} (h : W.ownsMap Try.prog 9 ptrElem b d.length (D d)) (n : Nm) (hn : n.length ≤ 140737488351232) (X : World) (hX : X.heap[b]? = W.heap[b]?) :
    (Instr.lookup 61 (.map (some b)) (.string (S n)) true).run Try.prog X = .ok (.tuple #[match get d n with | some x => .pointer (some ⟨x, 0, none⟩) | none => .pointer none, .bool (get d n).isSome]) X := by
  obtain ⟨v, ps, hrun, hv⟩ := World.ownsMap.look_ok (ownsMap_move h hX) keyed Try.underlying61 (zeroPtr X) (zd := .nil) (zp := []) rfl (keyS n hn)
  rw [D_has] at hrun
  rw [D_at] at hv
  refine hrun.trans ?_
  cases hg : get d n with
  | none =>
    rw [hg] at hv
    rcases ptrElem_inv hv with ⟨b, rfl, e⟩ | ⟨rfl, e⟩
    · simp at e
    · rfl
  | some x =>
    rw [hg] at hv
    rcases ptrElem_inv hv with ⟨b, rfl, e⟩ | ⟨rfl, e⟩
    · have : x = b := by simp at e; omega
      subst this
      rfl
    · simp at e
/-- the blocks of a disk at f: T, its own ones -/
structure Core (w0 W : World) (f : Nat) (d : Disk) (N : Nat) (T : Nat → Prop) (bn bs : Nat) (vl : Value) (fs : List Value) (vb : Nat → Value) : Prop where
  head : W.heap[f]? = some (.cells #[.map (some bn), .map (some bs), vl, .int .i64 d.room, .int .i64 d.fuse, .bool d.down] 64 (0, 0))
  now : W.ownsMap Try.prog 9 ptrElem bn d.now.length (D d.now)
  sure : W.ownsMap Try.prog 9 ptrElem bs d.sure.length (D d.sure)
  ne : bn ≠ bs
  row : W.ownsRow w0.heap.size 76 1 vl d.loose.length fs
  clo : Clos W T d.loose fs
  file : ∀ x, d.has x → W.heap[x]? = some (.cells #[vb x, .int .i64 (d.firm x : Int)] 69 (0, 0)) ∧ W.ownsRow w0.heap.size 5 1 (vb x) (B (d.bytes x)).length (nums .u8 (B (d.bytes x))) ∧ d.firm x ≤ (d.bytes x).length
  apart : ∀ x y, d.has x → d.has y → ∀ g, (vb x).ownBlock = some g → (vb y).ownBlock = some g → x = y
  inF : T f
  inN : T bn
  inS : T bs
  inL : ∀ g, vl.ownBlock = some g → T g
  inX : ∀ x, d.has x → T x ∧ ∀ g, (vb x).ownBlock = some g → T g
  mine : ∀ k, T k → w0.heap.size ≤ k ∧ k < W.heap.size
  ok : oks d.sure d.loose
  room : 0 ≤ d.room ∧ d.room ≤ 16777216
  fuse : -1 ≤ d.fuse ∧ d.fuse ≤ 9223372036854775807
  small : d.sure.length + d.loose.length ≤ N ∧ ∀ x, d.has x → (d.bytes x).length ≤ N
  below : Below w0.heap.size w0 W
def FsAt (w0 : World) (f : Nat) (d : Disk) (N : Nat) (T : Nat → Prop) (W : World) : Prop := ∃ bn bs vl fs vb, Core w0 W f d N T bn bs vl fs vb
/-- the disk stays where it is while other blocks turn -/
theorem Core.step {w0 W X : World} {f : Nat} {d : Disk} {N : Nat} {T : Nat → Prop} {bn bs : Nat} {vl : Value} {fs : List Value} {vb : Nat → Value} (h : Core w0 W f d N T bn bs vl fs vb) (hk : ∀ k, T k → X.heap[k]? = W.heap[k]?) (hs : W.heap.size ≤ X.heap.size) (hb : Below w0.heap.size w0 X) : Core w0 X f d N T bn bs vl fs vb where
  head := (hk f h.inF).trans h.head
  now := ownsMap_move h.now (hk bn h.inN)
  sure := ownsMap_move h.sure (hk bs h.inS)
  ne := h.ne
  row := own_move h.row (fun k hk' => hk k (h.inL k hk'))
  clo := h.clo.move (fun k hT _ => hk k hT) (fun _ h => h)
  file := fun x hx => ⟨(hk x (h.inX x hx).1).trans (h.file x hx).1, own_move (h.file x hx).2.1 (fun k hk' => hk k ((h.inX x hx).2 k hk')), (h.file x hx).2.2⟩
  apart := h.apart
  inF := h.inF
  inN := h.inN
  inS := h.inS
  inL := h.inL
  inX := h.inX
  mine := fun k hT => ⟨(h.mine k hT).1, Nat.lt_of_lt_of_le (h.mine k hT).2 hs⟩
  ok := h.ok
  room := h.room
  fuse := h.fuse
  small := h.small
  below := hb
theorem FsAt.move {w0 W X : World} {f : Nat} {d : Disk} {N : Nat} {T : Nat → Prop} (h : FsAt w0 f d N T W) (hk : ∀ k, T k → X.heap[k]? = W.heap[k]?) (hs : W.heap.size ≤ X.heap.size) (hb : Below w0.heap.size w0 X) : FsAt w0 f d N T X := by
  obtain ⟨bn, bs, vl, fs, vb, c⟩ := h
  exact ⟨bn, bs, vl, fs, vb, c.step hk hs hb⟩
theorem FsAt.below' {w0 W : World} {f : Nat} {d : Disk} {N : Nat} {T : Nat → Prop} (h : FsAt w0 f d N T W) : Below w0.heap.size w0 W := by
  obtain ⟨bn, bs, vl, fs, vb, c⟩ := h
  exact c.below
theorem Core.step' {w0 W X : World} {f : Nat} {d : Disk} {N : Nat} {T : Nat → Prop} {bn bs : Nat} {vl : Value} {fs : List Value} {vb : Nat → Value} (h : Core w0 W f d N T bn bs vl fs vb) (hb : Below W.heap.size W X) : Core w0 X f d N T bn bs vl fs vb :=
  h.step (fun k hT => hb.block k (h.mine k hT).2) hb.size (h.below.trans (hb.mono h.below.size))
theorem FsAt.step {w0 W X : World} {f : Nat} {d : Disk} {N : Nat} {T : Nat → Prop} (h : FsAt w0 f d N T W) (hb : Below W.heap.size W X) : FsAt w0 f d N T X := by
  obtain ⟨bn, bs, vl, fs, vb, c⟩ := h
  exact ⟨bn, bs, vl, fs, vb, c.step' hb⟩
theorem Core.le {w0 W : World} {f : Nat} {d : Disk} {N N' : Nat} {T : Nat → Prop} {bn bs : Nat} {vl : Value} {fs : List Value} {vb : Nat → Value} (h : Core w0 W f d N T bn bs vl fs vb) (hN : N ≤ N') : Core w0 W f d N' T bn bs vl fs vb :=
  { h with small := ⟨Nat.le_trans h.small.1 hN, fun x hx => Nat.le_trans (h.small.2 x hx) hN⟩ }
/-- the six cells -/
theorem Core.cells {w0 W : World} {f : Nat} {d : Disk} {N : Nat} {T : Nat → Prop} {bn bs : Nat} {vl : Value} {fs : List Value} {vb : Nat → Value} (h : Core w0 W f d N T bn bs vl fs vb) :
    W.cell? ⟨f, 0, none⟩ = some (.map (some bn)) ∧ W.cell? ⟨f, 1, none⟩ = some (.map (some bs)) ∧ W.cell? ⟨f, 2, none⟩ = some vl ∧ W.cell? ⟨f, 3, none⟩ = some (.int .i64 d.room) ∧ W.cell? ⟨f, 4, none⟩ = some (.int .i64 d.fuse) ∧ W.cell? ⟨f, 5, none⟩ = some (.bool d.down) := by
  simp [World.cell?, h.head]
theorem Core.frozen {w0 W : World} {f : Nat} {d : Disk} {N : Nat} {T : Nat → Prop} {bn bs : Nat} {vl : Value} {fs : List Value} {vb : Nat → Value} (h : Core w0 W f d N T bn bs vl fs vb) (o : Nat) : W.frozen? ⟨f, o, none⟩ = false := by
  simp [World.frozen?, h.head]
theorem ne_of_obj {W : World} {a b : Nat} {o o' : Obj} (h : W.heap[a]? = some o) (h' : W.heap[b]? = some o') (hne : o ≠ o') : a ≠ b := fun e => by subst e; rw [h] at h'; exact hne (Option.some.inj h')
theorem own_cells {W : World} {base n size : Nat} {e : TypeId} {v : Value} {xs : List Value} (h : W.ownsRow base e size v n xs) {g : Nat} (hg : v.ownBlock = some g) : ∃ cur, W.heap[g]? = some (.cells cur e (0, 0)) := by
  rcases h.2 with ⟨rfl, _⟩ | ⟨g', cap, cur, rfl, _, hh, _⟩
  · simp [Value.ownBlock] at hg
  · have : g' = g := by simpa [Value.ownBlock] using hg
    subst this
    exact ⟨cur, hh⟩
theorem map_obj {W : World} {b n : Nat} {E : DataW Unit} (h : W.ownsMap Try.prog 9 ptrElem b n E) : ∃ es c, W.heap[b]? = some (.map es c) := by
  obtain ⟨es, c, hb, _⟩ := h
  exact ⟨es, c, hb⟩
theorem Core.f_ne {w0 W : World} {f : Nat} {d : Disk} {N : Nat} {T : Nat → Prop} {bn bs : Nat} {vl : Value} {fs : List Value} {vb : Nat → Value} (h : Core w0 W f d N T bn bs vl fs vb) :
    bn ≠ f ∧ bs ≠ f ∧ (∀ g, vl.ownBlock = some g → g ≠ f) ∧ (∀ k, IsBox W k → k ≠ f) ∧ (∀ x, d.has x → x ≠ f ∧ ∀ g, (vb x).ownBlock = some g → g ≠ f) := by
  obtain ⟨es, c, h1⟩ := map_obj h.now
  obtain ⟨es', c', h2⟩ := map_obj h.sure
  refine ⟨ne_of_obj h1 h.head (by simp), ne_of_obj h2 h.head (by simp), fun g hg => ?_, fun k ⟨c, hk⟩ => ?_, fun x hx => ⟨ne_of_obj (h.file x hx).1 h.head (by simp), fun g hg => ?_⟩⟩
  · obtain ⟨cur, h3⟩ := own_cells h.row hg
    exact ne_of_obj h3 h.head (by simp)
  · rcases hk with hk | hk
    · exact ne_of_obj hk h.head (by simp)
    · exact ne_of_obj hk h.head (by simp)
  · obtain ⟨cur, h3⟩ := own_cells (h.file x hx).2.1 hg
    exact ne_of_obj h3 h.head (by simp)
/-- a field that is a number or a bool -/
theorem Core.scalar {w0 W X : World} {f : Nat} {d : Disk} {N : Nat} {T : Nat → Prop} {bn bs : Nat} {vl : Value} {fs : List Value} {vb : Nat → Value} (h : Core w0 W f d N T bn bs vl fs vb) (r fu : Int) (dn : Bool)
    (hhead : X.heap[f]? = some (.cells #[.map (some bn), .map (some bs), vl, .int .i64 r, .int .i64 fu, .bool dn] 64 (0, 0))) (hk : ∀ k, k ≠ f → X.heap[k]? = W.heap[k]?) (hs : X.heap.size = W.heap.size) (hb : Below w0.heap.size w0 X)
    (hr : 0 ≤ r ∧ r ≤ 16777216) (hf : -1 ≤ fu ∧ fu ≤ 9223372036854775807) : Core w0 X f { d with room := r, fuse := fu, down := dn } N T bn bs vl fs vb := by
  obtain ⟨n1, n2, n3, n4, n5⟩ := h.f_ne
  exact {
    head := hhead
    now := ownsMap_move h.now (hk bn n1)
    sure := ownsMap_move h.sure (hk bs n2)
    ne := h.ne
    row := own_move h.row (fun k hk' => hk k (n3 k hk'))
    clo := h.clo.move (fun k _ hB => hk k (n4 k hB)) (fun _ h => h)
    file := fun x hx => ⟨(hk x (n5 x hx).1).trans (h.file x hx).1, own_move (h.file x hx).2.1 (fun k hk' => hk k ((n5 x hx).2 k hk')), (h.file x hx).2.2⟩
    apart := h.apart
    inF := h.inF
    inN := h.inN
    inS := h.inS
    inL := h.inL
    inX := h.inX
    mine := fun k hT => by rw [hs]; exact h.mine k hT
    ok := h.ok
    room := hr
    fuse := hf
    small := h.small
    below := hb }
/-- what else has turned: T' is T and new blocks; nothing else has turned -/
def Turn (T : Nat → Prop) (W : World) (T' : Nat → Prop) (W' : World) : Prop := (∀ k, T' k → T k ∨ W.heap.size ≤ k) ∧ (∀ k, T k → T' k) ∧ (∀ k, k < W.heap.size → ¬ T k → W'.heap[k]? = W.heap[k]?) ∧ W.heap.size ≤ W'.heap.size
theorem Turn.refl (T : Nat → Prop) (W : World) : Turn T W T W := ⟨fun _ h => .inl h, fun _ h => h, fun _ _ _ => rfl, Nat.le_refl _⟩
theorem Turn.of_below {T : Nat → Prop} {W X : World} (hb : Below W.heap.size W X) : Turn T W T X := ⟨fun _ h => .inl h, fun _ h => h, fun k hk _ => hb.block k hk, hb.size⟩
theorem Turn.trans {T T1 T2 : Nat → Prop} {W W1 W2 : World} (h : Turn T W T1 W1) (h' : Turn T1 W1 T2 W2) : Turn T W T2 W2 :=
  ⟨fun k hk => (h'.1 k hk).elim (fun h1 => h.1 k h1) (fun h1 => .inr (Nat.le_trans h.2.2.2 h1)), fun k hk => h'.2.1 k (h.2.1 k hk),
   fun k hk hT => (h'.2.2.1 k (Nat.lt_of_lt_of_le hk h.2.2.2) (fun h1 => (h.1 k h1).elim hT (fun h2 => by omega))).trans (h.2.2.1 k hk hT), Nat.le_trans h.2.2.2 h'.2.2.2⟩
end Go.Proofs.Ytibmgcihpbofdaa.Fs
namespace Go.Proofs.Ytibmgcihpbofdaa.Fs
open Go.RowKit Go.Proofs.Ytibmgcihpbofdaa Go.Proofs.Ytibmgcihpbofdaa.Plain Go.Proofs.YtibmgcihpbofdaaW.PrintWords Go.Maps
set_option linter.unusedVariables false
set_option linter.unusedSimpArgs false
theorem readyNil (A : Option Addr) (n c : Nat) (W : World) : Calls Try.prog 33 #[.pointer none, .slice A n c] W fun e W' => e = .returned (.int .i64 1) ∧ W' = W := by
  go_enter Try.func33, Try.ntmps33
  go_wp2
  go_ret
  exact ⟨rfl, rfl⟩
set_option maxHeartbeats 1000000 in
theorem ready {w0 W : World} {f : Nat} {d : Disk} {N : Nat} {T : Nat → Prop} (h : FsAt w0 f d N T W) (A : Option Addr) (c : Nat) (ns : List Nm) (hns : NamesAt W A ns) (hn : ns.length ≤ 100) {n : Nat} (en : n = ns.length) :
    Calls Try.prog 33 #[.pointer (some ⟨f, 0, none⟩), .slice A n c] W fun e W' => e = .returned (.int .i64 (d.ready ns)) ∧ Below W.heap.size W W' := by
  subst en
  obtain ⟨bn, bs, vl, fs, vb, c0⟩ := h
  have X := containsFunc A c ns W hns hn
  obtain ⟨_, _, _, _, _, c5⟩ := c0.cells
  have hc5 : ∀ Y : World, Below W.heap.size W Y → Y.cell? ⟨f, 5, none⟩ = some (.bool d.down) := fun Y hY => (hY.cell (p := ⟨f, 5, none⟩) (c0.mine f c0.inF).2).trans c5
  have HC := Aside0.mk hc5
  obtain ⟨b, hb⟩ : ∃ b, (ns.any fun n => !rightB n) = b := ⟨_, rfl⟩
  have HB := Aside0.mk hb
  rw [hb] at X
  clear c0 hns c5 hc5 hb
  cases b with
  | true =>
    go_enter Try.func33, Try.ntmps33
    go_wp2_with (go_at_call 49; refine X.mono ?_; rintro e W1 ⟨rfl, hB⟩)
    go_ret
    refine ⟨?_, hB⟩
    rw [Disk.ready, HB.out]
    rfl
  | false =>
    go_enter Try.func33, Try.ntmps33
    go_wp2_with (go_at_call 49; refine X.mono ?_; rintro e W1 ⟨rfl, hB⟩; have h5 := HC.out W1 hB)
    all_goals
      go_ret
      refine ⟨?_, hB⟩
      rw [Disk.ready, HB.out]
      simp [*]
/-- what a store into one of the disk's number fields leaves -/
theorem Core.setScalar {w0 W : World} {f : Nat} {d : Disk} {N : Nat} {T : Nat → Prop} {bn bs : Nat} {vl : Value} {fs : List Value} {vb : Nat → Value} (h : Core w0 W f d N T bn bs vl fs vb) :
    (∀ r : Int, 0 ≤ r ∧ r ≤ 16777216 → Core w0 (W.setCell ⟨f, 3, none⟩ (.int .i64 r)) f { d with room := r } N T bn bs vl fs vb) ∧
    (∀ r : Int, -1 ≤ r ∧ r ≤ 9223372036854775807 → Core w0 (W.setCell ⟨f, 4, none⟩ (.int .i64 r)) f { d with fuse := r } N T bn bs vl fs vb) ∧
    (∀ b : Bool, Core w0 (W.setCell ⟨f, 5, none⟩ (.bool b)) f { d with down := b } N T bn bs vl fs vb) := by
  have hb : ∀ (o : Nat) (v : Value), Below w0.heap.size w0 (W.setCell ⟨f, o, none⟩ v) := fun o v => h.below.setCell (h.mine f h.inF).1 v
  have hk := fun (o : Nat) (v : Value) (k : Nat) (hk : k ≠ f) => Below.heap_setCell W ⟨f, o, none⟩ v k hk
  refine ⟨fun r hr => ?_, fun r hr => ?_, fun b => ?_⟩
  · exact h.scalar r d.fuse d.down (by simp [World.setCell, Array.getElem?_modify, h.head]) (hk _ _) (by simp [World.setCell]) (hb _ _) hr h.fuse
  · exact h.scalar d.room r d.down (by simp [World.setCell, Array.getElem?_modify, h.head]) (hk _ _) (by simp [World.setCell]) (hb _ _) h.room hr
  · exact h.scalar d.room d.fuse b (by simp [World.setCell, Array.getElem?_modify, h.head]) (hk _ _) (by simp [World.setCell]) (hb _ _) h.room h.fuse
theorem Turn.set {T : Nat → Prop} {W : World} {p : Addr} (hT : T p.block) (v : Value) : Turn T W T (W.setCell p v) :=
  ⟨fun _ h => .inl h, fun _ h => h, fun k _ hk => Below.heap_setCell W p v k (fun e => hk (e ▸ hT)), by simp [World.setCell]⟩
/-- nothing has turned but block f -/
def But (f : Nat) (W W' : World) : Prop := (∀ k, k ≠ f → W'.heap[k]? = W.heap[k]?) ∧ W'.heap.size = W.heap.size
theorem But.set (f o : Nat) (v : Value) {W : World} : But f W (W.setCell ⟨f, o, none⟩ v) := ⟨fun k hk => Below.heap_setCell W ⟨f, o, none⟩ v k hk, by simp [World.setCell]⟩
theorem But.turn {f : Nat} {W W' : World} {T : Nat → Prop} (h : But f W W') (hT : T f) : Turn T W T W' := ⟨fun _ h => .inl h, fun _ h => h, fun k _ hk => h.1 k (fun e => hk (e ▸ hT)), Nat.le_of_eq h.2.symm⟩
set_option maxHeartbeats 1000000 in
theorem power {w0 W : World} {f : Nat} {d : Disk} {N : Nat} {T : Nat → Prop} {bn bs : Nat} {vl : Value} {fs : List Value} {vb : Nat → Value} (h : Core w0 W f d N T bn bs vl fs vb) :
    Calls Try.prog 37 #[.pointer (some ⟨f, 0, none⟩)] W fun e W' => e = .returned (.int .i64 d.power.1) ∧ Core w0 W' f d.power.2 N T bn bs vl fs vb ∧ But f W W' := by
  obtain ⟨_, _, _, _, c4, _⟩ := h.cells
  have f4 := h.frozen 4
  have f5 := h.frozen 5
  have hf := h.fuse
  obtain ⟨fu, hfu⟩ : ∃ fu, d.fuse = fu := ⟨_, rfl⟩
  rw [hfu] at c4 hf
  have HF := Aside0.mk hfu
  have HC := Aside0.mk h
  clear h hfu
  obtain ⟨hf1, hf2⟩ := hf
  by_cases h0 : fu = 0
  · subst h0
    go_enter Try.func37, Try.ntmps37
    go_wp2
    go_ret
    have e : d.power = (2, { d with down := true }) := by simp [Disk.power, HF.out]
    rw [e]
    exact ⟨rfl, HC.out.setScalar.2.2 true, But.set _ _ _⟩
  · by_cases h1 : 0 < fu
    · have h0' : (fu == 0) = false := by simpa using h0
      go_enter Try.func37, Try.ntmps37
      go_wp2
      go_ret
      have e : d.power = (0, { d with fuse := fu - 1 }) := by simp [Disk.power, HF.out, h0, h1]
      rw [e]
      exact ⟨rfl, HC.out.setScalar.2.1 (fu - 1) ⟨by omega, by omega⟩, But.set _ _ _⟩
    · have h0' : (fu == 0) = false := by simpa using h0
      go_enter Try.func37, Try.ntmps37
      go_wp2
      go_ret
      have e : d.power = (0, d) := by rw [Disk.power, HF.out, if_neg h0, if_neg (by omega)]
      rw [e]
      exact ⟨rfl, HC.out, fun _ _ => rfl, rfl⟩
/-- what 'found' answers -/
def Disk.found (d : Disk) (ns : List Nm) (n : Nm) : Value × Int := if d.ready ns ≠ 0 then (.pointer none, d.ready ns) else match get d.now n with | none => (.pointer none, 4) | some x => (.pointer (some ⟨x, 0, none⟩), 0)
theorem foundNil (A : Option Addr) (n c : Nat) (W : World) : Calls Try.prog 36 #[.pointer none, .slice A n c] W fun e W' => e = .returned (.tuple #[.pointer none, .int .i64 1]) ∧ W' = W := by
  have X := readyNil A n c W
  go_enter Try.func36, Try.ntmps36
  go_wp2_with (go_at_call 33; refine X.mono ?_; rintro e W1 ⟨rfl, rfl⟩)
  go_ret2
  exact ⟨rfl, rfl⟩
set_option maxHeartbeats 1000000 in
theorem found {w0 W : World} {f : Nat} {d : Disk} {N : Nat} {T : Nat → Prop} (h : FsAt w0 f d N T W) (A : Option Addr) (c : Nat) (n : Nm) (ns : List Nm) (hns : NamesAt W A (n :: ns)) (hn : (n :: ns).length ≤ 100) {m : Nat} (em : m = (n :: ns).length) :
    Calls Try.prog 36 #[.pointer (some ⟨f, 0, none⟩), .slice A m c] W fun e W' => e = .returned (.tuple #[(d.found (n :: ns) n).1, .int .i64 (d.found (n :: ns) n).2]) ∧ Below W.heap.size W W' := by
  subst em
  have X := ready h A c (n :: ns) hns hn rfl
  obtain ⟨bn, bs, vl, fs, vb, c0⟩ := h
  obtain ⟨c1, _⟩ := c0.cells
  obtain ⟨ad, rfl, hcell, hlen⟩ := hns 0 (by simp)
  rw [show ad.add 0 = ad by simp [Addr.add]] at hcell
  have hcell : W.cell? ad = some (.string (S n)) := hcell
  have hlen : n.length ≤ 140737488351232 := hlen
  obtain ⟨r, hr⟩ : ∃ r, d.ready (n :: ns) = r := ⟨_, rfl⟩
  rw [hr] at X
  have HR := Aside0.mk hr
  have HL := Aside0.mk (lookOk c0.now n hlen)
  have HC1 := Aside0.mk (fun (Y : World) (hY : Below W.heap.size W Y) => (hY.cell (p := ⟨f, 0, none⟩) (c0.mine f c0.inF).2).trans c1)
  have HC2 := Aside0.mk (fun (Y : World) (hY : Below W.heap.size W Y) => (World.cell?_of_block (hY.block _ (World.block_lt_of_cell? _ _ hcell))).trans hcell)
  have HBN := Aside0.mk (fun (Y : World) (hY : Below W.heap.size W Y) => hY.block bn (c0.mine bn c0.inN).2)
  have hm : (n :: ns).length = ns.length + 1 := rfl
  rw [hm] at X
  simp only [hm]
  clear hr c1 c0 hcell hns hm
  by_cases h0 : r = 0
  · subst h0
    obtain ⟨g, hg⟩ : ∃ g, get d.now n = g := ⟨_, rfl⟩
    have HG := Aside0.mk hg
    rw [hg] at HL
    clear hg
    cases g with
    | none =>
      go_enter Try.func36, Try.ntmps36
      go_wp2_with (go_at_call 33; refine X.mono ?_; rintro e W1 ⟨rfl, hB⟩; have hc1 := HC1.out W1 hB; have hc2 := HC2.out W1 hB; have hlk := fun q => HL.out (W1.drewN q) (HBN.out W1 hB); have HB := Aside0.mk hB; clear hB X)
      go_quiet (fail)
      go_wp2
      go_ret2
      refine ⟨?_, pw_below_drewN HB.out _⟩
      simp [Disk.found, HR.out, HG.out]
    | some x =>
      go_enter Try.func36, Try.ntmps36
      go_wp2_with (go_at_call 33; refine X.mono ?_; rintro e W1 ⟨rfl, hB⟩; have hc1 := HC1.out W1 hB; have hc2 := HC2.out W1 hB; have hlk := fun q => HL.out (W1.drewN q) (HBN.out W1 hB); have HB := Aside0.mk hB; clear hB X)
      go_quiet (fail)
      go_wp2
      go_ret2
      refine ⟨?_, pw_below_drewN HB.out _⟩
      simp [Disk.found, HR.out, HG.out]
  · have h0' : (r == 0) = false := by simpa using h0
    have h0'' : (r != 0) = true := by simpa using h0
    go_enter Try.func36, Try.ntmps36
    go_wp2_with (go_at_call 33; refine X.mono ?_; rintro e W1 ⟨rfl, hB⟩)
    go_ret2
    refine ⟨?_, hB⟩
    simp [Disk.found, HR.out, h0]
end Go.Proofs.Ytibmgcihpbofdaa.Fs
namespace Go.Proofs.Ytibmgcihpbofdaa.Fs
open Go.RowKit Go.Proofs.Ytibmgcihpbofdaa Go.Proofs.Ytibmgcihpbofdaa.Plain Go.Proofs.YtibmgcihpbofdaaW.PrintWords Go.Maps
set_option linter.unusedVariables false
set_option linter.unusedSimpArgs false
abbrev OwnDir (W : World) (b : Nat) (d : Dir) : Prop := W.ownsMap Try.prog 9 ptrElem b d.length (D d)
theorem box_cell {W : World} {a t : Nat} {v : Value} (h : W.heap[a]? = some (.cells #[v] t (0, 0))) : W.cell? ⟨a, 0, none⟩ = some v ∧ W.frozen? ⟨a, 0, none⟩ = false := by
  simp [World.cell?, World.frozen?, h]
theorem map_ne_box {W : World} {a b t : Nat} {c : Array Value} {d : Dir} (h : W.heap[a]? = some (.cells c t (0, 0))) (hm : OwnDir W b d) : some a ≠ some b := by
  obtain ⟨es, c', h1⟩ := map_obj hm
  intro e
  cases e
  rw [h] at h1
  cases h1
theorem own_put {W : World} {b n : Nat} {d : Dir} {m : Nm} {x : Nat} (h : W.ownsMap Try.prog 9 ptrElem b n ((D d).put (.string m) (.lit (.int .i64 (x : Int))))) : OwnDir W b (put d m x) := by
  rw [D_put] at h
  exact ownsMap_tight h
theorem own_del {W : World} {b n : Nat} {d : Dir} {m : Nm} (h : W.ownsMap Try.prog 9 ptrElem b n ((D d).del (.string m))) : OwnDir W b (del d m) := by
  rw [D_del] at h
  exact ownsMap_tight h
set_option maxHeartbeats 1000000 in
theorem unlinkFn {W : World} {a b : Nat} {n : Nm} {d : Dir} (hn : n.length ≤ 80) (ha : W.heap[a]? = some (.cells #[.string (S n)] 9 (0, 0))) (hd : OwnDir W b d) :
    Calls Try.prog 40 #[.map (some b), .pointer (some ⟨a, 0, none⟩)] W fun e W' => e = .returned (.tuple #[]) ∧ OwnDir W' b (del d n) ∧ W.grownBy W' (some b) := by
  obtain ⟨hc, hf⟩ := box_cell ha
  have HK := Aside0.mk (keyS n (by omega))
  have HD := Aside0.mk hd
  clear ha hd hn
  go_enter Try.func40, Try.ntmps40
  go_wp2_with (at_delete; refine wpList_delete_own _ rfl _ _ 61 9 rfl 66 keyed Try.underlying61 ptrElem b d.length (D d) rfl HD.out (.string (S n)) (.string n) rfl HK.out ?_; intro W1 h1 h2; have H1 := Aside0.mk (own_del h1); have H2 := Aside0.mk h2.grown; clear h1 h2)
  go_end0
  exact ⟨rfl, H1.out, H2.out⟩
set_option maxHeartbeats 1000000 in
theorem createFn {W : World} {a a' b x : Nat} {n : Nm} {d : Dir} (hn : n.length ≤ 80) (hx : W.heap[a]? = some (.cells #[.pointer (some ⟨x, 0, none⟩)] 66 (0, 0))) (ha : W.heap[a']? = some (.cells #[.string (S n)] 9 (0, 0))) (hd : OwnDir W b d) (hl : d.length ≤ 2000000) :
    Calls Try.prog 35 #[.map (some b), .pointer (some ⟨a, 0, none⟩), .pointer (some ⟨a', 0, none⟩)] W fun e W' => e = .returned (.tuple #[]) ∧ OwnDir W' b (put d n x) ∧ W.grownBy W' (some b) := by
  obtain ⟨hc, hf⟩ := box_cell ha
  obtain ⟨hc2, hf2⟩ := box_cell hx
  have HK := Aside0.mk (keyS n (by omega))
  have HD := Aside0.mk hd
  have HM := Aside0.mk (show d.length < maxLen by simp only [maxLen]; omega)
  clear ha hd hn hx hl
  go_enter Try.func35, Try.ntmps35
  go_wp2_with (at_mapUpdate; refine wpList_mapUpdate_in _ rfl _ _ _ 61 rfl 9 66 keyed Try.underlying61 ptrElem b d.length (D d) rfl HD.out HM.out (.string (S n)) (.pointer (some ⟨x, 0, none⟩)) (.string n) rfl rfl HK.out (.lit (.int .i64 (x : Int))) [] rfl ?_; intro W1 h1 h2; have H1 := Aside0.mk (own_put h1); have H2 := Aside0.mk h2.grown; clear h1 h2)
  go_end0
  exact ⟨rfl, H1.out, H2.out⟩
set_option maxHeartbeats 1000000 in
theorem renameFn {W : World} {a a' b x : Nat} {n m : Nm} {d : Dir} (hn : n.length ≤ 80) (hm : m.length ≤ 80) (ha : W.heap[a]? = some (.cells #[.string (S n)] 9 (0, 0))) (ha' : W.heap[a']? = some (.cells #[.string (S m)] 9 (0, 0))) (hd : OwnDir W b d) (hx : get d n = some x) (hl : d.length ≤ 2000000) :
    Calls Try.prog 41 #[.map (some b), .pointer (some ⟨a, 0, none⟩), .pointer (some ⟨a', 0, none⟩)] W fun e W' => e = .returned (.tuple #[]) ∧ OwnDir W' b (del (put d m x) n) ∧ W.grownBy W' (some b) := by
  obtain ⟨hc, hf⟩ := box_cell ha
  obtain ⟨hc2, hf2⟩ := box_cell ha'
  have HK := Aside0.mk (keyS n (by omega))
  have HK2 := Aside0.mk (keyS m (by omega))
  have HD := Aside0.mk hd
  have HA := Aside0.mk ha
  have HM := Aside0.mk (show d.length < maxLen by simp only [maxLen]; omega)
  have hlk : (Instr.lookup 61 (.map (some b)) (.string (S n)) false).run Try.prog W = .ok (.pointer (some ⟨x, 0, none⟩)) W := by
    obtain ⟨v, ps, hrun, hv⟩ := World.ownsMap.lookup hd keyed Try.underlying61 (zeroPtr W) (zd := .nil) (zp := []) rfl (keyS n (by omega))
    rw [D_at, hx] at hv
    rcases ptrElem_inv hv with ⟨b', rfl, e⟩ | ⟨rfl, e⟩
    · have : x = b' := by simp at e; omega
      subst this
      exact hrun
    · simp at e
  clear ha ha' hd hn hm hx hl
  go_enter Try.func41, Try.ntmps41
  go_wp2_with (first
    | (at_mapUpdate; refine wpList_mapUpdate_in _ rfl _ _ _ 61 rfl 9 66 keyed Try.underlying61 ptrElem b d.length (D d) rfl HD.out HM.out (.string (S m)) (.pointer (some ⟨x, 0, none⟩)) (.string m) rfl rfl HK2.out (.lit (.int .i64 (x : Int))) [] rfl ?_; intro W1 h1 h2; have H1 := Aside0.mk (own_put h1); have H2 := Aside0.mk h2.grown; have hc3 := (box_cell ((H2.out.block a (Array.getElem?_eq_some_iff.1 HA.out).1 (map_ne_box HA.out HD.out)).trans HA.out)).1; clear h1 h2)
    | (at_delete; refine wpList_delete_own _ rfl _ _ 61 9 rfl 66 keyed Try.underlying61 ptrElem b (put d m x).length (D (put d m x)) rfl H1.out (.string (S n)) (.string n) rfl HK.out ?_; intro W2 h1 h2; have H3 := Aside0.mk (own_del h1); have H4 := Aside0.mk h2.grown; clear h1 h2))
  go_end0
  exact ⟨rfl, H3.out, H2.out.trans H4.out⟩
end Go.Proofs.Ytibmgcihpbofdaa.Fs
