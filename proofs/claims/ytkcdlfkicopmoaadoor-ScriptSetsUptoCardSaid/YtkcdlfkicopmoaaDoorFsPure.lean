/- A disk of files as plain data: directories, changes, and what each call does. No program here. -/
import Derived.Test.YtkcdlfkicopmoaaDoorPlain
import Derived.Maps.RangeWalk
namespace Go.Proofs.YtkcdlfkicopmoaaDoor.Fs
open Go.RowKit Go.Proofs.YtkcdlfkicopmoaaDoorW.PrintWords Go.Proofs.YtkcdlfkicopmoaaDoor.Plain
set_option linter.unusedVariables false
set_option linter.unusedSimpArgs false

abbrev Nm := List UInt8
abbrev Dir := List (Nm × Nat)
def before (a b : Nm) : Bool := (Lit.string a).before (Lit.string b)
def ins (p : Nm × Nat) : Dir → Dir
  | [] => [p]
  | q :: r => if before p.1 q.1 then p :: q :: r else q :: ins p r
def del (d : Dir) (n : Nm) : Dir := d.filter fun p => !(p.1 == n)
def put (d : Dir) (n : Nm) (x : Nat) : Dir := ins (n, x) (del d n)
def get (d : Dir) (n : Nm) : Option Nat := (d.find? fun p => p.1 == n).map (·.2)

/-- how an entry reads -/
def ent (p : Nm × Nat) : Lit × DataW Unit := (.string p.1, .lit (.int .i64 (p.2 : Int)))
def D (d : Dir) : DataW Unit := .map (d.map ent)
/-- how a pointer to a block reads: by the block's number -/
def ptrElem : Value → Option (DataW Unit × List MemPlace)
  | .pointer (some ⟨b, 0, none⟩) => some (.lit (.int .i64 (b : Int)), [])
  | .pointer none => some (.nil, [])
  | _ => none
theorem ptrElem_mk (b : Nat) : ptrElem (.pointer (some ⟨b, 0, none⟩)) = some (.lit (.int .i64 (b : Int)), []) := rfl
theorem ptrElem_inv {v : Value} {y : DataW Unit × List MemPlace} (h : ptrElem v = some y) : (∃ b : Nat, v = .pointer (some ⟨b, 0, none⟩) ∧ y = (.lit (.int .i64 (b : Int)), [])) ∨ (v = .pointer none ∧ y = (.nil, [])) := by
  unfold ptrElem at h
  split at h
  · rename_i b
    exact .inl ⟨b, rfl, by simpa using h.symm⟩
  · exact .inr ⟨rfl, by simpa using h.symm⟩
  · cases h

theorem ins_ent (p : Nm × Nat) (d : Dir) : (ins p d).map ent = DataW.insert (ent p) (d.map ent) := by
  induction d with
  | nil => rfl
  | cons q r ih =>
    simp only [ins, List.map_cons, DataW.insert]
    have : (ent p).1.before (ent q).1 = before p.1 q.1 := rfl
    rw [this]
    split
    · rfl
    · rw [List.map_cons, ih]
theorem del_ent (d : Dir) (n : Nm) : (del d n).map ent = (d.map ent).filter fun p => !p.1.sameKey (.string n) := by
  unfold del
  rw [List.filter_map]
  rfl
theorem D_put (d : Dir) (n : Nm) (x : Nat) : (D d).put (.string n) (.lit (.int .i64 (x : Int))) = D (put d n x) := by
  simp only [D, DataW.put, put, ins_ent, del_ent]
  rfl
theorem D_del (d : Dir) (n : Nm) : (D d).del (.string n) = D (del d n) := by
  simp only [D, DataW.del, del_ent]
theorem D_size (d : Dir) : Maps.size (D d) = d.length := by simp [D, Maps.size]
theorem D_has (d : Dir) (n : Nm) : Maps.has (D d) (.string n) = (get d n).isSome := by
  simp only [D, Maps.has, get, List.any_map]
  induction d with
  | nil => rfl
  | cons q r ih =>
    simp only [List.any_cons, List.find?_cons]
    by_cases h : q.1 = n
    · simp [ent, Lit.sameKey, h]
    · simp only [Function.comp_apply, ent, Lit.sameKey, beq_eq_false_iff_ne.2 h, Bool.false_or]
      exact ih
theorem D_at (d : Dir) (n : Nm) (z : DataW Unit) : (D d).atKey (.string n) z = match get d n with | some x => .lit (.int .i64 (x : Int)) | none => z := by
  simp only [D, DataW.atKey, get]
  induction d with
  | nil => rfl
  | cons q r ih =>
    by_cases h : q.1 = n
    · simp [ent, Lit.sameKey, h]
    · simp only [List.map_cons, List.find?_cons, ent, Lit.sameKey, beq_eq_false_iff_ne.2 h]
      exact ih

/-! directories as lists -/
theorem get_nil (n : Nm) : get [] n = none := rfl
theorem get_cons (p : Nm × Nat) (d : Dir) (n : Nm) : get (p :: d) n = if p.1 = n then some p.2 else get d n := by
  unfold get
  simp only [List.find?_cons]
  by_cases h : p.1 = n
  · simp [h]
  · simp only [beq_eq_false_iff_ne.2 h, if_neg h]
theorem get_del_same (d : Dir) (n : Nm) : get (del d n) n = none := by
  induction d with
  | nil => rfl
  | cons p d ih =>
    unfold del at ih ⊢
    by_cases h : p.1 = n
    · simp [h, List.filter_cons, ih]
    · simp [h, List.filter_cons, get_cons, ih]
theorem get_del_other (d : Dir) {n m : Nm} (h : m ≠ n) : get (del d n) m = get d m := by
  induction d with
  | nil => rfl
  | cons p d ih =>
    unfold del at ih ⊢
    by_cases h1 : p.1 = n
    · have h2 : ¬ p.1 = m := fun e => h (e.symm.trans h1)
      simp [h1, List.filter_cons, ih, get_cons]
      intro e
      exact absurd (e ▸ rfl) h
    · simp [h1, List.filter_cons, get_cons, ih]
theorem get_ins (p : Nm × Nat) (d : Dir) (h : get d p.1 = none) (m : Nm) : get (ins p d) m = if p.1 = m then some p.2 else get d m := by
  induction d with
  | nil => simp [ins, get_cons, get_nil]
  | cons q r ih =>
    rw [get_cons] at h
    have hq : ¬ q.1 = p.1 := by
      intro e
      rw [if_pos e] at h
      cases h
    rw [if_neg hq] at h
    simp only [ins]
    split
    · rw [get_cons]
    · rw [get_cons, ih h, get_cons]
      by_cases h1 : q.1 = m
      · have : ¬ p.1 = m := fun e => hq (h1.trans e.symm)
        simp [h1, this]
      · simp [h1]
theorem get_put_same (d : Dir) (n : Nm) (x : Nat) : get (put d n x) n = some x := by
  unfold put
  rw [get_ins _ _ (get_del_same d n)]
  simp
theorem get_put_other (d : Dir) {n m : Nm} (x : Nat) (h : m ≠ n) : get (put d n x) m = get d m := by
  unfold put
  rw [get_ins _ _ (get_del_same d n), if_neg (fun e => h e.symm), get_del_other d h]
theorem mem_ins (p q : Nm × Nat) (d : Dir) : q ∈ ins p d ↔ q = p ∨ q ∈ d := by
  induction d with
  | nil => simp [ins]
  | cons r d ih =>
    simp only [ins]
    split
    · simp
    · simp only [List.mem_cons, ih]
      constructor
      · rintro (h | h | h)
        · exact .inr (.inl h)
        · exact .inl h
        · exact .inr (.inr h)
      · rintro (h | h | h)
        · exact .inr (.inl h)
        · exact .inl h
        · exact .inr (.inr h)
theorem mem_del {q : Nm × Nat} {d : Dir} {n : Nm} : q ∈ del d n ↔ q ∈ d ∧ q.1 ≠ n := by
  simp [del]
theorem mem_put {q : Nm × Nat} {d : Dir} {n : Nm} {x : Nat} : q ∈ put d n x ↔ q = (n, x) ∨ (q ∈ d ∧ q.1 ≠ n) := by
  unfold put
  rw [mem_ins, mem_del]
theorem length_ins (p : Nm × Nat) (d : Dir) : (ins p d).length = d.length + 1 := by
  induction d with
  | nil => rfl
  | cons q r ih => simp only [ins]; split <;> simp [ih]
theorem length_del_le (d : Dir) (n : Nm) : (del d n).length ≤ d.length := List.length_filter_le _ _
theorem length_put_le (d : Dir) (n : Nm) (x : Nat) : (put d n x).length ≤ d.length + 1 := by
  unfold put
  rw [length_ins]
  have := length_del_le d n
  omega
theorem get_mem {d : Dir} {n : Nm} {x : Nat} (h : get d n = some x) : (n, x) ∈ d := by
  induction d with
  | nil => cases h
  | cons p d ih =>
    rw [get_cons] at h
    split at h
    · rename_i e
      injection h with h
      subst e h
      exact List.mem_cons_self
    · exact List.mem_cons_of_mem _ (ih h)

/-! changes -/
inductive Chg where
  | create (n : Nm) (x : Nat)
  | rename (a b : Nm)
  | unlink (n : Nm)
/-- a directory with a change -/
def Chg.app (d : Dir) : Chg → Dir
  | .create n x => put d n x
  | .rename a b => match get d a with | some x => del (put d b x) a | none => d
  | .unlink n => del d n
/-- may the change be done to it? -/
def Chg.ok (d : Dir) : Chg → Prop
  | .create _ _ => True
  | .rename a _ => (get d a).isSome
  | .unlink _ => True
def apps (d : Dir) (l : List Chg) : Dir := l.foldl Chg.app d
def oks (d : Dir) : List Chg → Prop
  | [] => True
  | c :: l => c.ok d ∧ oks (c.app d) l
theorem apps_snoc (d : Dir) (l : List Chg) (c : Chg) : apps d (l ++ [c]) = c.app (apps d l) := by simp [apps]
theorem oks_snoc {d : Dir} {l : List Chg} {c : Chg} : oks d (l ++ [c]) ↔ oks d l ∧ c.ok (apps d l) := by
  induction l generalizing d with
  | nil => simp [oks, apps]
  | cons a l ih => simp [oks, ih, apps, and_assoc]
theorem oks_take {d : Dir} {l : List Chg} (h : oks d l) (k : Nat) : oks d (l.take k) := by
  induction l generalizing d k with
  | nil => simp [oks]
  | cons a l ih =>
    cases k with
    | zero => simp [oks]
    | succ k => exact ⟨h.1, ih h.2 k⟩
theorem length_app_le (d : Dir) (c : Chg) : (c.app d).length ≤ d.length + 1 := by
  cases c with
  | create n x => exact length_put_le d n x
  | rename a b =>
    simp only [Chg.app]
    split
    · exact Nat.le_trans (length_del_le _ _) (length_put_le _ _ _)
    · omega
  | unlink n => exact Nat.le_trans (length_del_le d n) (by omega)
theorem length_apps_le (l : List Chg) : ∀ d : Dir, (apps d l).length ≤ d.length + l.length := by
  induction l with
  | nil => intro d; simp [apps]
  | cons c l ih =>
    intro d
    have := ih (c.app d)
    have h2 := length_app_le d c
    simp only [apps, List.foldl_cons, List.length_cons] at this ⊢
    omega

/-! a disk -/
structure Disk where
  sure : Dir
  loose : List Chg
  bytes : Nat → List UInt8
  firm : Nat → Nat
  room : Int
  fuse : Int
  down : Bool
def Disk.now (d : Disk) : Dir := apps d.sure d.loose
/-- is the block a file of the disk? -/
def Disk.has (d : Disk) (x : Nat) : Prop := (∃ n, (n, x) ∈ d.sure) ∨ ∃ n, Chg.create n x ∈ d.loose
/-- is it a name? -/
def rightB (n : Nm) : Bool := n.all (fun c => decide (33 ≤ c.toNat ∧ c.toNat ≤ 126 ∧ c.toNat ≠ 47)) && decide (1 ≤ n.length ∧ n.length ≤ 80)
def setAt {α : Type} (f : Nat → α) (x : Nat) (v : α) : Nat → α := fun y => if y = x then v else f y
theorem setAt_same {α : Type} (f : Nat → α) (x : Nat) (v : α) : setAt f x v x = v := by simp [setAt]
theorem setAt_other {α : Type} (f : Nat → α) {x y : Nat} (v : α) (h : y ≠ x) : setAt f x v y = f y := by simp [setAt, h]
/-- what all calls ask first -/
def Disk.ready (d : Disk) (ns : List Nm) : Int := if ns.any (fun n => !rightB n) then 1 else if d.down then 2 else 0
/-- is one more write done? -/
def Disk.power (d : Disk) : Int × Disk := if d.fuse = 0 then (2, { d with down := true }) else if d.fuse > 0 then (0, { d with fuse := d.fuse - 1 }) else (0, d)
def Disk.change (d : Disk) (c : Chg) : Int × Disk := if d.power.1 = 0 then (0, { d.power.2 with loose := d.loose ++ [c] }) else d.power
def used (b : Nat → List UInt8) (l : Dir) : Nat := (l.map fun p => (b p.2).length).sum
/-- x: the new file's block -/
def Disk.create (d : Disk) (x : Nat) (n : Nm) : Int × Disk :=
  if d.ready [n] ≠ 0 then (d.ready [n], d) else if (get d.now n).isSome then (5, d) else if d.now.length ≥ 256 then (3, d) else Disk.change { d with bytes := setAt d.bytes x [], firm := setAt d.firm x 0 } (.create n x)
def Disk.append (d : Disk) (n : Nm) (b : List UInt8) : Int × Disk :=
  if d.ready [n] ≠ 0 then (d.ready [n], d) else match get d.now n with
    | none => (4, d)
    | some x => if (b.length : Int) > d.room - (used d.bytes d.now : Int) then (3, d) else if d.power.1 = 0 then (0, { d.power.2 with bytes := setAt d.bytes x (d.bytes x ++ b) }) else d.power
def Disk.sync (d : Disk) (n : Nm) : Int × Disk :=
  if d.ready [n] ≠ 0 then (d.ready [n], d) else match get d.now n with
    | none => (4, d)
    | some x => if d.power.1 = 0 then (0, { d.power.2 with firm := setAt d.firm x (d.bytes x).length }) else d.power
def Disk.rename (d : Disk) (a b : Nm) : Int × Disk :=
  if d.ready [a, b] ≠ 0 then (d.ready [a, b], d) else match get d.now a with
    | none => (4, d)
    | some _ => if a = b then d.power else d.change (.rename a b)
def Disk.unlink (d : Disk) (n : Nm) : Int × Disk :=
  if d.ready [n] ≠ 0 then (d.ready [n], d) else match get d.now n with
    | none => (4, d)
    | some _ => d.change (.unlink n)
def Disk.dirSync (d : Disk) : Int × Disk :=
  if d.ready [] ≠ 0 then (d.ready [], d) else if d.power.1 = 0 then (0, { d.power.2 with sure := d.now, loose := [] }) else d.power
def Disk.read (d : Disk) (n : Nm) : List UInt8 × Int :=
  if d.ready [n] ≠ 0 then ([], d.ready [n]) else match get d.now n with
    | none => ([], 4)
    | some x => (d.bytes x, 0)
/-- how many bytes of a file are kept -/
def Disk.kept (d : Disk) (more : Int) (x : Nat) : Nat := d.firm x + min (max more 0).toNat ((d.bytes x).length - d.firm x)
def Disk.crash (d : Disk) (dirs more : Int) : Disk :=
  let s := apps d.sure (d.loose.take (min (max dirs 0) (d.loose.length : Int)).toNat)
  { sure := s, loose := [], bytes := fun x => if s.any (fun p => p.2 == x) then (d.bytes x).take (d.kept more x) else d.bytes x, firm := fun x => if s.any (fun p => p.2 == x) then d.kept more x else d.firm x, room := d.room, fuse := -1, down := false }
end Go.Proofs.YtkcdlfkicopmoaaDoor.Fs
