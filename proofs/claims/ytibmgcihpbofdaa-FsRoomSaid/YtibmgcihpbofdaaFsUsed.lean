/- fs: Used: the bytes of all files. -/
import Derived.Test.YtibmgcihpbofdaaFsRename
import Derived.Sort.KeysCollected
namespace Go.Proofs.Ytibmgcihpbofdaa.Fs
open Go.RowKit Go.Proofs.Ytibmgcihpbofdaa Go.Proofs.Ytibmgcihpbofdaa.Plain Go.Proofs.YtibmgcihpbofdaaW.PrintWords Go.Maps
set_option linter.unusedVariables false
set_option linter.unusedSimpArgs false
abbrev mkK (x : Nm) : Value := .string (S x)
abbrev mkV (o : Option Nat) : Value := .pointer (o.map fun b => ⟨b, 0, none⟩)
theorem invK (key : Value) (kl : Lit) (h : keyOf Try.prog 9 key = some kl) : ∃ x, key = mkK x := by
  obtain ⟨x, hx, _⟩ := Maps.keyOf_str Try.underlying9 h
  exact ⟨x, hx⟩
theorem invV (v : Value) (y : DataW Unit × List MemPlace) (h : ptrElem v = some y) : ∃ c, v = mkV c := by
  rcases ptrElem_inv h with ⟨b, rfl, _⟩ | ⟨rfl, _⟩
  · exact ⟨some b, rfl⟩
  · exact ⟨none, rfl⟩
theorem keyIs {x : Nm} {kl : Lit} (h : keyOf Try.prog 9 (mkK x) = some kl) : kl = .string x := by
  obtain ⟨x', hx, rfl, _⟩ := Maps.keyOf_str Try.underlying9 h
  have : S x = S x' := by simpa [Go.Proofs.encStr, S] using hx
  rw [S_inj this]
/-- the bytes of the entries that are still to come -/
def rest (by_ : Nat → List UInt8) (left : Lit → Bool) (d : Dir) : Nat := used by_ (d.filter fun p => left (.string p.1))
theorem used_nil (b : Nat → List UInt8) : used b [] = 0 := rfl
theorem used_cons (b : Nat → List UInt8) (p : Nm × Nat) (d : Dir) : used b (p :: d) = (b p.2).length + used b d := rfl
theorem at_get {d : Dir} {x : Nm} {c : Option Nat} {y : DataW Unit × List MemPlace} (h : ∀ zd, (D d).atKey (.string x) zd = y.1) (hv : ptrElem (mkV c) = some y) : ∃ b, c = some b ∧ get d x = some b := by
  have h1 := h .nil
  have h2 := h (.lit (.bool true))
  rw [D_at] at h1 h2
  cases hg : get d x with
  | none =>
    rw [hg] at h1 h2
    simp only at h1 h2
    rw [← h1] at h2
    cases h2
  | some b =>
    rw [hg] at h1
    cases c with
    | none =>
      have : y = (.nil, []) := by simpa [mkV, ptrElem] using hv.symm
      rw [this] at h1
      simp at h1
    | some b' =>
      have : y = (.lit (.int .i64 (b' : Int)), []) := by simpa [mkV, ptrElem] using hv.symm
      rw [this] at h1
      have : b = b' := by simp at h1; omega
      exact ⟨b, by rw [this], rfl⟩
def Keys (d : Dir) : Prop := d.Pairwise (fun p q => p.1 ≠ q.1)
theorem keys_of {W : World} {b n : Nat} {d : Dir} (h : W.ownsMap Try.prog 9 ptrElem b n (D d)) : Keys d := by
  obtain ⟨es, e, hp⟩ := h.tidy keyed
  have : es = d.map ent := by simpa [D] using e.symm
  subst this
  exact (List.pairwise_map.1 hp).imp (fun h e => h (by simp [ent, e]))
theorem keys_nodup {d : Dir} (h : Keys d) {p q : Nm × Nat} (hp : p ∈ d) (hq : q ∈ d) (e : p.1 = q.1) : p = q := by
  induction d with
  | nil => cases hp
  | cons a d ih =>
    obtain ⟨h1, h2⟩ := List.pairwise_cons.1 h
    rcases List.mem_cons.1 hp with e1 | hp'
    · rcases List.mem_cons.1 hq with e2 | hq'
      · rw [e1, e2]
      · exact absurd (e1 ▸ e) (h1 q hq')
    · rcases List.mem_cons.1 hq with e2 | hq'
      · exact absurd (e2 ▸ e.symm) (h1 p hp')
      · exact ih h2 hp' hq'
theorem mem_get {d : Dir} (h : Keys d) {n : Nm} {x : Nat} (hm : (n, x) ∈ d) : get d n = some x := by
  induction d with
  | nil => cases hm
  | cons a d ih =>
    obtain ⟨h1, h2⟩ := List.pairwise_cons.1 h
    rw [get_cons]
    rcases List.mem_cons.1 hm with rfl | hm
    · simp
    · rw [if_neg (fun e => h1 _ hm e)]
      exact ih h2 hm
theorem rest_cons (by_ : Nat → List UInt8) (left : Lit → Bool) (a : Nm × Nat) (d : Dir) : rest by_ left (a :: d) = if left (.string a.1) = true then (by_ a.2).length + rest by_ left d else rest by_ left d := by
  unfold rest
  rw [List.filter_cons]
  split <;> rfl
theorem rest_congr {by_ : Nat → List UInt8} {left left' : Lit → Bool} {d : Dir} (h : ∀ p ∈ d, left (.string p.1) = left' (.string p.1)) : rest by_ left d = rest by_ left' d := by
  unfold rest
  congr 1
  exact List.filter_congr h
theorem rest_step {by_ : Nat → List UInt8} {left : Lit → Bool} {d : Dir} (h : Keys d) {n : Nm} {x : Nat} (hg : get d n = some x) (hl : left (.string n) = true) : rest by_ left d = (by_ x).length + rest by_ (fun z => left z && !z.sameKey (.string n)) d := by
  induction d with
  | nil => cases hg
  | cons a d ih =>
    obtain ⟨h1, h2⟩ := List.pairwise_cons.1 h
    rw [get_cons] at hg
    rw [rest_cons, rest_cons]
    by_cases e : a.1 = n
    · rw [if_pos e] at hg
      cases hg
      rw [e, if_pos hl, if_neg (by simp [Lit.sameKey])]
      congr 1
      refine rest_congr (fun p hp => ?_)
      have : p.1 ≠ n := fun e' => h1 p hp (e.trans e'.symm)
      simp [Lit.sameKey, this]
    · rw [if_neg e] at hg
      have := ih h2 hg
      have e3 : (left (.string a.1) && !(Lit.string a.1).sameKey (.string n)) = left (.string a.1) := by simp [Lit.sameKey, e]
      simp only [e3]
      split
      · omega
      · exact this
theorem rest_none {by_ : Nat → List UInt8} {left : Lit → Bool} (h : ∀ kl, left kl = false) (d : Dir) : rest by_ left d = 0 := by
  unfold rest
  have : (d.filter fun p => left (.string p.1)) = [] := by simp [h]
  rw [this]
  rfl
theorem rest_all (by_ : Nat → List UInt8) (d : Dir) : rest by_ (Maps.has (D d)) d = used by_ d := by
  unfold rest
  congr 1
  rw [List.filter_eq_self]
  intro p hp
  simp only [D, Maps.has, List.any_map, List.any_eq_true]
  exact ⟨p, hp, by simp [ent, Lit.sameKey]⟩
theorem used_le {by_ : Nat → List UInt8} {d : Dir} {N : Nat} (h : ∀ p ∈ d, (by_ p.2).length ≤ N) : used by_ d ≤ d.length * N := by
  induction d with
  | nil => simp [used]
  | cons a d ih =>
    have h1 := ih (fun p hp => h p (List.mem_cons_of_mem _ hp))
    have h2 := h a List.mem_cons_self
    rw [used_cons, List.length_cons, Nat.add_mul]
    omega
theorem has_of_apps (l : List Chg) : ∀ (s : Dir) (p : Nm × Nat), p ∈ apps s l → (∃ n, (n, p.2) ∈ s) ∨ ∃ n, Chg.create n p.2 ∈ l := by
  induction l with
  | nil => intro s p hp; exact .inl ⟨p.1, hp⟩
  | cons c l ih =>
    intro s p hp
    rcases ih (c.app s) p hp with ⟨n, h⟩ | ⟨n, h⟩
    · cases c with
      | create m x =>
        rcases mem_put.1 h with e | ⟨h, _⟩
        · cases e
          exact .inr ⟨_, List.mem_cons_self⟩
        · exact .inl ⟨n, h⟩
      | rename a b =>
        simp only [Chg.app] at h
        cases hg : get s a with
        | none => rw [hg] at h; exact .inl ⟨n, h⟩
        | some x =>
          rw [hg] at h
          rcases mem_put.1 (mem_del.1 h).1 with e | ⟨h, _⟩
          · cases e
            exact .inl ⟨_, get_mem hg⟩
          · exact .inl ⟨n, h⟩
      | unlink m => exact .inl ⟨n, (mem_del.1 h).1⟩
    · exact .inr ⟨n, List.mem_cons_of_mem _ h⟩
theorem has_now {d : Disk} {p : Nm × Nat} (h : p ∈ d.now) : d.has p.2 := has_of_apps d.loose d.sure p h
theorem has_get {d : Disk} {n : Nm} {x : Nat} (h : get d.now n = some x) : d.has x := has_now (get_mem h)
set_option maxHeartbeats 1000000 in
set_option maxRecDepth 100000 in
theorem usedNil (W : World) : Calls Try.prog 25 #[.pointer none] W fun e W' => e = .returned (.int .i64 0) ∧ W' = W := by
  go_enter Try.func25, Try.ntmps25
  go_wp2
  go_ret
  exact ⟨rfl, rfl⟩
set_option maxHeartbeats 1000000 in
set_option maxRecDepth 100000 in
theorem usedIs {w0 W : World} {f : Nat} {d : Disk} {N : Nat} {T : Nat → Prop} (h : FsAt w0 f d N T W) (hN : N ≤ 1000000) :
    Calls Try.prog 25 #[.pointer (some ⟨f, 0, none⟩)] W fun e W' => e = .returned (.int .i64 (used d.bytes d.now : Int)) ∧ Below W.heap.size W W' := by
  obtain ⟨bn, bs, vl, fs, vb, c0⟩ := h
  have hc1 := c0.cells.1
  have HC := Aside0.mk c0
  have HK := Aside0.mk (keys_of c0.now)
  have hbd : used d.bytes d.now ≤ 2000000000000 := by
    have h1 := used_le (by_ := d.bytes) (d := d.now) (N := N) (fun p hp => c0.small.2 _ (has_now hp))
    have h2 := length_apps_le d.loose d.sure
    have h3 := c0.small.1
    have h4 : d.now.length ≤ 1000000 := by unfold Disk.now; omega
    have h5 : d.now.length * N ≤ 1000000 * 1000000 := Nat.mul_le_mul h4 hN
    omega
  obtain ⟨U, hU⟩ : ∃ U, used d.bytes d.now = U := ⟨_, rfl⟩
  have HU := Aside0.mk hU
  rw [hU] at hbd ⊢
  clear c0 hU
  go_enter Try.func25, Try.ntmps25
  go_wp2_with (at_range; refine wpList_range_own _ rfl _ 61 rfl 9 66 keyed Try.underlying61 ptrElem bn d.now.length (D d.now) rfl HC.out.now ?_; intro W1 hr1 hg1 hs1; have HR := Aside0.mk hr1; have HG := Aside0.mk hg1; clear hr1 hg1 hs1)
  go_frame
  have hbelow : Below W.heap.size W W1 := ⟨HG.out.os, HG.out.tape, HG.out.output, HG.out.size, fun k hk => HG.out.block k hk (by simp)⟩
  have HB := Aside0.mk hbelow
  clear hbelow
  go_loopw [3, 5] (fun v3 v5 wr => ∃ (left : Lit → Bool) (cnt s : Nat), v3 = .int .i64 s ∧ s ≤ U ∧ Aside0 (wr.ranges Try.prog 9 ptrElem bn W.heap.size d.now.length (D d.now) left cnt) ∧ Aside0 (s + rest d.bytes left d.now = U) ∧ Aside0 (Below W.heap.size W wr)) (fun _ _ wr => wr.rangeLeft bn W.heap.size)
  case atStart => exact ⟨_, _, 0, rfl, by omega, HR, ⟨by rw [rest_all]; have := HU.out; omega⟩, HB⟩
  case round =>
    obtain ⟨left, cnt, s, rfl, hs, HRg, HS, HBr⟩ := hrel
    clear HR HB HG
    go_wp2_with (at_next; refine wpList_next_ranges _ rfl _ rfl 9 keyed ptrElem mkK mkV invK invV bn W.heap.size d.now.length _ _ _ rfl HRg.out ?_ ?_)
    · intro _ hl0
      have HL0 := Aside0.mk hl0
      clear hl0
      go_wp2
      go_ret
      have e := HS.out
      rw [rest_none HL0.out] at e
      exact ⟨by rw [← e]; simp, HBr.out⟩
    · intro x c kl yd yp w1 cnt1 hkey hlx hv hat hrg1 hlt hg1 hs1 hen
      obtain rfl := keyIs hkey
      obtain ⟨b, rfl, hgb⟩ := at_get (y := (yd, yp)) hat hv
      have hB1 : Below W.heap.size W w1 := HBr.out.grown hg1 HBr.out.size (fun j hj => by cases hj; exact Nat.le_refl _)
      have hfile := HC.out.file b (has_get hgb)
      have hT := (HC.out.mine b (HC.out.inX b (has_get hgb)).1).2
      obtain ⟨A1, k1, hv1⟩ := own_slice hfile.2.1
      have hc1 : w1.cell? ⟨b, 0, none⟩ = some (vb b) := by
        have : W.cell? ⟨b, 0, none⟩ = some (vb b) := by simp [World.cell?, hfile.1]
        exact (hB1.cell (p := ⟨b, 0, none⟩) hT).trans this
      rw [hv1, B_length] at hc1
      have hst := rest_step (by_ := d.bytes) HK.out hgb hlx
      have hS2 := HS.out
      have hle : s + (d.bytes b).length ≤ U := by omega
      have HS2 := Aside0.mk (show s + (d.bytes b).length + rest d.bytes (fun z => left z && !z.sameKey (.string x)) d.now = U by omega)
      have HR1 := Aside0.mk hrg1
      have HLT := Aside0.mk hlt
      have HB1 := Aside0.mk hB1
      obtain ⟨l1, hl1⟩ : ∃ l1, (d.bytes b).length = l1 := ⟨_, rfl⟩
      rw [hl1] at hc1 hle HS2
      clear hS2 hst hv1 hfile hT hB1 hlt hrg1 hg1 hs1 hat hv hl1
      simp only [mkK, mkV, Option.map_some] at hen ⊢
      go_wp2
      go_roundw
      case rel => exact ⟨_, cnt1, s + l1, by go_num, hle, HR1, HS2, HB1⟩
      case measure => rw [HR1.out.left_eq, HRg.out.left_eq]; exact HLT.out
end Go.Proofs.Ytibmgcihpbofdaa.Fs
