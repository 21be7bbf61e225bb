/- box: Deliver. Boxes on a disk: plain law. law15: answers. -/
import Derived.Test.YtilgfpljjjbgdaaGreatDoorBoxB2
namespace Go.Proofs.YtilgfpljjjbgdaaGreatDoor.Fs
open Go.RowKit Go.Proofs.YtilgfpljjjbgdaaGreatDoor Go.Proofs.YtilgfpljjjbgdaaGreatDoor.Plain Go.Proofs.YtilgfpljjjbgdaaGreatDoorW.PrintWords Go.Maps
set_option linter.unusedVariables false
set_option linter.unusedSimpArgs false
def usedL (d : Disk) (u : Nm) : Nat := sumL (fun k => (readB d u (k : Int)).1) (mailsL d u)
/-- names that are no longer than names are -/
def Short (d : Disk) : Prop := ∀ s ∈ names d.now, s.length ≤ 1000000
theorem read_len {w0 W : World} {f : Nat} {d : Disk} {N : Nat} {T : Nat → Prop} (h : FsAt w0 f d N T W) (s : Nm) : (d.read s).1.length ≤ N := by
  obtain ⟨bn, bs, vl, fs, vb, c⟩ := h
  unfold Disk.read
  split
  · exact Nat.zero_le _
  · split
    · exact Nat.zero_le _
    · rename_i x hx
      exact c.small.2 x (has_now (get_mem hx))
theorem readB_len {w0 W : World} {f : Nat} {d : Disk} {N : Nat} {T : Nat → Prop} (h : FsAt w0 f d N T W) (u : Nm) (n : Int) : (readB d u n).1.length ≤ N := by
  unfold readB
  split
  · exact read_len h _
  · exact Nat.zero_le _
theorem now_len {w0 W : World} {f : Nat} {d : Disk} {N : Nat} {T : Nat → Prop} (h : FsAt w0 f d N T W) : d.now.length ≤ N := by
  obtain ⟨bn, bs, vl, fs, vb, c⟩ := h
  have h2 := length_apps_le d.loose d.sure
  have h3 := c.small.1
  unfold Disk.now
  omega
theorem boxMailsIs {w0 W : World} {f : Nat} {d : Disk} {N : Nat} {T : Nat → Prop} (h : FsAt w0 f d N T W) (hN : N ≤ 1000000) (hd : d.down = false) (hS : Short d) (u : Nm) (hu : u.length ≤ 500000) (hG : GI W) :
    Calls Tryz.prog 14 #[.pointer (some ⟨f, 0, none⟩), .string (S u)] W fun e W' => ∃ v, e = .returned v ∧ IRow W v (mailsL d u) W' := by
  refine mailsIs (some ⟨f, 0, none⟩) (names d.now) W (fun X hX => ?_) (by rw [names_length]; have := now_len h; omega) hS u hu hG
  refine (list (h.step hX) hN hd).mono ?_
  rintro e W' ⟨v, rfl, ho, hb⟩
  obtain ⟨A, c, rfl⟩ := own_slice ho
  obtain ⟨h1, h2⟩ := names_at ho (fun x hx => Nat.le_trans (hS x hx) (by omega))
  exact ⟨A, c, by rw [names_length], h1, hb⟩
theorem boxUsedIs {w0 W : World} {f : Nat} {d : Disk} {N : Nat} {T : Nat → Prop} (h : FsAt w0 f d N T W) (hN : N ≤ 1000000) (hd : d.down = false) (hS : Short d) (u : Nm) (hu : u.length ≤ 500000) (hG : GI W) :
    Calls Tryz.prog 11 #[.pointer (some ⟨f, 0, none⟩), .string (S u)] W fun e W' => e = .returned (.int .i64 (usedL d u : Int)) ∧ Below W.heap.size W W' := by
  refine usedLoop (some ⟨f, 0, none⟩) u (mailsL d u) (fun k => (readB d u (k : Int)).1) W (boxMailsIs h hN hd hS u hu hG) (fun k hk X hX => ?_) (fun k hk => Nat.le_trans (readB_len h u k) hN) ?_
  · refine (boxReadIs (h.step hX) hN u hu (k : Int) (hG.below hX)).mono ?_
    rintro e W' ⟨v, rfl, ho⟩
    exact ⟨v, _, rfl, ho⟩
  · have h1 := fm_len (idOf u) (names d.now)
    rw [names_length] at h1
    have h2 := now_len h
    show ((names d.now).filterMap (idOf u)).length ≤ _
    omega
theorem usedL_le {w0 W : World} {f : Nat} {d : Disk} {N : Nat} {T : Nat → Prop} (h : FsAt w0 f d N T W) (hN : N ≤ 1000000) (u : Nm) : usedL d u ≤ 1000000000000 := by
  have h1 := sumL_le (fun k => (readB d u (k : Int)).1) (mailsL d u) (fun k hk => Nat.le_trans (readB_len h u k) hN)
  have h2 : (mailsL d u).length ≤ 1000000 := by
    have h1 := fm_len (idOf u) (names d.now)
    rw [names_length] at h1
    have h2 := now_len h
    show ((names d.now).filterMap (idOf u)).length ≤ _
    omega
  have h3 : 1000000 * (mailsL d u).length ≤ 1000000 * 1000000 := Nat.mul_le_mul_left _ h2
  unfold usedL
  omega
set_option maxHeartbeats 1000000 in
set_option maxRecDepth 100000 in
theorem deliverNil (u : Nm) (n : Int) (A : Option Addr) (m c : Nat) (q : Int) (W : World) : Calls Tryz.prog 10 #[.pointer none, .string (S u), .int .i64 n, .slice A m c, .int .i64 q] W fun e W' => e = .returned (.tuple #[.bool false, .int .i64 1]) ∧ W' = W := by
  go_enter Tryz.func10, Tryz.ntmps10
  go_wp2
  go_ret2
  exact ⟨rfl, rfl⟩
set_option maxHeartbeats 1000000 in
set_option maxRecDepth 100000 in
theorem deliverBad (f : Nat) (u : Nm) (hu : u.length ≤ 500000) (n : Int) (h : goodB u n = false) (A : Option Addr) (m c : Nat) (q : Int) (W : World) (hG : GI W) : Calls Tryz.prog 10 #[.pointer (some ⟨f, 0, none⟩), .string (S u), .int .i64 n, .slice A m c, .int .i64 q] W fun e W' => e = .returned (.tuple #[.bool false, .int .i64 1]) ∧ Below W.heap.size W W' := by
  have X := rightIs u hu W hG
  have HG := Aside0.mk (show goodB u n = (boxB u && idOk n) from rfl)
  obtain ⟨o, ho⟩ : ∃ o, boxB u = o := ⟨_, rfl⟩
  rw [ho] at X HG
  clear ho hG
  cases o with
  | false =>
    clear h HG
    go_enter Tryz.func10, Tryz.ntmps10
    go_wp2_with (go_at_call 19; refine X.mono ?_; rintro e W1 ⟨rfl, hb⟩; have HB1 := Aside0.mk hb; clear hb X)
    go_ret2
    exact ⟨rfl, HB1.out⟩
  | true =>
    have hn : ¬ (1 ≤ n ∧ n ≤ 999999999) := by
      have := HG.out
      rw [h, Bool.true_and] at this
      unfold idOk at this
      simpa using this.symm
    clear h HG
    by_cases h1 : n < 1
    · clear hn
      go_enter Tryz.func10, Tryz.ntmps10
      go_wp2_with (go_at_call 19; refine X.mono ?_; rintro e W1 ⟨rfl, hb⟩; have HB1 := Aside0.mk hb; clear hb X)
      go_ret2
      exact ⟨rfl, HB1.out⟩
    · have h2 : 999999999 < n := by omega
      clear hn
      go_enter Tryz.func10, Tryz.ntmps10
      go_wp2_with (go_at_call 19; refine X.mono ?_; rintro e W1 ⟨rfl, hb⟩; have HB1 := Aside0.mk hb; clear hb X)
      go_ret2
      exact ⟨rfl, HB1.out⟩
set_option maxHeartbeats 1000000 in
set_option maxRecDepth 100000 in
/-- a mail that is there -/
theorem deliverThere {w0 W : World} {f : Nat} {d : Disk} {N : Nat} {T : Nat → Prop} (h : FsAt w0 f d N T W) (hN : N ≤ 1000000) (hG : GI w0) (hd : d.down = false) (he : d.dirSync.1 = 0) (u : Nm) (hu : u.length ≤ 500000) (n : Int) (hg : goodB u n = true) (hr : (readB d u n).2 = true) (A : Option Addr) (m c : Nat) (q : Int) :
    Calls Tryz.prog 10 #[.pointer (some ⟨f, 0, none⟩), .string (S u), .int .i64 n, .slice A m c, .int .i64 q] W fun e W' => e = .returned (.tuple #[.bool true, .int .i64 0]) ∧ Wrote w0 f d.dirSync.2 N T W W' := by
  have hGW : GI W := hG.below h.below'
  have X := rightIs u hu W hGW
  obtain ⟨hbx, k, rfl, h1, h2⟩ := good_parts hg
  rw [hbx] at X
  have HXD := Aside0.mk (fun (X : World) (hX : Below W.heap.size W X) => down (h.step hX))
  rw [hd] at HXD
  have HXR := Aside0.mk (fun (X : World) (hX : Below W.heap.size W X) => boxReadIs (h.step hX) hN u hu (k : Int) (hGW.below hX))
  rw [hr] at HXR
  have HXS := Aside0.mk (fun (X : World) (hX : Below W.heap.size W X) => dirSync (h.step hX))
  rw [he] at HXS
  clear h hG hGW hd he hr hg hbx
  go_enter Tryz.func10, Tryz.ntmps10
  go_wp2_with (first
    | (go_at_call 19; refine X.mono ?_; rintro e W1 ⟨rfl, hb⟩; have HB1 := Aside0.mk hb; clear hb X)
    | (go_at_call 22; refine (HXD.out _ HB1.out).mono ?_; rintro e W2 ⟨rfl, rfl⟩)
    | (go_at_call 9; refine (HXR.out _ HB1.out).mono ?_; rintro e W3 ⟨v, rfl, ho⟩; have HB3 := Aside0.mk (chain' HB1.out ho.2); clear ho)
    | (go_at_call 23; refine (HXS.out _ HB3.out).mono ?_; rintro e W4 ⟨rfl, hw⟩; have HW := Aside0.mk hw; clear hw))
  go_ret2
  exact ⟨rfl, Wrote.after HB3.out HW.out⟩
set_option maxHeartbeats 1000000 in
set_option maxRecDepth 100000 in
/-- a mail that is not there, and too long for the quota -/
theorem deliverFull {w0 W : World} {f : Nat} {d : Disk} {N : Nat} {T : Nat → Prop} (h : FsAt w0 f d N T W) (hN : N ≤ 1000000) (hG : GI w0) (hd : d.down = false) (hS : Short d) (u : Nm) (hu : u.length ≤ 500000) (n : Int) (hg : goodB u n = true) (hr : (readB d u n).2 = false) (A : Option Addr) (m c : Nat) (hmm : m ≤ 1000000) (q : Int) (hq : -9223372036854775808 ≤ q ∧ q ≤ 9223372036854775807) (hf : (m : Int) > max q 0 - (usedL d u : Int)) :
    Calls Tryz.prog 10 #[.pointer (some ⟨f, 0, none⟩), .string (S u), .int .i64 n, .slice A m c, .int .i64 q] W fun e W' => e = .returned (.tuple #[.bool false, .int .i64 0]) ∧ Below W.heap.size W W' := by
  have hGW : GI W := hG.below h.below'
  have X := rightIs u hu W hGW
  obtain ⟨hbx, k, rfl, h1, h2⟩ := good_parts hg
  rw [hbx] at X
  have HXD := Aside0.mk (fun (X : World) (hX : Below W.heap.size W X) => down (h.step hX))
  rw [hd] at HXD
  have HXR := Aside0.mk (fun (X : World) (hX : Below W.heap.size W X) => boxReadIs (h.step hX) hN u hu (k : Int) (hGW.below hX))
  rw [hr] at HXR
  have HXU := Aside0.mk (fun (X : World) (hX : Below W.heap.size W X) => boxUsedIs (h.step hX) hN hd hS u hu (hGW.below hX))
  have hul := usedL_le h hN u
  obtain ⟨U, hU⟩ : ∃ U, usedL d u = U := ⟨_, rfl⟩
  rw [hU] at HXU hul hf
  obtain ⟨Q, hQ⟩ : ∃ Q, max q 0 = Q := ⟨_, rfl⟩
  have hQ0 : 0 ≤ Q ∧ Q ≤ 9223372036854775807 := by rw [← hQ]; omega
  rw [hQ] at hf
  have hmax : max q 0 = Q := hQ
  clear h hG hGW hd hr hg hbx hU hq
  go_enter Tryz.func10, Tryz.ntmps10
  go_wp2_with (first
    | (go_at_call 19; refine X.mono ?_; rintro e W1 ⟨rfl, hb⟩; have HB1 := Aside0.mk hb; clear hb X)
    | (go_at_call 22; refine (HXD.out _ HB1.out).mono ?_; rintro e W2 ⟨rfl, rfl⟩)
    | (go_at_call 9; refine (HXR.out _ HB1.out).mono ?_; rintro e W3 ⟨v, rfl, ho⟩; have HB3 := Aside0.mk (chain' HB1.out ho.2); clear ho)
    | (go_at_call 11; refine (HXU.out _ HB3.out).mono ?_; rintro e W4 ⟨rfl, hb⟩; have HB4 := Aside0.mk (chain' HB3.out hb); clear hb))
  go_ret2
  exact ⟨rfl, HB4.out⟩
set_option maxHeartbeats 1000000 in
set_option maxRecDepth 100000 in
/-- a mail that is laid -/
theorem deliverNew {w0 W : World} {f : Nat} {d : Disk} {N : Nat} {T : Nat → Prop} (h : FsAt w0 f d N T W) (hN : N ≤ 1000000) (hG : GI w0) (hd : d.down = false) (hS : Short d) (u : Nm) (hu : u.length ≤ 500000) (n : Int) (hg : goodB u n = true) (hr : (readB d u n).2 = false) (b : List UInt8) (hNb : N + 2 * b.length + 10 ≤ 1000000) (A : Option Addr) (m c : Nat) (hm : m = b.length) (hrd : ReadsInt W .u8 A (B b).length (B b)) (hA : ∀ a, A = some a → ¬ T a.block ∨ (B b).length = 0) (hok : ∀ k : Nat, n = k → LayOk d (fileN u 45 k) (fileN u 43 k) b) (q : Int) (hq : -9223372036854775808 ≤ q ∧ q ≤ 9223372036854775807) (hf : ¬ (b.length : Int) > max q 0 - (usedL d u : Int)) :
    Calls Tryz.prog 10 #[.pointer (some ⟨f, 0, none⟩), .string (S u), .int .i64 n, .slice A m c, .int .i64 q] W fun e W' => e = .returned (.tuple #[.bool true, .int .i64 0]) ∧ ∃ x, ¬ d.has x ∧ Wrote w0 f (stage d x (fileN u 45 n.toNat) (fileN u 43 n.toNat) b 5) (N + b.length + 6) T W W' := by
  have hmm : m ≤ 1000000 := by omega
  have hGW : GI W := hG.below h.below'
  have X := rightIs u hu W hGW
  obtain ⟨hbx, k, rfl, h1, h2⟩ := good_parts hg
  rw [hbx] at X
  have HXD := Aside0.mk (fun (X : World) (hX : Below W.heap.size W X) => down (h.step hX))
  rw [hd] at HXD
  have HXR := Aside0.mk (fun (X : World) (hX : Below W.heap.size W X) => boxReadIs (h.step hX) hN u hu (k : Int) (hGW.below hX))
  rw [hr] at HXR
  have HXU := Aside0.mk (fun (X : World) (hX : Below W.heap.size W X) => boxUsedIs (h.step hX) hN hd hS u hu (hGW.below hX))
  have HXL := Aside0.mk (fun (X : World) (hX : Below W.heap.size W X) => layIs (h.step hX) hG u hu k h2 b hNb A m c hm (hrd.below hX) hA (hok k rfl))
  have hul := usedL_le h hN u
  rw [← hm] at hf
  rw [Int.toNat_natCast]
  obtain ⟨U, hU⟩ : ∃ U, usedL d u = U := ⟨_, rfl⟩
  rw [hU] at HXU hul hf
  obtain ⟨Q, hQ⟩ : ∃ Q, max q 0 = Q := ⟨_, rfl⟩
  have hQ0 : 0 ≤ Q ∧ Q ≤ 9223372036854775807 := by rw [← hQ]; omega
  rw [hQ] at hf
  have hmax : max q 0 = Q := hQ
  obtain ⟨P, hP⟩ : ∃ P : World → World → Prop, (fun X W' => ∃ x, ¬ d.has x ∧ Wrote w0 f (stage d x (fileN u 45 k) (fileN u 43 k) b 5) (N + b.length + 6) T X W') = P := ⟨_, rfl⟩
  have HXL2 := Aside0.mk (show ∀ X : World, Below W.heap.size W X → Calls Tryz.prog 24 #[.pointer (some ⟨f, 0, none⟩), .string (S u), .int .i64 (k : Int), .slice A m c] X (fun e W' => e = .returned (.int .i64 0) ∧ P X W') from fun X hX => by rw [← hP]; exact HXL.out X hX)
  have HP := Aside0.mk (show ∀ X W' : World, Below W.heap.size W X → P X W' → ∃ x, ¬ d.has x ∧ Wrote w0 f (stage d x (fileN u 45 k) (fileN u 43 k) b 5) (N + b.length + 6) T W W' from fun X W' hX hh => by rw [← hP] at hh; obtain ⟨x, hx, hw⟩ := hh; exact ⟨x, hx, hw.after hX⟩)
  clear h hG hGW hd hr hg hbx hU hq hP HXL hm hrd hA hok hNb
  go_enter Tryz.func10, Tryz.ntmps10
  go_wp2_with (first
    | (go_at_call 19; refine X.mono ?_; rintro e W1 ⟨rfl, hb⟩; have HB1 := Aside0.mk hb; clear hb X)
    | (go_at_call 22; refine (HXD.out _ HB1.out).mono ?_; rintro e W2 ⟨rfl, rfl⟩)
    | (go_at_call 9; refine (HXR.out _ HB1.out).mono ?_; rintro e W3 ⟨v, rfl, ho⟩; have HB3 := Aside0.mk (chain' HB1.out ho.2); clear ho)
    | (go_at_call 11; refine (HXU.out _ HB3.out).mono ?_; rintro e W4 ⟨rfl, hb⟩; have HB4 := Aside0.mk (chain' HB3.out hb); clear hb)
    | (go_at_call 24; refine (HXL2.out _ HB4.out).mono ?_; rintro e W5 ⟨rfl, hw⟩; have HW := Aside0.mk hw; clear hw))
  go_ret2
  exact ⟨rfl, HP.out _ _ HB4.out HW.out⟩
end Go.Proofs.YtilgfpljjjbgdaaGreatDoor.Fs
namespace Go.Proofs.YtilgfpljjjbgdaaGreatDoor.Fs
open Go.RowKit Go.Proofs.YtilgfpljjjbgdaaGreatDoor Go.Proofs.YtilgfpljjjbgdaaGreatDoor.Plain Go.Proofs.YtilgfpljjjbgdaaGreatDoorW.PrintWords Go.Maps
set_option linter.unusedVariables false
set_option linter.unusedSimpArgs false
structure BoxD (d : Disk) : Prop where
  on : On d
  files : ∀ p ∈ d.now, ∃ u k, boxB u = true ∧ 1 ≤ k ∧ k ≤ 999999999 ∧ p.1 = fileN u 43 k
  got : ∀ p ∈ d.now, get d.now p.1 = some p.2
theorem box_fresh (n : Int) : BoxD (Disk.fresh n) := ⟨⟨rfl, rfl⟩, (fun p hp => by cases hp), (fun p hp => by cases hp)⟩
theorem file_length (u : Nm) (c : UInt8) (k : Nat) : (fileN u c k).length = u.length + 10 := by
  unfold fileN
  simp [digN_length]
theorem file_inj {u v : Nm} {c e : UInt8} {k l : Nat} (hk : k ≤ 999999999) (hl : l ≤ 999999999) (h : fileN u c k = fileN v e l) : u = v ∧ c = e ∧ k = l := by
  have hlen := congrArg List.length h
  rw [file_length, file_length] at hlen
  obtain ⟨h1, h2⟩ := List.append_inj h (by omega)
  injection h2 with h3 h4
  refine ⟨h1, h3, ?_⟩
  have := congrArg valN h4
  rw [valN_digN, valN_digN, Nat.mod_eq_of_lt (by omega), Nat.mod_eq_of_lt (by omega)] at this
  exact this
theorem BoxD.short {d : Disk} (h : BoxD d) : Short d := fun s hs => by
  obtain ⟨x, hx⟩ := mem_names.1 hs
  obtain ⟨u, k, hu, h1, h2, he⟩ := h.files _ hx
  have := (box_bytes hu).2.2
  show s.length ≤ _
  rw [show s = fileN u 43 k from he, file_length]
  omega
theorem BoxD.tmp {d : Disk} (h : BoxD d) (u : Nm) {k : Nat} (hk : k ≤ 999999999) : get d.now (fileN u 45 k) = none := by
  cases hg : get d.now (fileN u 45 k) with
  | none => rfl
  | some x =>
    obtain ⟨v, l, hu, h1, h2, he⟩ := h.files _ (get_mem hg)
    have := (file_inj hk h2 he).2.1
    exact absurd this (by decide)
theorem absent {d : Dir} {n : Nm} (h : get d n = none) : ∀ p ∈ d, p.1 ≠ n := by
  induction d with
  | nil => intro p hp; cases hp
  | cons q d ih =>
    rw [get_cons] at h
    split at h
    · cases h
    · rename_i hq
      intro p hp
      rcases List.mem_cons.1 hp with rfl | hp
      · exact hq
      · exact ih h p hp
theorem del_absent {d : Dir} {n : Nm} (h : get d n = none) : del d n = d := by
  unfold del
  rw [List.filter_eq_self]
  intro p hp
  simpa using absent h p hp
theorem ins_perm (p : Nm × Nat) (d : Dir) : (ins p d).Perm (p :: d) := by
  induction d with
  | nil => exact .refl _
  | cons q d ih =>
    unfold ins
    split
    · exact .refl _
    · exact (ih.cons q).trans (.swap _ _ _)
theorem put_perm {d : Dir} {n : Nm} {x : Nat} (h : get d n = none) : (put d n x).Perm ((n, x) :: d) := by
  unfold put
  rw [del_absent h]
  exact ins_perm _ _
theorem laid_perm {d : Dir} {a b : Nm} {x : Nat} (hab : a ≠ b) (ha : get d a = none) (hb : get d b = none) : (del (put (put d a x) b x) a).Perm ((b, x) :: d) := by
  have hb2 : get (put d a x) b = none := by rw [get_put_other d x hab.symm]; exact hb
  have h1 := (put_perm (x := x) hb2).trans ((put_perm (x := x) ha).cons (b, x))
  have h2 := h1.filter (fun p => !(p.1 == a))
  have e : ((b, x) :: (a, x) :: d).filter (fun p => !(p.1 == a)) = (b, x) :: d := by
    rw [List.filter_cons, if_pos (by simpa using hab.symm), List.filter_cons, if_neg (by simp)]
    congr 1
    exact del_absent ha
  rw [e] at h2
  exact h2
theorem laid_get {d : Dir} {a b : Nm} {x : Nat} (hab : a ≠ b) (ha : get d a = none) (hb : get d b = none) : ∀ p ∈ (b, x) :: d, get (del (put (put d a x) b x) a) p.1 = get ((b, x) :: d) p.1 := by
  intro p hp
  have hpa : p.1 ≠ a := by
    rcases List.mem_cons.1 hp with rfl | hp
    · exact hab.symm
    · exact absent ha p hp
  rw [get_del_other _ hpa, get_cons]
  split
  · rename_i e
    rw [← e, get_put_same]
  · rename_i e
    rw [get_put_other _ x (fun h => e h.symm), get_put_other _ x hpa]
/-! what all boxes have -/
def held (d : Disk) (u : Nm) (p : Nm × Nat) : Nat := if (idOf u p.1).isSome then (d.bytes p.2).length else 0
theorem sum_fm (rd : Nat → List UInt8) (g : Nm → Option Nat) : ∀ ns : List Nm, sumL rd (ns.filterMap g) = (ns.map fun s => match g s with | some k => (rd k).length | none => 0).sum
  | [] => rfl
  | s :: ns => by
    have ih := sum_fm rd g ns
    unfold sumL at ih ⊢
    rw [List.filterMap_cons, List.map_cons, List.sum_cons]
    cases h : g s with
    | none => simp only []; rw [ih, Nat.zero_add]
    | some k => simp only [List.map_cons, List.sum_cons]; rw [ih]
theorem readB_at {d : Disk} (h : BoxD d) {p : Nm × Nat} (hp : p ∈ d.now) {u : Nm} {k : Nat} (hk : idOf u p.1 = some k) : readB d u (k : Int) = (d.bytes p.2, true) := by
  obtain ⟨a0, -, a2, a3, a4, -⟩ := idOf_some hk
  have hg : goodB u (k : Int) = true := by unfold goodB idOk; rw [a0]; simp; omega
  unfold readB
  rw [if_pos hg, Int.toNat_natCast, ← a2, on_read h.on (by rw [a2]; exact file_right a0 (by decide) k), h.got p hp]
  rfl
theorem usedL_sum {d : Disk} (h : BoxD d) (u : Nm) : usedL d u = (d.now.map (held d u)).sum := by
  unfold usedL mailsL
  rw [sum_fm]
  have hp : (names d.now).Perm (d.now.map (·.1)) := List.mergeSort_perm _ _
  rw [(hp.map _).sum_nat, List.map_map]
  congr 1
  refine List.map_congr_left (fun p hp => ?_)
  show (match idOf u p.1 with | some k => (readB d u (k : Int)).1.length | none => 0) = held d u p
  unfold held
  cases hk : idOf u p.1 with
  | none => rfl
  | some k => simp only [Option.isSome_some, if_true]; rw [readB_at h hp hk]
/-- what is known when a mail is laid -/
structure Room (d : Disk) (u : Nm) (k : Nat) (b : List UInt8) : Prop where
  box : boxB u = true
  lo : 1 ≤ k
  hi : k ≤ 999999999
  free : get d.now (fileN u 43 k) = none
  files : d.now.length < 256
  bytes : (b.length : Int) ≤ d.room - (used d.bytes d.now : Int)
theorem tmp_fin (u : Nm) (k : Nat) : fileN u 45 k ≠ fileN u 43 k := fun h => by
  unfold fileN at h
  have := List.append_cancel_left h
  injection this with h1
  exact absurd h1 (by decide)
theorem used_setAt {b : Nat → List UInt8} {l : Dir} {x : Nat} {v : List UInt8} (h : ∀ p ∈ l, p.2 ≠ x) : used (setAt b x v) l = used b l := by
  unfold used
  congr 1
  exact List.map_congr_left (fun p hp => by rw [setAt_other _ _ (h p hp)])
theorem used_perm {b : Nat → List UInt8} {l l' : Dir} (h : l.Perm l') : used b l = used b l' := (h.map _).sum_nat
theorem setAt_twice {α : Type} (f : Nat → α) (x : Nat) (v w : α) : setAt (setAt f x v) x w = setAt f x w := by
  funext y
  unfold setAt
  split <;> rfl
def laidD (d : Disk) (x : Nat) (u : Nm) (k : Nat) (b : List UInt8) : Disk :=
  { d with bytes := setAt d.bytes x b, firm := setAt d.firm x b.length, sure := del (put (put d.now (fileN u 45 k) x) (fileN u 43 k) x) (fileN u 45 k), loose := [] }
theorem lay_steps {d : Disk} (h : BoxD d) {u : Nm} {k : Nat} {b : List UInt8} (hr : Room d u k b) {x : Nat} (hx : ¬ d.has x) :
    (d.create x (fileN u 45 k)).1 = 0 ∧ ((stage d x (fileN u 45 k) (fileN u 43 k) b 1).append (fileN u 45 k) b).1 = 0 ∧ ((stage d x (fileN u 45 k) (fileN u 43 k) b 2).sync (fileN u 45 k)).1 = 0 ∧ ((stage d x (fileN u 45 k) (fileN u 43 k) b 3).rename (fileN u 45 k) (fileN u 43 k)).1 = 0 ∧ (stage d x (fileN u 45 k) (fileN u 43 k) b 4).dirSync.1 = 0 ∧ stage d x (fileN u 45 k) (fileN u 43 k) b 5 = laidD d x u k b := by
  have ht := h.tmp u hr.hi
  have hf := hr.free
  have hne := tmp_fin u k
  have rt := file_right hr.box (c := 45) (by decide) k
  have rf := file_right hr.box (c := 43) (by decide) k
  unfold laidD
  obtain ⟨tmp, htm⟩ : ∃ tmp, fileN u 45 k = tmp := ⟨_, rfl⟩
  obtain ⟨fin, hfi⟩ : ∃ fin, fileN u 43 k = fin := ⟨_, rfl⟩
  rw [htm] at ht hne rt ⊢
  rw [hfi] at hf hne rf ⊢
  have hnx : ∀ p ∈ d.now, p.2 ≠ x := fun p hp e => hx (e ▸ has_now hp)
  have c1 := on_create h.on rt ht hr.files x
  have s1 : stage d x tmp fin b 1 = (d.create x tmp).2 := rfl
  rw [c1] at s1
  obtain ⟨d1, hd1⟩ : ∃ d1, stage d x tmp fin b 1 = d1 := ⟨_, rfl⟩
  have s2 : stage d x tmp fin b 2 = ((stage d x tmp fin b 1).append tmp b).2 := rfl
  have s3 : stage d x tmp fin b 3 = ((stage d x tmp fin b 2).sync tmp).2 := rfl
  have s4 : stage d x tmp fin b 4 = ((stage d x tmp fin b 3).rename tmp fin).2 := rfl
  have s5 : stage d x tmp fin b 5 = (stage d x tmp fin b 4).dirSync.2 := rfl
  rw [hd1] at s1 s2 ⊢
  have n1 : d1.now = put d.now tmp x := by rw [s1]; exact now_snoc (d := { d with bytes := setAt d.bytes x [], firm := setAt d.firm x 0 }) (.create tmp x)
  have o1 : On d1 := by rw [s1]; exact h.on
  have b1 : d1.bytes = setAt d.bytes x [] := by rw [s1]
  have r1 : d1.room = d.room := by rw [s1]
  have g1 : get d1.now tmp = some x := by rw [n1, get_put_same]
  have u1 : used d1.bytes d1.now = used d.bytes d.now := by
    rw [n1, b1, used_perm (put_perm ht)]
    show (setAt d.bytes x [] x).length + used (setAt d.bytes x []) d.now = _
    rw [setAt_same, used_setAt hnx]
    simp
  have c2 := on_append o1 rt g1 (u := b) (by rw [r1, u1]; exact hr.bytes)
  rw [c2] at s2
  obtain ⟨d2, hd2⟩ : ∃ d2, stage d x tmp fin b 2 = d2 := ⟨_, rfl⟩
  rw [hd2] at s2 s3 ⊢
  have n2 : d2.now = put d.now tmp x := by rw [s2]; exact n1
  have o2 : On d2 := by rw [s2]; exact o1
  have g2 : get d2.now tmp = some x := by rw [n2, get_put_same]
  have c3 := on_sync o2 rt g2
  rw [c3] at s3
  obtain ⟨d3, hd3⟩ : ∃ d3, stage d x tmp fin b 3 = d3 := ⟨_, rfl⟩
  rw [hd3] at s3 s4 ⊢
  have n3 : d3.now = put d.now tmp x := by rw [s3]; exact n2
  have o3 : On d3 := by rw [s3]; exact o2
  have g3 : get d3.now tmp = some x := by rw [n3, get_put_same]
  have c4 := on_rename o3 rt rf hne g3
  rw [c4] at s4
  obtain ⟨d4, hd4⟩ : ∃ d4, stage d x tmp fin b 4 = d4 := ⟨_, rfl⟩
  rw [hd4] at s4 s5 ⊢
  have n4 : d4.now = del (put (put d.now tmp x) fin x) tmp := by
    rw [s4, now_snoc, n3]
    show (match get (put d.now tmp x) tmp with | some y => del (put (put d.now tmp x) fin y) tmp | none => put d.now tmp x) = _
    rw [get_put_same]
  have o4 : On d4 := by rw [s4]; exact o3
  have c5 := on_dirSync o4
  rw [c5] at s5
  refine ⟨by rw [c1], by rw [c2], by rw [c3], by rw [c4], by rw [c5], ?_⟩
  rw [s5, n4, s4, s3, s2, s1]
  simp only [setAt_same, setAt_twice, List.nil_append]
theorem lay_ok {d : Disk} (h : BoxD d) {u : Nm} {k : Nat} {b : List UInt8} (hr : Room d u k b) : LayOk d (fileN u 45 k) (fileN u 43 k) b := by
  refine ⟨?_, fun x hx => (lay_steps h hr hx).1, fun x hx => (lay_steps h hr hx).2.1, fun x hx => (lay_steps h hr hx).2.2.1, fun x hx => (lay_steps h hr hx).2.2.2.1, fun x hx => (lay_steps h hr hx).2.2.2.2.1⟩
  have rt := file_right hr.box (c := 45) (by decide) k
  rw [Disk.unlink, if_neg (by rw [on_ready h.on rt]; omega), h.tmp u hr.hi]
theorem laid_now (d : Disk) (x : Nat) (u : Nm) (k : Nat) (b : List UInt8) : (laidD d x u k b).now = del (put (put d.now (fileN u 45 k) x) (fileN u 43 k) x) (fileN u 45 k) := rfl
theorem laid_box {d : Disk} (h : BoxD d) {u : Nm} {k : Nat} {b : List UInt8} (hr : Room d u k b) {x : Nat} (hx : ¬ d.has x) :
    BoxD (laidD d x u k b) ∧ (laidD d x u k b).now.Perm ((fileN u 43 k, x) :: d.now) := by
  have ht := h.tmp u hr.hi
  have hp := laid_perm (x := x) (tmp_fin u k) ht hr.free
  rw [← laid_now d x u k b] at hp
  refine ⟨⟨h.on, fun p hp2 => ?_, fun p hp2 => ?_⟩, hp⟩
  · rcases List.mem_cons.1 (hp.mem_iff.1 hp2) with rfl | h3
    · exact ⟨u, k, hr.box, hr.lo, hr.hi, rfl⟩
    · exact h.files p h3
  · have h3 := hp.mem_iff.1 hp2
    rw [laid_now, laid_get (tmp_fin u k) ht hr.free p h3, get_cons]
    rcases List.mem_cons.1 h3 with rfl | h4
    · rw [if_pos rfl]
    · rw [if_neg (fun e => absent hr.free p h4 e.symm)]
      exact h.got p h4
theorem laid_held {d : Disk} (h : BoxD d) {u : Nm} {k : Nat} {b : List UInt8} (hr : Room d u k b) {x : Nat} (hx : ¬ d.has x) (v : Nm) :
    usedL (laidD d x u k b) v = usedL d v + if v = u then b.length else 0 := by
  obtain ⟨h1, h2⟩ := laid_box h hr hx
  have hnx : ∀ p ∈ d.now, p.2 ≠ x := fun p hp e => hx (e ▸ has_now hp)
  rw [usedL_sum h1, usedL_sum h, (h2.map _).sum_nat, List.map_cons, List.sum_cons, Nat.add_comm]
  congr 1
  · congr 1
    refine List.map_congr_left (fun p hp => ?_)
    unfold held
    show (if (idOf v p.1).isSome then (setAt d.bytes x b p.2).length else 0) = _
    rw [setAt_other _ _ (hnx p hp)]
  · unfold held
    show (if (idOf v (fileN u 43 k)).isSome then (setAt d.bytes x b x).length else 0) = _
    rw [setAt_same]
    by_cases hv : v = u
    · subst hv
      rw [idOf_file hr.box hr.lo hr.hi]
      simp
    · rw [if_neg hv]
      cases hk : idOf v (fileN u 43 k) with
      | none => rfl
      | some l =>
        obtain ⟨-, -, a2, -, a4, -⟩ := idOf_some hk
        exact absurd (file_inj hr.hi a4 a2).1.symm hv
theorem laid_read {d : Disk} (h : BoxD d) {u : Nm} {k : Nat} {b : List UInt8} (hr : Room d u k b) {x : Nat} (hx : ¬ d.has x) : readB (laidD d x u k b) u (k : Int) = (b, true) := by
  obtain ⟨h1, h2⟩ := laid_box h hr hx
  have := readB_at h1 (h2.mem_iff.2 List.mem_cons_self) (idOf_file hr.box hr.lo hr.hi)
  rw [this]
  show (setAt d.bytes x b x, true) = _
  rw [setAt_same]
theorem readB_good {d : Disk} (h : BoxD d) {u : Nm} {k : Nat} (hu : boxB u = true) (h1 : 1 ≤ k) (h2 : k ≤ 999999999) : readB d u (k : Int) = match get d.now (fileN u 43 k) with | none => ([], false) | some x => (d.bytes x, true) := by
  have hg : goodB u (k : Int) = true := by unfold goodB idOk; rw [hu]; simp; omega
  unfold readB
  rw [if_pos hg, Int.toNat_natCast, on_read h.on (file_right hu (by decide) k)]
  cases get d.now (fileN u 43 k) <;> rfl
theorem readB_bad (d : Disk) {u : Nm} {n : Int} (h : goodB u n = false) : readB d u n = ([], false) := by unfold readB; rw [h]; rfl
end Go.Proofs.YtilgfpljjjbgdaaGreatDoor.Fs
namespace Go.Proofs.YtilgfpljjjbgdaaGreatDoor.Fs
open Go.RowKit Go.Proofs.YtilgfpljjjbgdaaGreatDoor Go.Proofs.YtilgfpljjjbgdaaGreatDoor.Plain Go.Proofs.YtilgfpljjjbgdaaGreatDoorW.PrintWords Go.Maps
set_option linter.unusedVariables false
set_option linter.unusedSimpArgs false
set_option maxRecDepth 100000 in
theorem listNil (W : World) : Calls Tryz.prog 13 #[.pointer none] W fun e W' => e = .returned (.slice none 0 0) ∧ W' = W := by
  go_enter Tryz.func13, Tryz.ntmps13
  go_wp2
  go_ret
  exact ⟨rfl, rfl⟩
theorem boxMailsNil (u : Nm) (hu : u.length ≤ 500000) (W : World) (hG : GI W) : Calls Tryz.prog 14 #[.pointer none, .string (S u)] W fun e W' => ∃ v, e = .returned v ∧ IRow W v [] W' := by
  refine mailsIs none [] W (fun X hX => ?_) (by simp) (fun s hs => by simp at hs) u hu hG
  refine (listNil X).mono ?_
  rintro e W' ⟨rfl, rfl⟩
  exact ⟨none, 0, rfl, fun j hj => by simp at hj, Below.refl _ _⟩
theorem boxUsedNil (u : Nm) (hu : u.length ≤ 500000) (W : World) (hG : GI W) : Calls Tryz.prog 11 #[.pointer none, .string (S u)] W fun e W' => e = .returned (.int .i64 0) ∧ Below W.heap.size W W' :=
  usedLoop none u [] (fun _ => []) W (boxMailsNil u hu W hG) (fun k hk => by simp at hk) (fun k hk => by simp at hk) (by simp)
set_option maxHeartbeats 1000000 in
set_option maxRecDepth 100000 in
theorem intsOne (g g' c c' : Nat) (n : Int) (W : World) (h : W.cell? ⟨g, 0, none⟩ = some (.int .i64 n)) (h' : W.cell? ⟨g', 0, none⟩ = some (.int .i64 n)) : Calls Tryz.prog 17 #[.slice (some ⟨g, 0, none⟩) 1 c, .slice (some ⟨g', 0, none⟩) 1 c'] W fun e W' => e = .returned (.bool true) ∧ Below W.heap.size W W' := by
  go_enter Tryz.func17, Tryz.ntmps17
  go_wp2
  go_loopw [5] (fun v5 wr => ∃ i : Nat, i ≤ 1 ∧ v5 = .int .i64 i ∧ Aside0 (Below W.heap.size W wr)) (fun v5 _ => 1 - (intOf v5).toNat)
  case atStart => exact ⟨0, by omega, rfl, ⟨Below.refl _ _⟩⟩
  case round =>
    obtain ⟨i, hi, rfl, HB⟩ := hrel
    have hc : i = 0 ∨ i = 1 := by omega
    clear hi
    have k1 := pw_cell_below HB.out h
    have k2 := pw_cell_below HB.out h'
    rcases hc with rfl | rfl
    · go_wp2
      go_quiet (fail)
      go_wp2
      go_roundw
      case rel => exact ⟨1, by omega, by go_num, ⟨pw_below_drewN HB.out _⟩⟩
      case measure => simp [intOf] <;> omega
    · go_wp2
      go_ret
      exact ⟨rfl, HB.out⟩
theorem newCell (W : World) (v : Value) (t : TypeId) : (W.alloc (.cells #[v] t)).cell? ⟨W.heap.size, 0, none⟩ = some v := by
  have h := heap_alloc_new W (.cells #[v] t)
  unfold World.cell?
  simp only []
  rw [h]
  rfl
theorem litReads (w : World) (u : List UInt8) (fr : Nat × Nat) (hz : u.length ≤ 1000000) : ReadsInt (w.alloc (.cells (nums .u8 (B u)).toArray 5 fr)) .u8 (some ⟨w.heap.size, 0, none⟩) (B u).length (B u) := by
  refine ⟨rfl, by rw [B_length]; omega, fun _ => ⟨_, rfl, fun j hj => ?_⟩⟩
  have h5 : (⟨w.heap.size, 0, none⟩ : Addr).add j = ⟨w.heap.size, j, none⟩ := by unfold Addr.add; split <;> simp_all
  rw [h5]
  have e : (w.alloc (.cells (nums .u8 (B u)).toArray 5 fr)).heap[w.heap.size]? = some (.cells (nums .u8 (B u)).toArray 5 fr) := heap_alloc_new w _
  simp only [World.cell?, e]
  rw [B_length] at hj
  simp [nums, B, List.getD, hj]
/-- the disk of the answers, behind the delivery -/
def aB : Nm := [97, 64, 98]
theorem aB_box : boxB aB = true := by decide +kernel
theorem names_perm {d : Dir} {p : Nm × Nat} (h : d.Perm [p]) : names d = [p.1] := by
  unfold names
  rw [sort_perm (l := d.map (·.1)) (l' := [p.1]) (by have := h.map (·.1); simpa using this)]
  simp
set_option maxHeartbeats 1000000 in
set_option maxRecDepth 100000 in
theorem boxAnswers (W : World) (hG : GI W) : Calls Tryz.prog 7 #[] W fun e W' => e = .returned (.bool true) ∧ Below W.heap.size W W' := by
  have HG := Aside0.mk hG
  have hb0 : BoxD (Disk.fresh 100) := box_fresh 100
  have hroom : Room (Disk.fresh 100) aB 7 [120, 10] := ⟨aB_box, by omega, by omega, rfl, by decide, by decide⟩
  have hgood : goodB aB 7 = true := by unfold goodB idOk; rw [aB_box]; rfl
  have hnot : (readB (Disk.fresh 100) aB 7).2 = false := by rw [show ((7 : Int)) = ((7 : Nat) : Int) from rfl, readB_good hb0 aB_box (by omega) (by omega)]; rfl
  have hused : usedL (Disk.fresh 100) aB = 0 := by rw [usedL_sum hb0]; rfl
  have XN := new (w0 := W) (W := W) (Below.refl _ _) 100
  have HD := Aside0.mk (fun (f : Nat) (T : Nat → Prop) (X : World) (hF : FsAt W f (Disk.fresh 100) 0 T X) (A : Option Addr) (m c : Nat) (hm : m = 2) (hr : ReadsInt X .u8 A (B [120, 10]).length (B [120, 10])) (hA : ∀ a, A = some a → ¬ T a.block ∨ (B [120, 10]).length = 0) =>
    show Calls Tryz.prog 10 #[.pointer (some ⟨f, 0, none⟩), .string ⟨#[97, 64, 98]⟩, .int .i64 7, .slice A m c, .int .i64 9] X (fun e W' => e = .returned (.tuple #[.bool true, .int .i64 0]) ∧ ∃ x, ¬ (Disk.fresh 100).has x ∧ Wrote W f (laidD (Disk.fresh 100) x aB 7 [120, 10]) 8 T X W') from by
      refine (deliverNew hF (by omega) hG rfl hb0.short aB (by decide) 7 hgood hnot [120, 10] (by simp) A m c hm hr hA (fun k hk => ?_) 9 (by omega) (by rw [hused]; decide)).mono ?_
      · obtain rfl : k = 7 := by omega
        exact lay_ok hb0 hroom
      · rintro e W' ⟨rfl, x, hx, hw⟩
        refine ⟨rfl, x, hx, ?_⟩
        have e5 := (lay_steps hb0 hroom hx).2.2.2.2.2
        rw [show ((7 : Int)).toNat = 7 from rfl, e5] at hw
        exact hw)
  have HRD := Aside0.mk (fun (f x : Nat) (T : Nat → Prop) (X : World) (hx : ¬ (Disk.fresh 100).has x) (hF : FsAt W f (laidD (Disk.fresh 100) x aB 7 [120, 10]) 8 T X) (hX : Below W.heap.size W X) =>
    show Calls Tryz.prog 9 #[.pointer (some ⟨f, 0, none⟩), .string ⟨#[97, 64, 98]⟩, .int .i64 7] X (fun e W' => ∃ v, e = .returned (.tuple #[v, .bool true]) ∧ RdOf X [120, 10] v W') from by
      have h := boxReadIs hF (by omega) aB (by decide) 7 (hG.below hX)
      rw [show ((7 : Int)) = ((7 : Nat) : Int) from rfl, laid_read hb0 hroom hx] at h
      exact h)
  have HML := Aside0.mk (fun (f x : Nat) (T : Nat → Prop) (X : World) (hx : ¬ (Disk.fresh 100).has x) (hF : FsAt W f (laidD (Disk.fresh 100) x aB 7 [120, 10]) 8 T X) (hX : Below W.heap.size W X) =>
    show Calls Tryz.prog 14 #[.pointer (some ⟨f, 0, none⟩), .string ⟨#[97, 64, 98]⟩] X (fun e W' => ∃ v, e = .returned v ∧ IRow X v [7] W') from by
      have hbox := laid_box hb0 hroom hx
      have h := boxMailsIs hF (by omega) hbox.1.on.1 hbox.1.short aB (by decide) (hG.below hX)
      have e : mailsL (laidD (Disk.fresh 100) x aB 7 [120, 10]) aB = [7] := by
        unfold mailsL
        rw [names_perm (p := (fileN aB 43 7, x)) hbox.2, List.filterMap_cons, idOf_file aB_box (by omega) (by omega)]
        rfl
      rw [e] at h
      exact h)
  have HUS := Aside0.mk (fun (f x : Nat) (T : Nat → Prop) (X : World) (hx : ¬ (Disk.fresh 100).has x) (hF : FsAt W f (laidD (Disk.fresh 100) x aB 7 [120, 10]) 8 T X) (hX : Below W.heap.size W X) =>
    show Calls Tryz.prog 11 #[.pointer (some ⟨f, 0, none⟩), .string ⟨#[97, 64, 98]⟩] X (fun e W' => e = .returned (.int .i64 2) ∧ Below X.heap.size X W') from by
      have hbox := laid_box hb0 hroom hx
      have h := boxUsedIs hF (by omega) hbox.1.on.1 hbox.1.short aB (by decide) (hG.below hX)
      rw [laid_held hb0 hroom hx aB, hused, if_pos rfl] at h
      exact h)
  clear hG hb0 hroom hgood hnot hused
  go_enter Tryz.func7, Tryz.ntmps7
  go_wp2_with (first
    | (go_at_call 8; refine XN.mono ?_; rintro e W1 ⟨f, T, rfl, hF, hT, hb⟩; obtain ⟨W2, hW2⟩ : ∃ W2, W1.alloc (.cells #[.int .u8 120, .int .u8 10] 5 (2, 3)) = W2 := ⟨_, rfl⟩; have kc : (convert 27 27 (.slice (some ⟨W1.heap.size, 0, none⟩) 2 2)).run Tryz.prog (W1.alloc (.cells #[.int .u8 120, .int .u8 10] 5)) = .ok (.slice (some ⟨W1.heap.size, 0, none⟩) 2 2) W2 := (by rw [← hW2]; exact Lib.run_convert_bytes_const (P := Tryz.prog) W1 27 5 #[.int .u8 120, .int .u8 10] 2 2 Tryz.underlying27 Tryz.underlying5); have hR : ReadsInt W2 .u8 (some ⟨W1.heap.size, 0, none⟩) (B [120, 10]).length (B [120, 10]) := (by rw [← hW2]; exact litReads W1 [120, 10] (2, 3) (by decide)); have hb2 : Below W1.heap.size W1 W2 := (by rw [← hW2]; exact below_alloc (Below.refl _ _) _); have HR := Aside0.mk hR; have HF2 := Aside0.mk (hF.step hb2); have HA2 := Aside0.mk (fun (a : Addr) (e : some (⟨W1.heap.size, 0, none⟩ : Addr) = some a) => (.inl (fun hh => by cases e; have := hF.mine _ hh; exact absurd this (Nat.lt_irrefl _)) : ¬ T a.block ∨ (B [120, 10]).length = 0)); clear hF hT hb XN hW2 hR hb2)
    | (go_at_call 10; refine (HD.out f T W2 HF2.out _ 2 2 rfl HR.out HA2.out).mono ?_; rintro e W3 ⟨rfl, x, hx, T3, hF3, hT3⟩; have HX := Aside0.mk hx; have HF3 := Aside0.mk hF3; have HB3 := Aside0.mk hF3.below'; clear hx hF3 hT3 kc)
    | (go_at_call 9; refine (HRD.out f x T3 W3 HX.out HF3.out HB3.out).mono ?_; rintro e W4 ⟨v, rfl, ho⟩; obtain ⟨A4, c4, rfl⟩ := own_slice ho.1; have hcv := convAny (c := c4) (n := 2) (own_reads' ho.1) rfl; have HF4 := Aside0.mk (HF3.out.step ho.2); have HB4 := Aside0.mk (chain' HB3.out ho.2); clear ho)
    | (go_at_call 14; refine (HML.out f x T3 W4 HX.out HF4.out HB4.out).mono ?_; rintro e W5 ⟨v5, rfl, hm⟩; obtain ⟨A5, c5, rfl⟩ := own_slice hm.row; obtain ⟨g5, hA5, hc5, -⟩ := rowCell hm.row 0 (by decide) (ints_get [7] 0 (by decide)); subst hA5; have HC5 := Aside0.mk hc5; have HF5 := Aside0.mk (HF4.out.step hm.below); have HB5 := Aside0.mk (chain' HB4.out hm.below); clear hm hc5 hcv)
    | (go_at_call 17; refine (intsOne g5 W5.heap.size c5 1 7 _ (pw_cell_below (below_alloc (Below.refl _ _) _) HC5.out) (newCell _ _ _)).mono ?_; rintro e W6 ⟨rfl, hb⟩; have HF6 := Aside0.mk (HF5.out.step (chain' (below_alloc (Below.refl _ _) _) hb)); have HB6 := Aside0.mk (chain' HB5.out (chain' (below_alloc (Below.refl _ _) _) hb)); clear hb)
    | (go_at_call 11; refine (HUS.out f x T3 W6 HX.out HF6.out HB6.out).mono ?_; rintro e W7 ⟨rfl, hb⟩; have HB7 := Aside0.mk (chain' HB6.out hb); clear hb))
  all_goals go_ret
  all_goals exact ⟨rfl, HB7.out⟩
end Go.Proofs.YtilgfpljjjbgdaaGreatDoor.Fs
