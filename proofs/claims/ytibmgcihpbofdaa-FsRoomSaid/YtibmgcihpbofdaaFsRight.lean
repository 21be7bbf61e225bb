/- fs.right, and the asking of all names: what they answer. -/
import Derived.Test.YtibmgcihpbofdaaPRIGHTx1
import Derived.Test.YtibmgcihpbofdaaFsPure
import Derived.Deep.QuietTactic
import Derived.BigQuiet
import Derived.Deep.DeepMust
import Derived.WalkKit
namespace Go.Proofs.Ytibmgcihpbofdaa.Fs
open Go.RowKit Go.Proofs.Ytibmgcihpbofdaa Go.Proofs.Ytibmgcihpbofdaa.Plain Go.Proofs.YtibmgcihpbofdaaW.PrintWords Go.Proofs.YtibmgcihpbofdaaW.PrintLast Go.Proofs.YtibmgcihpbofdaaW.PrintMore
set_option linter.unusedVariables false
set_option linter.unusedSimpArgs false
def okC (c : UInt8) : Bool := decide (33 ≤ c.toNat ∧ c.toNat ≤ 126 ∧ c.toNat ≠ 47)
theorem rightB_eq (u : Nm) : rightB u = (u.all okC && decide (1 ≤ u.length ∧ u.length ≤ 80)) := rfl
open PRIGHT in
theorem right_l0 (s : List UInt8) : ∀ (p : List UInt8) (k : Nat), (p ++ s).length ≤ 140737488351232 → p.all okC = true → s.length < k → fs_right.l0 k (S (p ++ s)) (B (p ++ s)) ((p ++ s).length : Int) (p.length : Int) = some (rightB (p ++ s)) := by
  induction s with
  | nil =>
    intro p k hz hp hk
    obtain ⟨k, rfl⟩ : ∃ m, k = m + 1 := ⟨k - 1, by simp at hk; omega⟩
    rw [List.append_nil] at hz ⊢
    simp only [fs_right.l0]
    rw [if_neg (by omega), rightB_eq, hp, S_toList, S_size]
    by_cases h : p = []
    · subst h; simp
    · have : 1 ≤ p.length := by
        cases p with
        | nil => exact absurd rfl h
        | cons a p => simp
      rw [if_neg h]
      congr 1
      rw [Bool.true_and, Bool.eq_iff_iff]
      simp only [decide_eq_true_eq]
      omega
  | cons b s ih =>
    intro p k hz hp hk
    obtain ⟨k, rfl⟩ : ∃ m, k = m + 1 := ⟨k - 1, by simp at hk; omega⟩
    have hz' : p.length + s.length + 1 ≤ 140737488351232 := by simp at hz; omega
    have hl : (p ++ b :: s).length = p.length + s.length + 1 := by simp; omega
    simp only [fs_right.l0]
    rw [B_length, if_pos (by omega), if_pos (by omega), if_pos (by omega)]
    have hrd : rd (B (p ++ b :: s)) (p.length : Int) = (b.toNat : Int) := by
      rw [rd_B (by simp)]
      simp
    rw [hrd]
    have hall : (p ++ b :: s).all okC = (okC b && s.all okC) := by simp [hp]
    by_cases hb : okC b = true
    · have hb' : 33 ≤ b.toNat ∧ b.toNat ≤ 126 ∧ b.toNat ≠ 47 := of_decide_eq_true hb
      rw [if_neg (by omega), if_neg (by omega), if_neg (by omega), wrap_succ (by omega)]
      have := ih (p ++ [b]) k (by simp at hz ⊢; omega) (by simp [hp, hb]) (by simp at hk; omega)
      simp only [List.append_assoc, List.singleton_append, List.length_append, List.length_cons, List.length_nil, Nat.zero_add] at this
      simp only [List.length_append, List.length_cons]
      exact this
    · have hf : rightB (p ++ b :: s) = false := by rw [rightB_eq, hall]; simp [hb]
      have hb' : ¬ (33 ≤ b.toNat ∧ b.toNat ≤ 126 ∧ b.toNat ≠ 47) := fun h => hb (decide_eq_true h)
      rw [hf]
      by_cases h1 : (b.toNat : Int) ≤ 32
      · rw [if_pos h1]
      · rw [if_neg h1]
        by_cases h2 : (b.toNat : Int) > 126
        · rw [if_pos h2]
        · rw [if_neg h2, if_pos (by omega)]
theorem right (u : Nm) (hz : u.length ≤ 140737488351232) (w : World) : Calls Try.prog 51 #[.string (S u)] w fun e w' => e = .returned (.bool (rightB u)) ∧ Below w.heap.size w w' := by
  refine PRIGHT.fs_right.calls (u.length + 1) (S u) (rightB u) w (Glob.of w) ?_
  unfold PRIGHT.fs_right.f
  rw [if_pos (by simp; omega)]
  have := right_l0 u [] (u.length + 1) (by simpa using hz) rfl (by omega)
  simp only [List.nil_append, List.length_nil] at this
  simp only [Option.bind_some, bytesOf_S, B_length]
  exact this
open PRIGHT in
theorem name_l0 (s : List UInt8) : ∀ (p : List UInt8) (k : Nat), (p ++ s).length ≤ 140737488351232 → p.all okC = true → s.length < k → pillarboxref01_Name.l0 k (S (p ++ s)) (p.length : Int) = some (rightB (p ++ s)) := by
  induction s with
  | nil =>
    intro p k hz hp hk
    obtain ⟨k, rfl⟩ : ∃ m, k = m + 1 := ⟨k - 1, by simp at hk; omega⟩
    rw [List.append_nil] at hz ⊢
    simp only [pillarboxref01_Name.l0]
    rw [S_size, if_neg (by omega), rightB_eq, hp]
    by_cases h : (p.length : Int) ≥ 1
    · rw [if_pos h]
      congr 1
      rw [Bool.true_and, Bool.eq_iff_iff]
      simp only [decide_eq_true_eq]
      omega
    · rw [if_neg h]
      congr 1
      rw [Bool.true_and]
      symm
      rw [decide_eq_false_iff_not]
      omega
  | cons b s ih =>
    intro p k hz hp hk
    obtain ⟨k, rfl⟩ : ∃ m, k = m + 1 := ⟨k - 1, by simp at hk; omega⟩
    have hz' : p.length + s.length + 1 ≤ 140737488351232 := by simp at hz; omega
    have hl : (p ++ b :: s).length = p.length + s.length + 1 := by simp; omega
    simp only [pillarboxref01_Name.l0]
    rw [S_size, if_pos (by omega), if_pos (by omega)]
    have hrd : bt (S (p ++ b :: s)) (p.length : Int) = (b.toNat : Int) := by
      rw [bt_S (by simp)]
      simp
    rw [hrd]
    have hall : (p ++ b :: s).all okC = (okC b && s.all okC) := by simp [hp]
    by_cases hb : okC b = true
    · have hb' : 33 ≤ b.toNat ∧ b.toNat ≤ 126 ∧ b.toNat ≠ 47 := of_decide_eq_true hb
      rw [if_neg (by omega), if_neg (by omega), if_neg (by omega), wrap_succ (by omega)]
      have := ih (p ++ [b]) k (by simp at hz ⊢; omega) (by simp [hp, hb]) (by simp at hk; omega)
      simp only [List.append_assoc, List.singleton_append, List.length_append, List.length_cons, List.length_nil, Nat.zero_add] at this
      exact this
    · have hf : rightB (p ++ b :: s) = false := by rw [rightB_eq, hall]; simp [hb]
      have hb' : ¬ (33 ≤ b.toNat ∧ b.toNat ≤ 126 ∧ b.toNat ≠ 47) := fun h => hb (decide_eq_true h)
      rw [hf]
      by_cases h1 : (b.toNat : Int) < 33
      · rw [if_pos h1]
      · rw [if_neg h1]
        by_cases h2 : (b.toNat : Int) > 126
        · rw [if_pos h2]
        · rw [if_neg h2, if_pos (by omega)]
theorem refName (u : Nm) (hz : u.length ≤ 140737488351232) (w : World) : Calls Try.prog 10 #[.string (S u)] w fun e w' => e = .returned (.bool (rightB u)) ∧ Drawn0 w w' := by
  refine PRIGHT.pillarboxref01_Name.calls (u.length + 1) (S u) (rightB u) w (Glob.of w) ?_
  have := name_l0 u [] (u.length + 1) (by simpa using hz) rfl (by omega)
  simp only [List.nil_append, List.length_nil] at this
  exact this
set_option maxHeartbeats 400000 in
theorem notRight (u : Nm) (hz : u.length ≤ 140737488351232) (w : World) : Calls Try.prog 50 #[.string (S u)] w fun e w' => e = .returned (.bool (!rightB u)) ∧ Below w.heap.size w w' := by
  have X := right u hz w
  obtain ⟨r, hr⟩ : ∃ r, rightB u = r := ⟨_, rfl⟩
  rw [hr] at X ⊢
  clear hr
  go_enter Try.func50, Try.ntmps50
  go_wp2_with (go_at_call 51; refine X.mono ?_; rintro e W ⟨rfl, hb⟩)
  go_ret
  exact ⟨rfl, hb⟩
/-- a slice of names -/
def NamesAt (W : World) (A : Option Addr) (ns : List Nm) : Prop := ∀ j (hj : j < ns.length), ∃ ad, A = some ad ∧ W.cell? (ad.add j) = some (.string (S ns[j])) ∧ ns[j].length ≤ 140737488351232
theorem NamesAt.below {W X : World} {A : Option Addr} {ns : List Nm} (h : NamesAt W A ns) (hb : Below W.heap.size W X) : NamesAt X A ns := fun j hj => by
  obtain ⟨ad, e, hc, hl⟩ := h j hj
  exact ⟨ad, e, (World.cell?_of_block (hb.block _ (World.block_lt_of_cell? _ _ hc))).trans hc, hl⟩
set_option maxHeartbeats 1000000 in
theorem indexFunc (A : Option Addr) (c : Nat) (ns : List Nm) (w : World) (h : NamesAt w A ns) (hn : ns.length ≤ 100) :
    Calls Try.prog 57 #[.slice A ns.length c, .func (.func 50) #[] #[]] w fun e w' => ∃ r : Int, e = .returned (.int .i64 r) ∧ (0 ≤ r ↔ ns.any (fun n => !rightB n) = true) ∧ Below w.heap.size w w' := by
  have HN := Aside0.mk h
  clear h
  go_enter Try.func57, Try.ntmps57
  go_wp2
  go_loopw [5, 8] (fun v5 v8 wr => ∃ i : Nat, i ≤ ns.length ∧ v8 = .int .i64 i ∧ Aside0 (∀ j (hj : j < ns.length), j < i → rightB ns[j] = true) ∧ Aside0 (Below w.heap.size w wr)) (fun _ v8 _ => ns.length - (intOf v8).toNat)
  case atStart => exact ⟨0, by omega, rfl, ⟨fun j hj h => by omega⟩, ⟨Below.refl _ _⟩⟩
  case round =>
    obtain ⟨i, hi, rfl, HI, HB⟩ := hrel
    by_cases hlt : i < ns.length
    · obtain ⟨ad, rfl, hcell, hlen⟩ := HN.out i hlt
      have hcell' : wr.cell? (ad.add i) = some (.string (S ns[i])) := (World.cell?_of_block (HB.out.block _ (World.block_lt_of_cell? _ _ hcell))).trans hcell
      have X := notRight ns[i] hlen wr
      obtain ⟨r, hr⟩ : ∃ r, rightB ns[i] = r := ⟨_, rfl⟩
      rw [hr] at X
      have HR := Aside0.mk hr
      obtain ⟨s, hs⟩ : ∃ s, S ns[i] = s := ⟨_, rfl⟩
      rw [hs] at X hcell'
      clear hcell hlen hr hs
      cases r with
      | true =>
        go_wp2_with (go_at_call 50; refine X.mono ?_; rintro e W ⟨rfl, hb⟩; have HB2 := Aside0.mk (HB.out.trans (hb.mono HB.out.size)); clear hb X)
        go_roundw
        case rel =>
          refine ⟨i + 1, by omega, by go_num, ⟨fun j hj h => ?_⟩, HB2⟩
          by_cases e : j = i
          · subst e; exact HR.out
          · exact HI.out j hj (by omega)
        case measure => simp [intOf]; omega
      | false =>
        go_wp2_with (go_at_call 50; refine X.mono ?_; rintro e W ⟨rfl, hb⟩; have HB2 := Aside0.mk (HB.out.trans (hb.mono HB.out.size)); clear hb X)
        go_ret
        refine ⟨(i : Int), rfl, ⟨fun _ => ?_, fun _ => by omega⟩, HB2.out⟩
        rw [List.any_eq_true]
        exact ⟨ns[i], List.getElem_mem hlt, by rw [HR.out]; rfl⟩
    · go_wp2
      go_ret
      refine ⟨-1, rfl, ⟨fun h => by omega, fun h => ?_⟩, HB.out⟩
      rw [List.any_eq_true] at h
      obtain ⟨x, hx, hx2⟩ := h
      obtain ⟨j, hj, rfl⟩ := List.getElem_of_mem hx
      rw [HI.out j hj (by omega)] at hx2
      cases hx2
set_option maxHeartbeats 400000 in
theorem containsFunc (A : Option Addr) (c : Nat) (ns : List Nm) (w : World) (h : NamesAt w A ns) (hn : ns.length ≤ 100) :
    Calls Try.prog 49 #[.slice A ns.length c, .func (.func 50) #[] #[]] w fun e w' => e = .returned (.bool (ns.any fun n => !rightB n)) ∧ Below w.heap.size w w' := by
  have X := indexFunc A c ns w h hn
  obtain ⟨b, hb⟩ : ∃ b, (ns.any fun n => !rightB n) = b := ⟨_, rfl⟩
  rw [hb] at X ⊢
  clear h hb
  go_enter Try.func49, Try.ntmps49
  go_wp2_with (go_at_call 57; refine X.mono ?_; rintro e W ⟨r, rfl, hr, hB⟩)
  go_ret
  refine ⟨?_, hB⟩
  cases b with
  | true => have : 0 ≤ r := hr.2 rfl; simp [this]
  | false => have : ¬ 0 ≤ r := fun h => by cases hr.1 h
             simp [this]
end Go.Proofs.Ytibmgcihpbofdaa.Fs
