/- fs: List with power; and Texts: are two lists of strings the same? -/
import Derived.Test.YtibmgcihpbofdaaFsMore
import Derived.Test.YtibmgcihpbofdaaFsDirs
namespace Go.Proofs.Ytibmgcihpbofdaa.Fs
open Go.RowKit Go.Proofs.Ytibmgcihpbofdaa Go.Proofs.Ytibmgcihpbofdaa.Plain Go.Proofs.YtibmgcihpbofdaaW.PrintWords Go.Maps Go.Sort
set_option linter.unusedVariables false
set_option linter.unusedSimpArgs false
/-- the names, in order -/
def names (d : Dir) : List Nm := (d.map (·.1)).mergeSort leB
theorem strKeys_D (d : Dir) : strKeys (D d) = d.map (·.1) := by
  simp only [D, strKeys, List.map_map]
  rfl
theorem leB_total (x y : Nm) : (leB x y || leB y x) = true := by
  simp only [leB, Bool.or_eq_true, decide_eq_true_eq]
  exact List.le_total x y
theorem leB_trans (x y z : Nm) (h : leB x y = true) (h' : leB y z = true) : leB x z = true := by
  simp only [leB, decide_eq_true_eq] at h h' ⊢
  exact List.le_trans h h'
theorem sort_perm {l l' : List Nm} (h : l.Perm l') : l.mergeSort leB = l'.mergeSort leB := by
  have p : (l.mergeSort leB).Perm (l'.mergeSort leB) := (List.mergeSort_perm l leB).trans (h.trans (List.mergeSort_perm l' leB).symm)
  refine p.eq_of_pairwise (le := fun a b => leB a b = true) (fun a b _ _ h1 h2 => ?_) ?_ ?_
  · simp only [leB, decide_eq_true_eq] at h1 h2
    exact List.le_antisymm h1 h2
  · exact List.pairwise_mergeSort leB_trans leB_total l
  · exact List.pairwise_mergeSort leB_trans leB_total l'
theorem names_length (d : Dir) : (names d).length = d.length := by simp [names]
theorem mem_names {d : Dir} {n : Nm} : n ∈ names d ↔ ∃ x, (n, x) ∈ d := by
  unfold names
  rw [(List.mergeSort_perm _ _).mem_iff]
  simp
theorem encStr_S (l : Nm) : encStr l = .string (S l) := rfl
set_option maxHeartbeats 1000000 in
set_option maxRecDepth 100000 in
theorem list {w0 W : World} {f : Nat} {d : Disk} {N : Nat} {T : Nat → Prop} (h : FsAt w0 f d N T W) (hN : N ≤ 1000000) (hd : d.down = false) :
    Calls Try.prog 24 #[.pointer (some ⟨f, 0, none⟩)] W fun e W' => ∃ v, e = .returned v ∧ W'.ownsRow W.heap.size 9 1 v d.now.length ((names d.now).map fun n => .string (S n)) ∧ Below W.heap.size W W' := by
  obtain ⟨bn, bs, vl, fs, vb, c0⟩ := h
  obtain ⟨hc1, _, _, _, _, hc6⟩ := c0.cells
  rw [hd] at hc6
  have hlen : d.now.length ≤ 1000000 := by
    have h2 := length_apps_le d.loose d.sure
    have h3 := c0.small.1
    unfold Disk.now; omega
  have XK := Try.fsKeys (some bn) W
  have XS := Try.fsSorted bn d.now.length (D d.now) ptrElem W c0.now (by rw [D_size]; simp only [maxLen]; omega) (by rw [D_size]; omega)
  have HXS := Aside0.mk XS
  clear c0 hd XS
  go_enter Try.func24, Try.ntmps24
  go_wp2_with (first
    | (go_at_call 43; refine (callsIn_wide.1 XK).mono ?_; rintro e X1 ⟨rfl, rfl⟩)
    | (go_at_call 42; refine (callsIn_wide.1 HXS.out).mono ?_; rintro e X1 ⟨v, ss, rfl, hp, ho, -, hb⟩; have HP := Aside0.mk hp; have HO := Aside0.mk ho; have HB := Aside0.mk hb; clear hp ho hb))
  go_ret
  have hb := below_alloc (Below.refl W.heap.size W) (.cells #[.map (some bn)] 61)
  have hp := HP.out
  rw [strKeys_D] at hp
  refine ⟨v, rfl, ?_, chain' hb HB.out⟩
  have e1 : ss.length = d.now.length := by rw [hp.length_eq]; simp
  have e2 : ss.mergeSort (fun x y => decide (x ≤ y)) = names d.now := sort_perm hp
  have ho := HO.out
  rw [e1, e2] at ho
  exact own_weaken ho hb.size
theorem names_at {W : World} {base n c : Nat} {A : Option Addr} {ns : List Nm} (h : W.ownsRow base 9 1 (.slice A n c) n (ns.map fun n => .string (S n))) (hl : ∀ x ∈ ns, x.length ≤ 140737488351232) : NamesAt W A ns ∧ n = ns.length := by
  have hn : ns.length = n := by have := h.1; simpa using this
  refine ⟨fun j hj => ?_, hn.symm⟩
  rcases h.2 with ⟨_, h0⟩ | ⟨g, cap, cur, e, _, hg, hcap, _, hs, ht⟩
  · omega
  · injection e with e1 e2 e3
    refine ⟨⟨g, 0, none⟩, e1, ?_, hl _ (List.getElem_mem _)⟩
    have hj2 : j < cur.size := by omega
    have h3 : cur[j] = .string (S ns[j]) := by
      have h4 : (cur.toList.take (n * 1))[j]? = (ns.map fun n => Value.string (S n))[j]? := by rw [ht]
      rw [List.getElem?_take_of_lt (by omega)] at h4
      simp [hj, hj2] at h4
      exact h4
    have h5 : (⟨g, 0, none⟩ : Addr).add j = ⟨g, j, none⟩ := by unfold Addr.add; split <;> simp_all
    rw [h5, cell_of_row W g j cur 9 (0, 0) hg]
    simp [hj2, h3]
set_option maxHeartbeats 1000000 in
set_option maxRecDepth 100000 in
theorem texts {W : World} {A A' : Option Addr} {c c' : Nat} {l r : List Nm} (h : NamesAt W A l) (h' : NamesAt W A' r) {n m : Nat} (hn : n = l.length) (hm : m = r.length) (hl : n ≤ 1000000) (hr : m ≤ 1000000) :
    Calls Try.prog 26 #[.slice A n c, .slice A' m c'] W fun e W' => e = .returned (.bool (l == r)) ∧ Below W.heap.size W W' := by
  subst hn hm
  have HL := Aside0.mk h
  have HR := Aside0.mk h'
  clear h h'
  by_cases hlen : l.length = r.length
  · have hlen' : ((l.length : Int) == (r.length : Int)) = true := by simp [hlen]
    have HLEN := Aside0.mk hlen
    have hls : (l.length : Int) ≤ 1000000 := by omega
    clear hlen
    go_enter Try.func26, Try.ntmps26
    go_wp2
    go_loopw [5] (fun v5 wr => ∃ i : Nat, i ≤ l.length ∧ v5 = .int .i64 i ∧ Aside0 (Below W.heap.size W wr) ∧ Aside0 (∀ j (hj : j < i), l[j]? = r[j]?)) (fun v5 _ => l.length - (intOf v5).toNat)
    case atStart => exact ⟨0, by omega, rfl, ⟨Below.refl _ _⟩, ⟨fun j hj => by omega⟩⟩
    case round =>
      obtain ⟨i, hi, rfl, HB, HI⟩ := hrel
      by_cases hlt : i < l.length
      · have hlt2 : i < r.length := by have := HLEN.out; omega
        obtain ⟨ad, hA, hcell, -⟩ := (HL.out.below HB.out) i hlt
        obtain ⟨ad', hA', hcell', -⟩ := (HR.out.below HB.out) i hlt2
        subst hA hA'
        have HX := Aside0.mk (List.getElem?_eq_getElem hlt)
        have HY := Aside0.mk (List.getElem?_eq_getElem hlt2)
        obtain ⟨x, hx⟩ : ∃ x, l[i] = x := ⟨_, rfl⟩
        obtain ⟨y, hy⟩ : ∃ y, r[i] = y := ⟨_, rfl⟩
        rw [hx] at hcell HX
        rw [hy] at hcell' HY
        clear hx hy
        by_cases hxy : x = y
        · subst hxy
          go_wp2
          go_quiet (fail)
          go_wp2
          go_roundw
          case rel => exact ⟨i + 1, by omega, by go_num, ⟨pw_below_drewN HB.out _⟩, ⟨fun j hj => by
            rcases Nat.lt_or_ge j i with h | h
            · exact HI.out j h
            · obtain rfl : j = i := by omega
              rw [HX.out, HY.out]⟩⟩
          case measure => simp [intOf]; omega
        · have hne : (x == y) = false := by simpa using hxy
          have HN := Aside0.mk hxy
          clear hxy
          go_wp2
          go_quiet (fail)
          go_wp2
          go_ret
          have e : (l == r) = false := by
            simp only [beq_eq_false_iff_ne, ne_eq]
            intro e
            have h1 := HX.out
            rw [e, HY.out] at h1
            exact HN.out (Option.some.inj h1).symm
          rw [e]
          exact ⟨rfl, pw_below_drewN HB.out _⟩
      · go_wp2
        go_ret
        have e : (l == r) = true := by
          simp only [beq_iff_eq]
          refine List.ext_getElem? fun j => ?_
          rcases Nat.lt_or_ge j i with h | h
          · exact HI.out j h
          · rw [List.getElem?_eq_none (by omega), List.getElem?_eq_none (by have := HLEN.out; omega)]
        rw [e]
        exact ⟨rfl, HB.out⟩
  · have hlen' : ((l.length : Int) == (r.length : Int)) = false := by simp; omega
    have hne : (l == r) = false := by simpa using fun e => hlen (by rw [e])
    have HNE := Aside0.mk hne
    clear hlen hne
    go_enter Try.func26, Try.ntmps26
    go_wp2
    go_ret
    rw [HNE.out]
    exact ⟨rfl, Below.refl _ _⟩
end Go.Proofs.Ytibmgcihpbofdaa.Fs
