/- script: Parse. -/
import Derived.Test.YtkcdlfkicopmoaaDoorScrRead
namespace Go.Proofs.YtkcdlfkicopmoaaDoor.Fs
open Go.RowKit Go.Proofs.YtkcdlfkicopmoaaDoor Go.Proofs.YtkcdlfkicopmoaaDoor.Plain Go.Proofs.YtkcdlfkicopmoaaDoorW.PrintWords Go.Maps
set_option linter.unusedVariables false
set_option linter.unusedSimpArgs false
/-- the steps of lines, or the number of the first that is none -/
def goP (rd : Nm → Option StepD) : Nat → List Nm → List StepD ⊕ Nat
  | _, [] => .inl []
  | n, [r] => if r = [] then .inl [] else .inr n
  | n, l :: m :: r => match rd l with
    | none => .inr n
    | some x => match goP rd (n + 1) (m :: r) with
      | .inl xs => .inl (x :: xs)
      | .inr k => .inr k
def pre (xs : List StepD) : List StepD ⊕ Nat → List StepD ⊕ Nat
  | .inl ys => .inl (xs ++ ys)
  | .inr k => .inr k
theorem pre_nil (r : List StepD ⊕ Nat) : pre [] r = r := by cases r <;> rfl
theorem pre_pre (xs ys : List StepD) (r : List StepD ⊕ Nat) : pre xs (pre ys r) = pre (xs ++ ys) r := by cases r <;> simp [pre]
theorem cuts_ne {c : UInt8} (u : Nm) : cuts c u ≠ [] := by
  induction u using split_ind c with
  | h0 u h => rw [cuts_none h]; simp
  | h1 a b h ih => rw [cuts_app h]; simp
theorem goP_line (rd : Nm → Option StepD) (n : Nat) (a : Nm) (u : Nm) : goP rd n (a :: cuts 10 u) = match rd a with
    | none => .inr n
    | some x => pre [x] (goP rd (n + 1) (cuts 10 u)) := by
  cases h : cuts 10 u with
  | nil => exact absurd h (cuts_ne u)
  | cons m r =>
    rw [goP]
    cases rd a with
    | none => rfl
    | some x => cases goP rd (n + 1) (m :: r) <;> rfl
def strLen : Value → Nat | .string s => s.size | _ => 0
def parseP (rd : Nm → Option StepD) (u : Nm) : List StepD ⊕ Nat := goP rd 1 (cuts 10 u)
theorem infoStepZ : (Tryd.prog.info? 39).map (fun i => (i.zero, i.size, i.bytes)) = some (some (.agg #[.int .i64 0, .int .i64 0, .int .i64 0, .string ByteArray.empty]), 4, 40) := by kernel_rfl
def stepsV (l : List StepD) : List Value := l.flatMap fun x => (stepV x).toList
theorem stepsV_length (l : List StepD) : (stepsV l).length = l.length * 4 := by
  induction l with
  | nil => rfl
  | cons a l ih => simp only [stepsV, List.flatMap_cons, List.length_append, List.length_cons] at ih ⊢; rw [ih]; show 4 + _ = _; omega
theorem stepsV_append (l r : List StepD) : stepsV (l ++ r) = stepsV l ++ stepsV r := by simp [stepsV]
theorem stepsV_get : ∀ (l : List StepD) (j i : Nat) (hj : j < l.length), i < 4 → (stepsV l)[j * 4 + i]? = (stepV l[j])[i]?
  | [], j, i, hj, _ => by simp at hj
  | a :: l, 0, i, _, hi => by
    show ((stepV a).toList ++ stepsV l)[0 * 4 + i]? = _
    rw [Nat.zero_mul, Nat.zero_add, List.getElem?_append_left (by show i < 4; exact hi), Array.getElem?_toList]
    rfl
  | a :: l, j + 1, i, hj, hi => by
    show ((stepV a).toList ++ stepsV l)[(j + 1) * 4 + i]? = _
    rw [List.getElem?_append_right (by show 4 ≤ _; omega)]
    have := stepsV_get l j i (by simpa using hj) hi
    rw [show (j + 1) * 4 + i - (stepV a).toList.length = j * 4 + i by show (j + 1) * 4 + i - 4 = _; omega, this]
    rfl
/-- a list of steps that the call owns -/
structure TRow (w0 : World) (v : Value) (l : List StepD) (W : World) : Prop where
  row : W.ownsRow w0.heap.size 39 4 v l.length (stepsV l)
  below : Below w0.heap.size w0 W
theorem TRow.step {w0 W X : World} {v : Value} {l : List StepD} (h : TRow w0 v l W) (hb : Below W.heap.size W X) : TRow w0 v l X :=
  ⟨own_move h.row (fun k hk => hb.block k (h.row.lt k hk).2), h.below.trans (hb.mono h.below.size)⟩
theorem TRow.nil {w0 W : World} (hb : Below w0.heap.size w0 W) : TRow w0 (.slice none 0 0) [] W := ⟨World.ownsRow_nil _ _ _ _, hb⟩
theorem TRow.slice {w0 W : World} {v : Value} {l : List StepD} (h : TRow w0 v l W) : ∃ A c, v = .slice A l.length c := own_slice h.row
theorem TRow.at_ {w0 W : World} {A : Option Addr} {n c : Nat} {l : List StepD} (h : TRow w0 (.slice A n c) l W) : StepsAt W A l := by
  intro j hj
  rcases h.row.2 with ⟨_, h0⟩ | ⟨g, cap, cur, e, _, hg, hcap, _, hs, ht⟩
  · omega
  · injection e with e1 _ _
    refine ⟨_, e1, fun i hi => ?_⟩
    have h5 : (⟨g, 0, none⟩ : Addr).add (j * 4 + i) = ⟨g, j * 4 + i, none⟩ := by unfold Addr.add; split <;> simp_all
    rw [h5, cell_of_row W g (j * 4 + i) cur 39 (0, 0) hg, ← stepsV_get l j i hj hi, ← ht, List.getElem?_take_of_lt (by omega), Array.getElem?_toList]
/-- 'append(l, x)' -/
theorem appendT {w0 X : World} {v : Value} {l : List StepD} (h : TRow w0 v l X) (s : StepD) (hn : l.length ≤ 1000000000000) {ops : Array Oper} {rest : List Oper} {o : Oper} {a : Act} {Q : Exit → Act → World → Prop} (hgd : o.guard = none) (x y : Operand)
    (ho : o.op = .call { callee := .builtin .append, args := #[x, y], argTypes := #[22, 22] }) (hx : a.eval x = v) (ad : Addr) (c : Nat) (hy : a.eval y = .slice (some ad) 1 c)
    (hc : ∀ j u, (stepV s).toList[j]? = some u → X.cell? (ad.add j) = some u)
    (hK : ∀ v1 w1, TRow w0 v1 (l ++ [s]) w1 → wpList Tryd.prog ops Q rest (a.put o.dst v1) w1) : wpList Tryd.prog ops Q (o :: rest) a X := by
  obtain ⟨i0, hi, hzz⟩ := Option.map_eq_some_iff.1 infoStepZ
  simp only [Prod.mk.injEq] at hzz
  obtain ⟨hz0, hz1, hz2⟩ := hzz
  refine wpList_append_own_at (P := Tryd.prog) _ hgd x y 22 ho w0.heap.size 39 i0 _ 4 40 Tryd.underlying22 hi hz0 hz1 hz2 rfl (by decide) v l.length (stepsV l) hx h.row ad 1 c (stepV s).toList hy rfl hc (by intro u hu; simp [stepV] at hu; rcases hu with rfl | rfl | rfl | rfl <;> rfl) (by simp only [maxLen]; omega) (by omega) h.below.size ?_
  intro v1 w1 h1 h2 _ _
  refine hK v1 w1 ⟨?_, h.below.grown h2 h.below.size (fun k hk => ?_)⟩
  · rw [List.length_append, stepsV_append]
    have : stepsV [s] = (stepV s).toList := by simp [stepsV]
    rw [this]
    exact h1
  · rcases h.row.2 with ⟨rfl, _⟩ | ⟨g, cap, cur, rfl, hg, _⟩
    · cases hk
    · cases hk; exact hg
theorem stepNew (w : World) (s : StepD) (t : TypeId) (b : Nat) (hb : w.heap.size = b) : ∀ j u, (stepV s).toList[j]? = some u → (w.alloc (.cells #[.int .i64 s.kind, .int .i64 s.a, .int .i64 s.b, .string (S s.text)] t)).cell? ((⟨b, 0, none⟩ : Addr).add j) = some u := by
  subst hb
  intro j u hu
  have h := heap_alloc_new w (.cells #[.int .i64 s.kind, .int .i64 s.a, .int .i64 s.b, .string (S s.text)] t)
  have e : (⟨w.heap.size, 0, none⟩ : Addr).add j = ⟨w.heap.size, j, none⟩ := by unfold Addr.add; split <;> simp_all
  rw [e]
  unfold World.cell?
  simp only []
  rw [h]
  rw [Array.getElem?_toList] at hu
  exact hu
theorem cutIs (u : Nm) (hu : u.length ≤ 4000000000) (w : World) (hG : GI w) (a b : Nm) (e : Bool) (h : Lib.cut u [10] = (a, b, e)) : Calls Tryd.prog 25 #[.string (S u), .string ⟨#[10]⟩] w fun x w' => x = .returned (.tuple #[.string (S a), .string (S b), .bool e]) ∧ ∃ n, w' = w.drewN n := by
  obtain ⟨m, hm⟩ := hG.maxLen
  have k := Tryd.strings_Cut (S u) (S [10]) m w (by rw [S_size]; omega) hm
  rw [show (S u).data.toList = u from rfl, show (S [10]).data.toList = [10] from rfl, h] at k
  exact k
def ParsePost (w : World) (r : List StepD ⊕ Nat) (e : Ending) (W' : World) : Prop := Below w.heap.size w W' ∧ match r with
  | .inl xs => ∃ v, e = .returned (.tuple #[v, .int .i64 0, .int .i64 0]) ∧ TRow w v xs W'
  | .inr k => e = .returned (.tuple #[.slice none 0 0, .int .i64 (k : Int), .int .i64 8])
theorem cuts_count (u : Nm) : (cuts 10 u).length ≤ u.length + 1 := cuts_length 10 u
set_option maxHeartbeats 2000000 in
set_option maxRecDepth 100000 in
theorem parseIs (u : Nm) (hu : u.length ≤ 1073741824) (w : World) (hG : GI w) :
    Calls Tryd.prog 10 #[.string (S u)] w (ParsePost w (parseP readP u)) := by
  have HG := Aside0.mk hG
  have HB0 := Aside0.mk (Below.refl w.heap.size w)
  clear hG
  go_enter Tryd.func10, Tryd.ntmps10
  go_wp2
  go_loopw [0, 5, 6, 7, 8, 9, 10, 11] (fun v0 v5 v6 v7 v8 v9 v10 v11 wr => ∃ (t : Nm) (xs : List StepD) (N : Nat), t.length + N ≤ u.length + 1 ∧ v0 = .string (S t) ∧ v6 = .int .i64 (N : Int) ∧ Aside0 (xs.length + 1 = N) ∧ Aside0 (parseP readP u = pre xs (goP readP N (cuts 10 t))) ∧ Aside0 (TRow w v5 xs wr)) (fun v0 _ _ _ _ _ _ _ _ => strLen v0)
  case atStart => exact ⟨u, [], 1, by omega, rfl, rfl, ⟨rfl⟩, ⟨by rw [pre_nil]; rfl⟩, ⟨TRow.nil (Below.refl _ _)⟩⟩
  case round =>
    obtain ⟨t, xs, N, htl, rfl, rfl, HN, HP, HR⟩ := hrel
    by_cases ht : t = []
    · subst ht
      have hp : parseP readP u = .inl xs := by
        rw [HP.out, show goP readP N (cuts 10 []) = .inl [] from rfl]
        show Sum.inl (xs ++ []) = _
        rw [List.append_nil]
      have HPP := Aside0.mk hp
      clear hp HP
      go_wp2
      go_ret3
      rw [HPP.out]
      exact ⟨HR.out.below, _, rfl, HR.out⟩
    · have hte : (t == ([] : List UInt8)) = false := by simpa using ht
      by_cases h10 : (10 : UInt8) ∈ t
      · obtain ⟨a, b, hab, ha⟩ := List.eq_append_cons_of_mem h10
        have hcut : Lib.cut t [10] = (a, b, true) := by rw [hab]; exact cut_one a b 10 ha
        have XC := cutIs t (by omega) wr (HG.out.below HR.out.below) a b true hcut
        have hlen : t.length = a.length + b.length + 1 := by rw [hab]; simp; omega
        have hg := HP.out
        rw [hab, cuts_app ha, goP_line] at hg
        have HLN := Aside0.mk hlen
        have XR := Aside0.mk (fun (X : World) (hX : Below wr.heap.size wr X) => readIs a (by omega) X ((HG.out.below HR.out.below).below hX))
        cases hra : readP a with
        | none =>
          rw [hra] at hg
          have hp : parseP readP u = .inr N := hg
          have HPP := Aside0.mk hp
          have ex : readX a = zeroS := by unfold readX; rw [hra]; rfl
          have eo : readO a = false := by unfold readO; rw [hra]; rfl
          rw [ex, eo] at XR
          clear hp HP hg hab hcut ha h10 ht hra hlen ex eo
          go_wp2_with (first
            | (go_at_call 25; refine XC.mono ?_; rintro e W1 ⟨rfl, nn, rfl⟩; clear XC)
            | (go_at_call 26; refine (XR.out _ (by repeat (first | exact Below.refl _ _ | apply pw_below_drewN))).mono ?_; rintro e W2 ⟨rfl, hb⟩; have HB2 := Aside0.mk (chain' HR.out.below (chain' (W := wr) (by repeat (first | exact Below.refl _ _ | apply pw_below_drewN)) hb)); clear hb))
          go_ret3
          rw [HPP.out]
          exact ⟨below_alloc HB2.out _, rfl⟩
        | some x =>
          rw [hra] at hg
          have HNX := Aside0.mk (show parseP readP u = pre (xs ++ [x]) (goP readP (N + 1) (cuts 10 b)) by rw [hg, ← pre_pre])
          have ex : readX a = x := by unfold readX; rw [hra]; rfl
          have eo : readO a = true := by unfold readO; rw [hra]; rfl
          rw [ex, eo] at XR
          have HLE := Aside0.mk (show xs.length ≤ 1000000000000 by have := HN.out; omega)
          clear HP hg hab hcut ha h10 ht hra hlen ex eo
          go_wp2_with (first
            | (go_at_call 25; refine XC.mono ?_; rintro e W1 ⟨rfl, nn, rfl⟩; clear XC)
            | (go_at_call 26; refine (XR.out _ (by repeat (first | exact Below.refl _ _ | apply pw_below_drewN))).mono ?_; rintro e W2 ⟨rfl, hb⟩; have HB2 := Aside0.mk (chain' (W := wr) (by repeat (first | exact Below.refl _ _ | apply pw_below_drewN)) hb); clear hb)
            | (at_builtin; refine appendT (HR.out.step (below_alloc (below_alloc HB2.out _) _)) x HLE.out rfl _ _ rfl rfl _ 1 rfl (stepNew _ _ _ _ (by simp)) ?_; rintro v1 W4 h; have HR4 := Aside0.mk h; clear h))
          go_roundw
          case rel => exact ⟨b, xs ++ [x], N + 1, by have := HLN.out; omega, rfl, by go_num, ⟨by rw [List.length_append, ← HN.out]; rfl⟩, HNX, HR4⟩
          case measure =>
            show (S b).size < (S t).size
            rw [S_size, S_size]
            have := HLN.out
            omega
      · have hcut : Lib.cut t [10] = (t, [], false) := cut_none t 10 h10
        have XC := cutIs t (by omega) wr (HG.out.below HR.out.below) t [] false hcut
        have hg := HP.out
        rw [cuts_none h10, goP, if_neg ht] at hg
        have hp : parseP readP u = .inr N := hg
        have HPP := Aside0.mk hp
        have XR := Aside0.mk (fun (X : World) (hX : Below wr.heap.size wr X) => readIs t (by have := HN.out; omega) X ((HG.out.below HR.out.below).below hX))
        obtain ⟨o, ho⟩ : ∃ o, readO t = o := ⟨_, rfl⟩
        obtain ⟨x, hx⟩ : ∃ x, readX t = x := ⟨_, rfl⟩
        rw [ho, hx] at XR
        clear hp HP hg hcut h10 ht ho hx
        cases o with
        | false =>
          go_wp2_with (first
            | (go_at_call 25; refine XC.mono ?_; rintro e W1 ⟨rfl, nn, rfl⟩; clear XC)
            | (go_at_call 26; refine (XR.out _ (by repeat (first | exact Below.refl _ _ | apply pw_below_drewN))).mono ?_; rintro e W2 ⟨rfl, hb⟩; have HB2 := Aside0.mk (chain' HR.out.below (chain' (W := wr) (by repeat (first | exact Below.refl _ _ | apply pw_below_drewN)) hb)); clear hb))
          go_ret3
          rw [HPP.out]
          exact ⟨below_alloc HB2.out _, rfl⟩
        | true =>
          go_wp2_with (first
            | (go_at_call 25; refine XC.mono ?_; rintro e W1 ⟨rfl, nn, rfl⟩; clear XC)
            | (go_at_call 26; refine (XR.out _ (by repeat (first | exact Below.refl _ _ | apply pw_below_drewN))).mono ?_; rintro e W2 ⟨rfl, hb⟩; have HB2 := Aside0.mk (chain' HR.out.below (chain' (W := wr) (by repeat (first | exact Below.refl _ _ | apply pw_below_drewN)) hb)); clear hb))
          go_ret3
          rw [HPP.out]
          exact ⟨below_alloc HB2.out _, rfl⟩
end Go.Proofs.YtkcdlfkicopmoaaDoor.Fs
