/- script: unhex, numbers. -/
import Derived.Test.YtkcdlfkicopmoaaDoorScrPrint
namespace Go.Proofs.YtkcdlfkicopmoaaDoor.Fs
open Go.RowKit Go.Proofs.YtkcdlfkicopmoaaDoor Go.Proofs.YtkcdlfkicopmoaaDoor.Plain Go.Proofs.YtkcdlfkicopmoaaDoorW.PrintWords Go.Maps
set_option linter.unusedVariables false
set_option linter.unusedSimpArgs false
/-- Atoi's answer, error or not -/
def atoiVal (t : Nm) : Int := match Lib.atoiAll t with | .ok v => v | .range => Lib.atoiSat t | _ => 0
theorem below_bytes (w : World) (t : ByteArray) : Below w.heap.size w (Lib.bytesWorld w 5 t) := bytes_below (Below.refl _ _) (Nat.le_refl _) _ _
theorem atoiIs (t : Nm) (ht : t.length ≤ 1099511627776) (w : World) (hG : GI w) : Calls Tryd.prog 46 #[.string (S t)] w fun e w' => ∃ x : Value, e = .returned (.tuple #[.int .i64 (atoiVal t), x]) ∧ (x = .nilIface ∨ ∃ a b, x = .iface a b) ∧ Below w.heap.size w w' := by
  obtain ⟨⟨t1, p1, c1⟩, t2, p2, c2⟩ := hG.errs
  cases hc : Lib.atoiAll t with
  | ok v =>
    refine (Tryd.strconv_Atoi_ok (S t) (by rw [S_size]; omega) v hc w).mono ?_
    rintro e w' ⟨rfl, hw⟩
    refine ⟨.nilIface, by unfold atoiVal; rw [hc], .inl rfl, ?_⟩
    rcases hw with rfl | ⟨u, rfl⟩
    · exact Below.refl _ _
    · exact below_bytes _ _
  | range =>
    refine (Tryd.strconv_Atoi_range (S t) (by rw [S_size]; omega) hc _ w c2 (.inr ⟨_, _, rfl⟩)).mono ?_
    rintro e w' ⟨N, rfl, _, _, hb⟩
    exact ⟨_, by unfold atoiVal; rw [hc]; rfl, .inr ⟨_, _, rfl⟩, hb⟩
  | _ =>
    refine (Tryd.strconv_Atoi_syntax (S t) (by rw [S_size]; omega) ⟨(fun v h => by have h' := hc.symm.trans h; cases h'), (fun h => by have h' := hc.symm.trans h; cases h')⟩ _ w c1 (.inr ⟨_, _, rfl⟩)).mono ?_
    rintro e w' ⟨N, rfl, _, _, hb⟩
    exact ⟨_, by unfold atoiVal; rw [hc], .inr ⟨_, _, rfl⟩, hb⟩
/-- pointers to the whole numbers of block b, from its cell d on -/
def PtrsAt (W : World) (A : Option Addr) (b d n : Nat) : Prop := ∀ j, j < n → ∃ ad, A = some ad ∧ W.cell? (ad.add j) = some (.pointer (some ⟨b, d + j, none⟩))
/-- cells, of which those from d on were set to numbers -/
def setInts (cs : Array Value) (d : Nat) : List Int → Array Value
  | [] => cs
  | v :: r => setInts (cs.setIfInBounds d (.int .i64 v)) (d + 1) r
theorem setInts_snoc (cs : Array Value) (d : Nat) (vs : List Int) (v : Int) : setInts cs d (vs ++ [v]) = (setInts cs d vs).setIfInBounds (d + vs.length) (.int .i64 v) := by
  induction vs generalizing cs d with
  | nil => rfl
  | cons a r ih =>
    show setInts (cs.setIfInBounds d (.int .i64 a)) (d + 1) (r ++ [v]) = _
    rw [ih]
    show _ = (setInts (cs.setIfInBounds d (.int .i64 a)) (d + 1) r).setIfInBounds (d + (r.length + 1)) _
    congr 1
    omega
theorem setInts_size (cs : Array Value) (d : Nat) (vs : List Int) : (setInts cs d vs).size = cs.size := by
  induction vs generalizing cs d with
  | nil => rfl
  | cons a r ih => show (setInts (cs.setIfInBounds d (.int .i64 a)) (d + 1) r).size = _; rw [ih, Array.size_setIfInBounds]
/-- all but block b is as it was -/
structure Apart (b : Nat) (W X : World) : Prop where
  size : W.heap.size ≤ X.heap.size
  block : ∀ k, k < W.heap.size → k ≠ b → X.heap[k]? = W.heap[k]?
theorem Apart.refl (b : Nat) (W : World) : Apart b W W := ⟨Nat.le_refl _, fun _ _ _ => rfl⟩
theorem Apart.below {b : Nat} {W X Y : World} (h : Apart b W X) (hb : Below X.heap.size X Y) : Apart b W Y := ⟨Nat.le_trans h.size hb.size, fun k hk hne => (hb.block k (Nat.lt_of_lt_of_le hk h.size)).trans (h.block k hk hne)⟩
theorem Apart.set {b : Nat} {W X : World} (h : Apart b W X) (i : Nat) (v : Value) : Apart b W (X.setCell ⟨b, i, none⟩ v) := by
  refine ⟨?_, fun k hk hne => (heap_setCell_other _ _ _ _ hne).trans (h.block k hk hne)⟩
  have : (X.setCell ⟨b, i, none⟩ v).heap.size = X.heap.size := by simp [World.setCell]
  rw [this]
  exact h.size
theorem Apart.cell {b : Nat} {W X : World} {a : Addr} {v : Value} (h : Apart b W X) (hc : W.cell? a = some v) (hne : a.block ≠ b) : X.cell? a = some v :=
  (World.cell?_of_block (h.block _ (World.block_lt_of_cell? _ _ hc) hne)).trans hc
theorem blockOf_add (a : Addr) (j : Nat) : (a.add j).block = a.block := by unfold Addr.add; split <;> rfl
theorem Apart.names {b : Nat} {W X : World} {A : Option Addr} {l : List Nm} (h : Apart b W X) (hn : NamesAt W A l) (hA : ∀ a, A = some a → a.block ≠ b) : NamesAt X A l := fun j hj => by
  obtain ⟨ad, e, hc, hl⟩ := hn j hj
  exact ⟨ad, e, h.cell hc (by rw [blockOf_add]; exact hA ad e), hl⟩
theorem Apart.ptrs {b c d n : Nat} {W X : World} {A : Option Addr} (h : Apart b W X) (hn : PtrsAt W A c d n) (hA : ∀ a, A = some a → a.block ≠ b) : PtrsAt X A c d n := fun j hj => by
  obtain ⟨ad, e, hc⟩ := hn j hj
  exact ⟨ad, e, h.cell hc (by rw [blockOf_add]; exact hA ad e)⟩
theorem cellOfBlock {X : World} {b i : Nat} {cs : Array Value} {t : TypeId} (h : X.heap[b]? = some (.cells cs t (0, 0))) (hi : i < cs.size) : (∃ u, X.cell? ⟨b, i, none⟩ = some u) ∧ X.frozen? ⟨b, i, none⟩ = false := by
  constructor
  · unfold World.cell?
    simp only []
    rw [h]
    exact ⟨cs[i], by simp [hi]⟩
  · unfold World.frozen?
    simp only []
    rw [h]
    simp
set_option maxHeartbeats 1000000 in
set_option maxRecDepth 100000 in
theorem numbersIs (A : Option Addr) (n c : Nat) (ps : List Nm) (hn : n = ps.length) (P : Option Addr) (m k : Nat) (w0 : World) (b d : Nat) (cs : Array Value) (t : TypeId) (W : World) (hB : Below w0.heap.size w0 W) (hb0 : w0.heap.size ≤ b) (hb : W.heap[b]? = some (.cells cs t (0, 0))) (hd : d + m ≤ cs.size) (hm : m ≤ ps.length) (hm2 : m ≤ 100)
    (hA : NamesAt W A ps) (hA2 : ∀ a, A = some a → a.block ≠ b) (hps : ∀ s ∈ ps, s.length ≤ 1099511627776) (hP : PtrsAt W P b d m) (hP2 : ∀ a, P = some a → a.block ≠ b) (hG : GI w0) :
    Calls Tryd.prog 31 #[.slice A n c, .slice P m k] W fun e W' => e = .returned (.tuple #[]) ∧ Below w0.heap.size w0 W' ∧ Apart b W W' ∧ W'.heap[b]? = some (.cells (setInts cs d ((ps.take m).map atoiVal)) t (0, 0)) := by
  subst hn
  have HA := Aside0.mk hA
  have HA2 := Aside0.mk hA2
  have HP := Aside0.mk hP
  have HP2 := Aside0.mk hP2
  have HPS := Aside0.mk hps
  have HG := Aside0.mk hG
  have HB0 := Aside0.mk hB
  have HBB := Aside0.mk hb0
  have HD := Aside0.mk hd
  have HH := Aside0.mk hb
  have hbs := (Array.getElem?_eq_some_iff.1 hb).1
  have HBS := Aside0.mk hbs
  clear hA hA2 hP hP2 hps hG hB hb0 hd hb hbs
  go_enter Tryd.func31, Tryd.ntmps31
  go_wp2
  go_loopw [4, 5, 8] (fun v4 v5 v8 wr => ∃ i : Nat, i ≤ m ∧ v8 = .int .i64 i ∧ Aside0 (Below w0.heap.size w0 wr) ∧ Aside0 (Apart b W wr) ∧ Aside0 (wr.heap[b]? = some (.cells (setInts cs d ((ps.take i).map atoiVal)) t (0, 0)))) (fun _ _ v8 _ => m - (intOf v8).toNat)
  case atStart => exact ⟨0, by omega, rfl, HB0, ⟨Apart.refl _ _⟩, ⟨HH.out⟩⟩
  case round =>
    obtain ⟨i, hi, rfl, HB, HAP, HC⟩ := hrel
    by_cases hlt : i < m
    · have hlt2 : i < ps.length := by omega
      obtain ⟨ad, hA1, hcell, -⟩ := HAP.out.names HA.out HA2.out i hlt2
      obtain ⟨ap, hP1, hpc⟩ := HAP.out.ptrs HP.out HP2.out i hlt
      have hs := HPS.out _ (List.getElem_mem hlt2)
      have HT := Aside0.mk (show (ps.take (i + 1)).map atoiVal = (ps.take i).map atoiVal ++ [atoiVal ps[i]] from map_take_succ _ hlt2)
      subst hA1 hP1
      obtain ⟨s, hs2⟩ : ∃ s, ps[i] = s := ⟨_, rfl⟩
      rw [hs2] at hcell hs HT
      have XA := atoiIs s hs wr (HG.out.below HB.out)
      obtain ⟨v, hv⟩ : ∃ v, atoiVal s = v := ⟨_, rfl⟩
      rw [hv] at XA HT
      have HLN := Aside0.mk (show ((ps.take i).map atoiVal).length = i by rw [List.length_map, List.length_take]; omega)
      clear hs2 hv hs
      go_wp2_with (go_at_call 46; refine XA.mono ?_; rintro e W3 ⟨x, rfl, hx, hb⟩; have hc3 := (hb.block b (Nat.lt_of_lt_of_le HBS.out HAP.out.size)).trans HC.out; obtain ⟨⟨u, hu⟩, hfz⟩ := cellOfBlock (i := d + i) hc3 (by rw [setInts_size]; have := HD.out; omega); have HC3 := Aside0.mk hc3; have HB3 := Aside0.mk hb; clear hb hc3 XA)
      go_roundw
      case rel =>
        refine ⟨i + 1, by omega, by go_num, ⟨Below.setCell (chain' HB.out HB3.out) HBB.out _⟩, ⟨(HAP.out.below HB3.out).set _ _⟩, ⟨?_⟩⟩
        rw [HT.out, setInts_snoc, HLN.out]
        exact heap_setCell_same _ _ _ _ _ _ HC3.out
      case measure => simp [intOf]; omega
    · obtain rfl : i = m := by omega
      go_wp2
      go_end0
      exact ⟨rfl, HB.out, HAP.out, HC.out⟩
end Go.Proofs.YtkcdlfkicopmoaaDoor.Fs
