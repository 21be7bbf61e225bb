/- script: Print; lists of steps. -/
import Derived.Test.YtkcdlfkicopmoaaDoorScrLine
namespace Go.Proofs.YtkcdlfkicopmoaaDoor.Fs
open Go.RowKit Go.Proofs.YtkcdlfkicopmoaaDoor Go.Proofs.YtkcdlfkicopmoaaDoor.Plain Go.Proofs.YtkcdlfkicopmoaaDoorW.PrintWords Go.Maps
set_option linter.unusedVariables false
set_option linter.unusedSimpArgs false
structure StepOk (x : StepD) : Prop where
  kind : I64 x.kind
  a : I64 x.a
  b : I64 x.b
  text : x.text.length ≤ 1073741824
def stepV (x : StepD) : Array Value := #[.int .i64 x.kind, .int .i64 x.a, .int .i64 x.b, .string (S x.text)]
def StepsAt (W : World) (A : Option Addr) (l : List StepD) : Prop := ∀ j (hj : j < l.length), ∃ ad, A = some ad ∧ ∀ i, i < 4 → W.cell? (ad.add (j * 4 + i)) = (stepV l[j])[i]?
theorem stepV_some (x : StepD) {i : Nat} (h : i < 4) : ∃ v, (stepV x)[i]? = some v := by
  have : i < (stepV x).size := h
  exact ⟨_, Array.getElem?_eq_getElem this⟩
theorem StepsAt.below {w W : World} {A : Option Addr} {l : List StepD} (h : StepsAt w A l) (hb : Below w.heap.size w W) : StepsAt W A l := fun j hj => by
  obtain ⟨ad, e, hc⟩ := h j hj
  refine ⟨ad, e, fun i hi => ?_⟩
  obtain ⟨v, hv⟩ := stepV_some l[j] hi
  have h1 := (hc i hi).trans hv
  rw [hv]
  exact (World.cell?_of_block (hb.block _ (World.block_lt_of_cell? _ _ h1))).trans h1
theorem stepCells {W : World} {ad : Addr} {i : Nat} {x : StepD} (h : ∀ k, k < 4 → W.cell? (ad.add (i * 4 + k)) = (stepV x)[k]?) :
    W.cell? (ad.add (i * 4)) = some (.int .i64 x.kind) ∧ W.cell? ⟨(ad.add (i * 4)).block, (ad.add (i * 4)).off + 1, none⟩ = some (.int .i64 x.a) ∧ W.cell? ⟨(ad.add (i * 4)).block, (ad.add (i * 4)).off + 2, none⟩ = some (.int .i64 x.b) ∧ W.cell? ⟨(ad.add (i * 4)).block, (ad.add (i * 4)).off + 3, none⟩ = some (.string (S x.text)) := by
  have key : ∀ k v, k < 4 → (stepV x)[k]? = some v → W.cell? ((ad.add (i * 4)).add k) = some v := fun k v hk hv => by
    have h1 := (h k hk).trans hv
    rw [← Addr.add_add] at h1
    exact h1
  refine ⟨?_, key 1 (.int .i64 x.a) (by omega) rfl, key 2 (.int .i64 x.b) (by omega) rfl, key 3 (.string (S x.text)) (by omega) rfl⟩
  have := key 0 (.int .i64 x.kind) (by omega) rfl
  simpa [Addr.add] using this
/-- a builder that the call has made, and what it holds -/
structure BI (w0 : World) (b : Nat) (T : Nm) (W : World) : Prop where
  is_ : Lib.IsBuilder 47 5 w0.heap.size b (Lib.byteCells T) W
  below : Below w0.heap.size w0 W
theorem BI.new (w : World) : BI w w.heap.size [] (w.alloc (.cells #[.pointer none, .slice none 0 0] 47)) := ⟨Lib.fresh_isBuilder _ _ w, below_alloc (Below.refl _ _) _⟩
theorem BI.step {w0 W X : World} {b : Nat} {T : Nm} (h : BI w0 b T W) (hb : Below W.heap.size W X) : BI w0 b T X := by
  obtain ⟨h1, h2⟩ := h
  refine ⟨?_, h2.trans (hb.mono h2.size)⟩
  have key : ∀ p, Lib.BuilderAt 47 5 w0.heap.size b p (Lib.byteCells T) W → Lib.BuilderAt 47 5 w0.heap.size b p (Lib.byteCells T) X := by
    rintro p ⟨k1, v, k2, k3, k4⟩
    exact ⟨k1, v, (hb.block _ (Array.getElem?_eq_some_iff.1 k2).1).trans k2, own_move k3 (fun k hk => hb.block k (k3.lt k hk).2), k4⟩
  exact h1.elim (fun h => .inl (key _ h)) (fun h => .inr (key _ h))
theorem writeIs {w0 W : World} {b : Nat} {T : Nm} (h : BI w0 b T W) (t : Nm) (hl : T.length + t.length ≤ 140737488355328) :
    Calls Tryd.prog 22 #[.pointer (some ⟨b, 0, none⟩), .string (S t)] W fun e W' => e = .returned (.tuple #[.int .i64 (t.length : Int), .nilIface]) ∧ BI w0 b (T ++ t) W' := by
  refine (Tryd.Builder_WriteString w0.heap.size b (Lib.byteCells T) (S t) W h.is_ (by rw [Lib.byteCells_length, S_size]; exact hl) h.below.size).mono ?_
  rintro e W' ⟨rfl, h1, h2⟩
  refine ⟨by rw [S_size], .inr ?_, h.below.trans h2⟩
  have e : Lib.byteCells T ++ Lib.strCells (S t) = Lib.byteCells (T ++ t) := by simp [Lib.byteCells, Lib.strCells]
  rw [← e]
  exact h1
theorem stringIs {w0 W : World} {b : Nat} {T : Nm} (h : BI w0 b T W) :
    Calls Tryd.prog 24 #[.pointer (some ⟨b, 0, none⟩)] W fun e W' => e = .returned (.string (S T)) ∧ Below w0.heap.size w0 W' := by
  refine (Tryd.Builder_String_any w0.heap.size b T W h.is_ h.below.size).mono ?_
  rintro e W' ⟨rfl, h2⟩
  exact ⟨rfl, h.below.trans h2⟩
theorem printL_take (l : List StepD) (i : Nat) : (printL (l.take i)).length ≤ (printL l).length := by
  unfold printL
  conv => rhs; rw [← List.take_append_drop i l, List.flatMap_append, List.length_append]
  omega
theorem printL_succ {l : List StepD} {i : Nat} (h : i < l.length) : printL (l.take (i + 1)) = printL (l.take i) ++ stepL l[i] := by
  unfold printL
  rw [List.take_add_one, List.getElem?_eq_getElem h, List.flatMap_append]
  simp
set_option maxHeartbeats 1000000 in
set_option maxRecDepth 100000 in
theorem printIs (A : Option Addr) (c : Nat) (l : List StepD) (hn : l.length ≤ 1073741824) (hok : ∀ x ∈ l, StepOk x) (hT : (printL l).length ≤ 1099511627776) (w : World) (h : StepsAt w A l) (hG : GI w) :
    Calls Tryd.prog 9 #[.slice A l.length c] w fun e W' => e = .returned (.string (S (printL l))) ∧ Below w.heap.size w W' := by
  have HS := Aside0.mk h
  have HG := Aside0.mk hG
  have HOK := Aside0.mk hok
  have HT := Aside0.mk hT
  clear h hG hok hT
  go_enter Tryd.func9, Tryd.ntmps9
  go_wp2
  go_loopw [5, 8] (fun v5 v8 wr => ∃ i : Nat, i ≤ l.length ∧ v8 = .int .i64 i ∧ Aside0 (BI w w.heap.size (printL (l.take i)) wr)) (fun _ v8 _ => l.length - (intOf v8).toNat)
  case atStart => exact ⟨0, by omega, rfl, ⟨BI.new w⟩⟩
  case round =>
    obtain ⟨i, hi, rfl, HB⟩ := hrel
    by_cases hlt : i < l.length
    · obtain ⟨ad, rfl, hcell⟩ := (HS.out.below HB.out.below) i hlt
      have hok := HOK.out _ (List.getElem_mem hlt)
      have HP := Aside0.mk (printL_succ hlt)
      have HL := Aside0.mk (show (printL (l.take i)).length + (stepL l[i]).length ≤ 140737488355328 by
        have h1 := congrArg List.length (printL_succ hlt)
        have h2 := printL_take l (i + 1)
        have h3 := HT.out
        rw [List.length_append] at h1
        omega)
      obtain ⟨x, hx⟩ : ∃ x, l[i] = x := ⟨_, rfl⟩
      rw [hx] at hcell hok HP HL
      obtain ⟨d0, d1, d2, d3⟩ := stepCells hcell
      have HX := Aside0.mk (fun (X : World) (hX : Below wr.heap.size wr X) => stepIs x hok.kind hok.a hok.b hok.text X ((HG.out.below HB.out.below).below hX))
      obtain ⟨t, ht⟩ : ∃ t, stepL x = t := ⟨_, rfl⟩
      rw [ht] at HX HP HL
      clear hx hok hcell ht
      go_wp2_with (first
        | (go_at_call 23; refine (HX.out _ (below_alloc (Below.refl _ _) _)).mono ?_; rintro e W3 ⟨rfl, hb⟩; have HB3 := Aside0.mk (HB.out.step (chain' (below_alloc (Below.refl _ _) _) hb)); clear hb)
        | (go_at_call 22; refine (writeIs HB3.out t HL.out).mono ?_; rintro e W4 ⟨rfl, hb⟩; have HB4 := Aside0.mk hb; clear hb))
      go_roundw
      case rel => exact ⟨i + 1, by omega, by go_num, ⟨by rw [HP.out]; exact HB4.out⟩⟩
      case measure => simp [intOf]; omega
    · obtain rfl : i = l.length := by omega
      have hb := HB.out
      rw [List.take_length] at hb
      have XS := stringIs hb
      clear hb
      go_wp2_with (go_at_call 24; refine XS.mono ?_; rintro e W4 ⟨rfl, hb⟩; have HB4 := Aside0.mk hb; clear hb)
      go_ret
      exact ⟨rfl, HB4.out⟩
end Go.Proofs.YtkcdlfkicopmoaaDoor.Fs
