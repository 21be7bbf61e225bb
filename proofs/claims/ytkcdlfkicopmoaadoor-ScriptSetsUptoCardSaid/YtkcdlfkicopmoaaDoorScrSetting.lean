/- script: Setting. -/
import Derived.Test.YtkcdlfkicopmoaaDoorScrParse
import Derived.Deep.RegionHeld3
namespace Go.Proofs.YtkcdlfkicopmoaaDoor.Fs
open Go.RowKit Go.Proofs.YtkcdlfkicopmoaaDoor Go.Proofs.YtkcdlfkicopmoaaDoor.Plain Go.Proofs.YtkcdlfkicopmoaaDoorW.PrintWords Go.Maps
set_option linter.unusedVariables false
set_option linter.unusedSimpArgs false
structure ConfD where
  host : Nm
  locals : List Nm
  i0 : Int
  i1 : Int
  i2 : Int
  i3 : Int
  i4 : Int
  i5 : Int
  i6 : Int
  i7 : Int
  i8 : Int
  i9 : Int
def ConfD.ints (c : ConfD) : List Int := [c.i0, c.i1, c.i2, c.i3, c.i4, c.i5, c.i6, c.i7, c.i8, c.i9]
structure ConfOk (c : ConfD) : Prop where
  ints : ∀ n ∈ c.ints, I64 n
  host : c.host.length ≤ 536870912
  len : c.locals.length ≤ 536870912
  lens : Lib.lens c.locals ≤ 536870912
def confV (A : Option Addr) (cp : Nat) (c : ConfD) : Array Value := #[.string (S c.host), .slice A c.locals.length cp, .int .i64 c.i0, .int .i64 c.i1, .int .i64 c.i2, .int .i64 c.i3, .int .i64 c.i4, .int .i64 c.i5, .int .i64 c.i6, .int .i64 c.i7, .int .i64 c.i8, .int .i64 c.i9]
/-- a setting's line -/
def settingL (c : ConfD) : Nm := Lib.join (wordsL c.ints [c.host]) [32] ++ [32] ++ lineL [(c.locals.length : Int)] c.locals
theorem confCells {X : World} {b : Nat} {v0 v1 v2 v3 v4 v5 v6 v7 v8 v9 v10 v11 : Value} {t : TypeId} (h : X.heap[b]? = some (.cells #[v0, v1, v2, v3, v4, v5, v6, v7, v8, v9, v10, v11] t (0, 0))) :
    X.cell? ⟨b, 0, none⟩ = some v0 ∧ X.cell? ⟨b, 1, none⟩ = some v1 ∧ X.cell? ⟨b, 2, none⟩ = some v2 ∧ X.cell? ⟨b, 3, none⟩ = some v3 ∧ X.cell? ⟨b, 4, none⟩ = some v4 ∧ X.cell? ⟨b, 5, none⟩ = some v5 ∧ X.cell? ⟨b, 6, none⟩ = some v6 ∧ X.cell? ⟨b, 7, none⟩ = some v7 ∧ X.cell? ⟨b, 8, none⟩ = some v8 ∧ X.cell? ⟨b, 9, none⟩ = some v9 ∧ X.cell? ⟨b, 10, none⟩ = some v10 ∧ X.cell? ⟨b, 11, none⟩ = some v11 := by
  unfold World.cell?
  simp only []
  rw [h]
  exact ⟨rfl, rfl, rfl, rfl, rfl, rfl, rfl, rfl, rfl, rfl, rfl, rfl⟩
theorem trimIs (u : Nm) (hu : u.length ≤ 9223372036854775806) (w : World) : Calls Tryd.prog 29 #[.string (S (u ++ [10])), .string ⟨#[10]⟩] w fun e w' => e = .returned (.string (S u)) ∧ w' = w := by
  have h := Tryd.strings_TrimSuffix (S (u ++ [10])) (S [10]) w (by rw [S_size, List.length_append]; show _ + 1 ≤ _; omega)
  have e : Lib.trimSuffix (u ++ [10]) [10] = u := by
    unfold Lib.trimSuffix Lib.hasSuffix
    simp
  rw [show (S (u ++ [10])).data.toList = u ++ [10] from rfl, show (S [10]).data.toList = [10] from rfl, e] at h
  exact h
theorem lens_one (s : Nm) : Lib.lens [s] = s.length := by simp [Lib.lens]
set_option maxHeartbeats 2000000 in
set_option maxRecDepth 100000 in
theorem settingIs (c : ConfD) (hok : ConfOk c) (A : Option Addr) (cp : Nat) (w W : World) (hW : Below w.heap.size w W) (hA : NamesAt w A c.locals) (hG : GI w) :
    Calls Tryd.prog 14 #[.agg (#[.string (S c.host), .slice A c.locals.length cp, .int .i64 c.i0, .int .i64 c.i1, .int .i64 c.i2, .int .i64 c.i3, .int .i64 c.i4, .int .i64 c.i5, .int .i64 c.i6, .int .i64 c.i7, .int .i64 c.i8, .int .i64 c.i9])] W fun e W' => e = .returned (.string (S (settingL c))) ∧ Below W.heap.size W W' := by
  have HB0 := Aside0.mk (Below.refl W.heap.size W)
  have HG := Aside0.mk (hG.below hW)
  have HA := Aside0.mk (hA.below hW)
  have hH := hok.host
  have hLn := hok.len
  have hl1 := lineL_length c.ints [c.host] hok.ints
  rw [lens_one] at hl1
  have hI1 : I64 (c.locals.length : Int) := ⟨by omega, by omega⟩
  have hl2 := lineL_length [(c.locals.length : Int)] c.locals (by intro n hn; rw [List.mem_singleton] at hn; rw [hn]; exact hI1)
  have hls := hok.lens
  have HL1 := Aside0.mk (fun (X : World) (hX : Below W.heap.size W X) A1 B1 h h' => lineIs A1 10 c.ints B1 1 [c.host] hok.ints (show 10 ≤ 1000000 by omega) (by simp) (by rw [lens_one]; omega) X h h' (HG.out.below hX))
  have HL2 := Aside0.mk (fun (X : World) (hX : Below W.heap.size W X) A1 h => lineIs A1 1 [(c.locals.length : Int)] A cp c.locals (by intro n hn; rw [List.mem_singleton] at hn; rw [hn]; exact hI1) (by simp) (by omega) (by omega) X h (HA.out.below hX) (HG.out.below hX))
  obtain ⟨J, hJ⟩ : ∃ J, Lib.join (wordsL c.ints [c.host]) [32] = J := ⟨_, rfl⟩
  obtain ⟨L2, hL2⟩ : ∃ L2, lineL [(c.locals.length : Int)] c.locals = L2 := ⟨_, rfl⟩
  have hJl : J.length ≤ 4294967296 := by
    rw [lineL_eq, hJ, List.length_append] at hl1
    simp only [ConfD.ints, List.length_cons, List.length_nil] at hl1
    omega
  have hL2l : L2.length ≤ 4294967296 := by
    rw [hL2] at hl2
    simp only [List.length_cons, List.length_nil] at hl2
    omega
  have HSET := Aside0.mk (show settingL c = J ++ [32] ++ L2 by unfold settingL; rw [hJ, hL2])
  rw [lineL_eq, hJ] at HL1
  rw [hL2] at HL2
  have HTR := Aside0.mk (fun X => trimIs J (by omega) X)
  have HH := Aside0.mk (show ∀ s ∈ [c.host], s.length ≤ 140737488351232 by intro s hs; rw [List.mem_singleton] at hs; rw [hs]; omega)
  have HE := Aside0.mk (show S J ++ (⟨#[32]⟩ : ByteArray) ++ S L2 = S (J ++ [32] ++ L2) by rw [show (⟨#[32]⟩ : ByteArray) = S [32] from rfl, S_append, S_append])
  have hc1 : (9223372036854775807 < J.length + 1) = False := by simp; omega
  have hc2 : (9223372036854775807 < J.length + 1 + L2.length) = False := by simp; omega
  clear hok hA hG hW hl1 hl2 hJ hL2 hls hI1 hH
  go_enter Tryd.func14, Tryd.ntmps14
  go_wp2_with (go_at_call 28; refine (HL1.out _ (below_alloc (below_alloc (below_alloc HB0.out _) _) _) _ _ (intsNew (heapAt (by simp) (below_alloc (Below.refl _ _) _)) rfl) (namesNew (heapAt (by simp) (Below.refl _ _)) rfl HH.out)).mono ?_; rintro e W3 ⟨rfl, hb⟩; have hbx := heapAt rfl (chain' (below_alloc (below_alloc (Below.refl _ _) _) _) hb); obtain ⟨-, k1, -, -, -, -, -, -, -, -, -, -⟩ := confCells hbx; have HB3 := Aside0.mk (chain' (below_alloc (below_alloc (below_alloc HB0.out _) _) _) hb); have HX3 := Aside0.mk hbx; clear hb hbx)
  have HS := Aside0.mk (fun (X : World) (hX : Below W3.heap.size W3 X) => (confCells (carry hX HX3.out)).2.1)
  go_region_held3 (fun X => X.cell? ⟨W.heap.size, 1, none⟩ = some (.slice A c.locals.length cp))
    (first | (with_reducible exact k1) | (exact HS.out _ (by repeat (first | exact Below.refl _ _ | exact HB5.out | apply below_drew1 | refine below_alloc ?_ _))) | go_keep)
    (first
      | (go_at_call 29; refine (HTR.out _).mono ?_; rintro e X ⟨rfl, rfl⟩)
      | (go_at_call 28; refine (HL2.out _ (chain' HB3.out (W1 := W3) (by repeat (first | exact Below.refl _ _ | apply below_drew1 | refine below_alloc ?_ _))) _ (intsNew (heapAt rfl (by repeat (first | exact Below.refl _ _ | apply below_drew1))) rfl)).mono ?_; rintro e W5 ⟨rfl, hb⟩; have HB5 := Aside0.mk (chain' (W := W3) (by repeat (first | exact Below.refl _ _ | apply below_drew1 | refine below_alloc ?_ _)) hb); clear hb))
  all_goals
    go_wp2
    go_ret
    refine ⟨?_, chain' HB3.out HB5.out⟩
    rw [HSET.out]
    exact congrArg (fun s => Ending.returned (.string s)) HE.out
end Go.Proofs.YtkcdlfkicopmoaaDoor.Fs
