/- script: Hex. -/
import Derived.Test.YtkcdlfkicopmoaaDoorByteRow
import Derived.Test.YtkcdlfkicopmoaaDoorStrRow
import Derived.Test.YtkcdlfkicopmoaaDoorScrPure
import Derived.Test.YtkcdlfkicopmoaaDoorScrGlob
namespace Go.Proofs.YtkcdlfkicopmoaaDoor.Fs
open Go.RowKit Go.Proofs.YtkcdlfkicopmoaaDoor Go.Proofs.YtkcdlfkicopmoaaDoor.Plain Go.Proofs.YtkcdlfkicopmoaaDoorW.PrintWords Go.Maps
set_option linter.unusedVariables false
set_option linter.unusedSimpArgs false
def sixteen : Nm := [48, 49, 50, 51, 52, 53, 54, 55, 56, 57, 97, 98, 99, 100, 101, 102]
theorem hexAt (q : Nat) (h : q < 16) : ∀ pf, (⟨#[48, 49, 50, 51, 52, 53, 54, 55, 56, 57, 97, 98, 99, 100, 101, 102]⟩ : ByteArray)[q]'pf = hexd q := by
  have hq : q = 0 ∨ q = 1 ∨ q = 2 ∨ q = 3 ∨ q = 4 ∨ q = 5 ∨ q = 6 ∨ q = 7 ∨ q = 8 ∨ q = 9 ∨ q = 10 ∨ q = 11 ∨ q = 12 ∨ q = 13 ∨ q = 14 ∨ q = 15 := by omega
  rcases hq with rfl | rfl | rfl | rfl | rfl | rfl | rfl | rfl | rfl | rfl | rfl | rfl | rfl | rfl | rfl | rfl
  all_goals exact fun _ => rfl
theorem and15 (n : Nat) (h : n < 256) : bits BinOp.and IntKind.u8 (n : Int) 15 = ((n % 16 : Nat) : Int) := by
  have key : ∀ m : Fin 256, bits BinOp.and IntKind.u8 ((m : Nat) : Int) 15 = (((m : Nat) % 16 : Nat) : Int) := by decide +kernel
  exact key ⟨n, h⟩
theorem pairNew (w : World) (x y : UInt8) (t : TypeId) : ∀ j z, (byts [x, y])[j]? = some z → (w.alloc (.cells #[.int .u8 (x.toNat : Int), .int .u8 (y.toNat : Int)] t)).drew.cell? ((⟨w.heap.size, 0, none⟩ : Addr).add j) = some z := by
  intro j z hz
  have hj : j < 2 := by
    rcases Nat.lt_or_ge j 2 with h | h
    · exact h
    · rw [List.getElem?_eq_none (by simpa [byts] using h)] at hz; cases hz
  have h := heap_alloc_new w (.cells #[.int .u8 (x.toNat : Int), .int .u8 (y.toNat : Int)] t)
  have e : (⟨w.heap.size, 0, none⟩ : Addr).add j = ⟨w.heap.size, j, none⟩ := by unfold Addr.add; split <;> simp_all
  rw [e]
  show (w.alloc (.cells #[.int .u8 (x.toNat : Int), .int .u8 (y.toNat : Int)] t)).cell? _ = _
  unfold World.cell?
  simp only []
  rw [h]
  rw [← hz]
  have : j = 0 ∨ j = 1 := by omega
  rcases this with rfl | rfl <;> rfl
set_option maxHeartbeats 1000000 in
set_option maxRecDepth 100000 in
theorem hexIs (u : Nm) (hu : u.length ≤ 1073741824) (w : World) : Calls Tryd.prog 20 #[.string (S u)] w fun e W' => e = .returned (.string (S (hexL u))) ∧ Below w.heap.size w W' := by
  have HB0 := Aside0.mk (Below.refl w.heap.size w)
  go_enter Tryd.func20, Tryd.ntmps20
  go_wp2
  go_loopw [3, 4, 7] (fun v3 v4 v7 wr => ∃ i : Nat, i ≤ u.length ∧ v7 = .int .i64 i ∧ Aside0 (BRow w v3 (hexL (u.take i)) wr)) (fun _ _ v7 _ => u.length - (intOf v7).toNat)
  case atStart => exact ⟨0, by omega, rfl, ⟨BRow.nil (Below.refl _ _)⟩⟩
  case round =>
    obtain ⟨i, hi, rfl, HR⟩ := hrel
    by_cases hlt : i < u.length
    · obtain ⟨b, hb⟩ : ∃ b, u[i] = b := ⟨_, rfl⟩
      have hgb : ∀ pf, (S u)[i]'pf = b := fun _ => hb
      have hblt := b.toNat_lt
      obtain ⟨q, hq⟩ : ∃ q : Nat, b.toNat / 16 = q := ⟨_, rfl⟩
      obtain ⟨r, hr⟩ : ∃ r : Nat, b.toNat % 16 = r := ⟨_, rfl⟩
      have hq1 : (b.toNat : Int) / 16 = (q : Int) := by omega
      have hq2 : (q : Int) < 16 := by omega
      have hq0 : (0 : Int) ≤ (q : Int) := by omega
      have hr2 : (r : Int) < 16 := by omega
      have hr0 : (0 : Int) ≤ (r : Int) := by omega
      have hv1 := hexAt q (by omega)
      have hv2 := hexAt r (by omega)
      have HS := Aside0.mk (show hexL (u.take (i + 1)) = hexL (u.take i) ++ [hexd q, hexd r] by rw [List.take_add_one, List.getElem?_eq_getElem hlt, hb, ← hq, ← hr]; exact hexL_snoc _ _)
      have hand : bits BinOp.and IntKind.u8 (b.toNat : Int) 15 = (r : Int) := by rw [and15 _ hblt, hr]
      have HLE := Aside0.mk (show (hexL (u.take i)).length + ([hexd q, hexd r] : Nm).length ≤ 140737488355328 by rw [hexL_length, List.length_take]; simp only [List.length_cons, List.length_nil]; omega)
      clear hb hblt hq hr
      go_wp2
      go_region_law (first
        | (refine step_appendB (HR.out.step (by repeat (first | exact Below.refl _ _ | apply below_drew1 | refine below_alloc ?_ _))) [hexd q, hexd r] HLE.out rfl (.tmp 10) (.tmp 21) rfl (by simp [Act.eval, Act.put]) ⟨wr.heap.size, 0, none⟩ 2 2 (by simp [Act.eval, Act.put]) rfl (pairNew _ _ _ _) ?_; rintro v1 W4 h; have HR4 := Aside0.mk h; clear h))
      all_goals
        go_wp2
        go_roundw
        case rel => exact ⟨i + 1, by omega, by go_num, ⟨by rw [HS.out]; exact HR4.out⟩⟩
        case measure => simp [intOf]; omega
    · obtain rfl : i = u.length := by omega
      obtain ⟨A3, c3, hv3⟩ := HR.out.slice
      have hlen := hexL_length u
      have HR2 := HR.out
      rw [List.take_length] at HR2
      subst hv3
      rw [List.take_length] at HR2 ⊢
      have HX := Aside0.mk HR2
      have hcv := convB (c := c3) (HR2.reads (by omega)).1 rfl
      clear HR2 HR hlen
      go_wp2
      go_ret
      exact ⟨rfl, HX.out.below⟩
end Go.Proofs.YtkcdlfkicopmoaaDoor.Fs
