/- law04: answers. -/
import Derived.Test.YtibmgcihpbofdaaFsB3
namespace Go.Proofs.Ytibmgcihpbofdaa.Fs
open Go.RowKit Go.Proofs.Ytibmgcihpbofdaa Go.Proofs.Ytibmgcihpbofdaa.Plain Go.Proofs.YtibmgcihpbofdaaW.PrintWords Go.Maps
set_option linter.unusedVariables false
set_option linter.unusedSimpArgs false
theorem FsAt.turn {w0 W W' : World} {f : Nat} {d : Disk} {N : Nat} {T T' : Nat → Prop} (h : FsAt w0 f d N T W) : Below w0.heap.size w0 W := h.below'
def ansD1 (x : Nat) : Disk := { Disk.fresh 100 with bytes := setAt (fun _ => []) x [], firm := setAt (fun _ => 0) x 0, loose := [.create [97] x] }
def ansD2 (x : Nat) : Disk := { ansD1 x with bytes := setAt (ansD1 x).bytes x [7] }
theorem ans1 (x : Nat) : (Disk.fresh 100).create x [97] = (0, ansD1 x) := rfl
theorem ansNow (x : Nat) : (ansD1 x).now = [([97], x)] := rfl
theorem ans2 (x : Nat) : (ansD1 x).append [97] [7] = (0, ansD2 x) := by
  have e : get (ansD1 x).now [97] = some x := rfl
  have e2 : used (ansD1 x).bytes (ansD1 x).now = 0 := by rw [ansNow]; simp [used, ansD1, setAt_same]
  have e3 : (ansD1 x).bytes x = [] := by simp [ansD1, setAt_same]
  unfold Disk.append
  rw [if_neg (show ¬ (ansD1 x).ready [[97]] ≠ 0 from fun h => h rfl), e]
  simp only []
  rw [e2, e3]
  rfl
theorem ans3 (x : Nat) : (ansD2 x).read [97] = ([7], 0) := by
  have e : get (ansD2 x).now [97] = some x := rfl
  unfold Disk.read
  rw [if_neg (show ¬ (ansD2 x).ready [[97]] ≠ 0 from fun h => h rfl), e]
  simp [ansD2, setAt_same]
theorem ans4 (x : Nat) : used (ansD2 x).bytes (ansD2 x).now = 1 := by
  have : (ansD2 x).now = [([97], x)] := rfl
  rw [this]; simp [used, ansD2, setAt_same]
theorem ans5 (x : Nat) : (ansD2 x).append [98] [] = (4, ansD2 x) := rfl
theorem ansData (W : World) : ReadsInt (W.alloc (.cells #[.int .u8 7] 5)) .u8 (some ⟨W.heap.size, 0, none⟩) (B [7]).length (B [7]) := by
  refine ⟨rfl, by decide, fun _ => ⟨_, rfl, fun j hj => ?_⟩⟩
  have hj' : j < 1 := hj
  obtain rfl : j = 0 := by omega
  have h := heap_alloc_new W (.cells #[.int .u8 7] 5)
  show (World.cell? _ ⟨W.heap.size, 0, none⟩) = _
  unfold World.cell?
  rw [h]
  rfl
theorem ansRead {W W' : World} {v : Value} {base : Nat} (h : W.ownsRow base 5 1 v (B [7]).length (nums .u8 (B [7]))) (hb : Below W.heap.size W W') : ∃ g c, v = .slice (some ⟨g, 0, none⟩) 1 c ∧ W'.cell? ⟨g, 0, none⟩ = some (.int .u8 7) := by
  obtain ⟨A, c, rfl⟩ := own_slice h
  rcases h.2 with ⟨_, h0⟩ | ⟨g, cap, cur, e, _, hh, hn, hc, hs, ht⟩
  · simp [B] at h0
  · injection e with e1 e2 e3
    subst e1 e3
    have hg : g < W.heap.size := (Array.getElem?_eq_some_iff.1 hh).1
    refine ⟨g, _, rfl, ?_⟩
    unfold World.cell?
    rw [hb.block g hg, hh]
    have h1 : cur.toList.take 1 = [.int .u8 7] := ht
    have h2 : cur.toList[0]? = some (.int .u8 7) := by
      have : (cur.toList.take 1)[0]? = some (Value.int .u8 7) := by rw [h1]; rfl
      rwa [List.getElem?_take_of_lt (by omega)] at this
    simpa using h2
theorem ansLoose {w0 W : World} {f x N : Nat} {T : Nat → Prop} (h : FsAt w0 f (ansD2 x) N T W) : Calls Try.prog 32 #[.pointer (some ⟨f, 0, none⟩)] W fun e W' => e = .returned (.int .i64 1) ∧ W' = W := loose h
set_option maxHeartbeats 1000000 in
set_option maxRecDepth 100000 in
theorem answers (W : World) : Calls Try.prog 11 #[] W fun e W' => e = .returned (.bool true) ∧ Below W.heap.size W W' := by
  have X0 := new (Below.refl W.heap.size W) 100
  go_enter Try.func11, Try.ntmps11
  go_wp2_with (first
    | (go_at_call 12; refine X0.mono ?_; rintro e W1 ⟨f, T, rfl, h1, -, -⟩; clear X0; have H1 := Aside0.mk h1; clear h1)
    | (go_at_call 13; refine (show Calls _ _ #[_, .string ⟨#[97]⟩] _ _ from create H1.out (by omega) [97] (by simp)).mono ?_; rintro e W2 ⟨x, -, rfl, T2, h2, -⟩; rw [ans1] at h2 ⊢; have H2 := Aside0.mk h2; clear h2)
    | (go_at_call 14; refine (show Calls _ _ #[_, .string ⟨#[98]⟩, .slice none 0 0] _ _ from append H5.out [98] (by simp) [] (by simp) none 0 0 rfl ⟨rfl, by decide, fun h => absurd h (by decide)⟩).mono ?_; rintro e W7 ⟨rfl, T7, h7, -⟩; rw [ans5] at h7 ⊢; have H7 := Aside0.mk h7; clear h7)
    | (go_at_call 14; refine (show Calls _ _ #[_, .string ⟨#[97]⟩, .slice _ 1 1] _ _ from append (H2.out.step (below_alloc (Below.refl _ _) _)) [97] (by simp) [7] (by simp) _ 1 1 rfl (ansData W2)).mono ?_; rintro e W3 ⟨rfl, T3, h3, -⟩; rw [ans2] at h3 ⊢; have H3 := Aside0.mk h3; clear h3)
    | (go_at_call 16; refine (show Calls _ _ #[_, .string ⟨#[97]⟩] _ _ from read H3.out (by simp) [97] (by simp)).mono ?_; rintro e W4 ⟨v, rfl, hown, hB4⟩; rw [ans3] at hown ⊢; obtain ⟨g, c, rfl, hcell⟩ := ansRead hown (Below.refl _ _); have H4 := Aside0.mk (H3.out.step hB4); clear hB4 hown)
    | (go_at_call 25; refine (usedIs H4.out (by simp)).mono ?_; rintro e W5 ⟨rfl, hB5⟩; rw [ans4]; have H5 := Aside0.mk (H4.out.step hB5); clear hB5 hcell)
    | (go_at_call 32; refine (ansLoose H5.out).mono ?_; rintro e W6 ⟨rfl, rfl⟩))
  go_ret
  exact ⟨rfl, H7.out.below'⟩
end Go.Proofs.Ytibmgcihpbofdaa.Fs
