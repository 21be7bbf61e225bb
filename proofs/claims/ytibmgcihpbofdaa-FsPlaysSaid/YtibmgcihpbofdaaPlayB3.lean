/- ref01: Do, kind 1. Printed by genplaydo.py. ref01: Do, kind 2. Printed by genplaydo.py. ref01: Do, kind 3. Printed by genplaydo.py. ref01: Do, kind 4. Printed by genplaydo.py. ref01: Do, kind 5. Printed by genplaydo.py. ref01: Do, kind 6. Printed by genplaydo.py. ref01: Do, kind 7. Printed by genplaydo.py. ref01: Do, kind 8. Printed by genplaydo.py. ref01: Do, whatever it is asked. -/
import Derived.Test.YtibmgcihpbofdaaPlayB2
namespace Go.Proofs.Ytibmgcihpbofdaa.Fs
open Go.RowKit Go.Proofs.Ytibmgcihpbofdaa Go.Proofs.Ytibmgcihpbofdaa.Plain Go.Proofs.YtibmgcihpbofdaaW.PrintWords Go.Maps
set_option linter.unusedVariables false
set_option linter.unusedSimpArgs false
set_option maxHeartbeats 4000000 in
set_option maxRecDepth 100000 in
theorem do1bad {w0 W : World} {r : Nat} {d : RDisk} {R : Nat → Prop} {N : Nat} (h : RAt w0 r d R W) (hok : ROk d N) (hN : N ≤ 900000) (a b : Nm) (ha : a.length ≤ 140737488351232) (hb : b.length ≤ 140737488351232) (u : List UInt8) (A : Option Addr) (cc : Nat) (hrd : ReadsInt w0 .u8 A (B u).length (B u)) (hul : u.length ≤ 1000) (hra : rightB a = false) :
    Calls Try.prog 29 #[.pointer (some ⟨r, 0, none⟩), .int .i64 1, .string (S a), .string (S b), .slice A u.length cc] W fun e W' => e = .returned (.int .i64 1) ∧ RTurn w0 r d R W W' := by
  have H := Aside0.mk h
  obtain ⟨vs, vl, vf, fl, c0⟩ := h
  have HC := Aside0.mk c0
  have HCL := Aside0.mk (fun X (hX : Below W.heap.size W X) => (c0.step hX).cells)
  have HOK := Aside0.mk hok
  have HN := Aside0.mk hN
  have HRD := Aside0.mk (fun X (hX : Below w0.heap.size w0 X) => hrd.below hX)
  have HB0 := Aside0.mk (Below.refl W.heap.size W)
  have RA := Aside0.mk (refName a ha)
  have RB := Aside0.mk (refName b hb)
  obtain ⟨-, -, -, c3, -, c5⟩ := c0.cells
  have HRA := Aside0.mk hra
  clear hra
  clear c0 hok hrd hN
  go_enter Try.func29, Try.ntmps29
  go_wp2_with (go_at_call 10; refine (RA.out _).mono ?_; rintro e W1 ⟨rfl, hd⟩; rw [HRA.out]; have HB1 := Aside0.mk (chain' HB0.out hd.below); clear hd; clear c3 c5; obtain ⟨-, -, -, c3, -, c5⟩ := HCL.out _ HB1.out; clear RA)
  go_ret
  exact ⟨rfl, R, H.out.step (chain' HB1.out (by repeat (first | exact Below.refl _ _ | apply below_drew1 | apply pw_below_drewN | refine below_alloc ?_ _))), Turn.of_below (chain' HB1.out (by repeat (first | exact Below.refl _ _ | apply below_drew1 | apply pw_below_drewN | refine below_alloc ?_ _)))⟩
set_option maxHeartbeats 4000000 in
set_option maxRecDepth 100000 in
theorem do1off {w0 W : World} {r : Nat} {d : RDisk} {R : Nat → Prop} {N : Nat} (h : RAt w0 r d R W) (hok : ROk d N) (hN : N ≤ 900000) (a b : Nm) (ha : a.length ≤ 140737488351232) (hb : b.length ≤ 140737488351232) (u : List UInt8) (A : Option Addr) (cc : Nat) (hrd : ReadsInt w0 .u8 A (B u).length (B u)) (hul : u.length ≤ 1000) (hra : rightB a = true) (hoff : d.off = true) :
    Calls Try.prog 29 #[.pointer (some ⟨r, 0, none⟩), .int .i64 1, .string (S a), .string (S b), .slice A u.length cc] W fun e W' => e = .returned (.int .i64 2) ∧ RTurn w0 r d R W W' := by
  have H := Aside0.mk h
  obtain ⟨vs, vl, vf, fl, c0⟩ := h
  have HC := Aside0.mk c0
  have HCL := Aside0.mk (fun X (hX : Below W.heap.size W X) => (c0.step hX).cells)
  have HOK := Aside0.mk hok
  have HN := Aside0.mk hN
  have HRD := Aside0.mk (fun X (hX : Below w0.heap.size w0 X) => hrd.below hX)
  have HB0 := Aside0.mk (Below.refl W.heap.size W)
  have RA := Aside0.mk (refName a ha)
  have RB := Aside0.mk (refName b hb)
  obtain ⟨-, -, -, c3, -, c5⟩ := c0.cells
  have HRA := Aside0.mk hra
  clear hra
  rw [hoff] at c5
  have HOFF := Aside0.mk hoff
  clear hoff
  clear c0 hok hrd hN
  go_enter Try.func29, Try.ntmps29
  go_wp2_with (go_at_call 10; refine (RA.out _).mono ?_; rintro e W1 ⟨rfl, hd⟩; rw [HRA.out]; have HB1 := Aside0.mk (chain' HB0.out hd.below); clear hd; clear c3 c5; obtain ⟨-, -, -, c3, -, c5⟩ := HCL.out _ HB1.out; rw [HOFF.out] at c5; clear RA)
  go_ret
  exact ⟨rfl, R, H.out.step (chain' HB1.out (by repeat (first | exact Below.refl _ _ | apply below_drew1 | apply pw_below_drewN | refine below_alloc ?_ _))), Turn.of_below (chain' HB1.out (by repeat (first | exact Below.refl _ _ | apply below_drew1 | apply pw_below_drewN | refine below_alloc ?_ _)))⟩
set_option maxHeartbeats 4000000 in
set_option maxRecDepth 100000 in
theorem do1there {w0 W : World} {r : Nat} {d : RDisk} {R : Nat → Prop} {N : Nat} (h : RAt w0 r d R W) (hok : ROk d N) (hN : N ≤ 900000) (a b : Nm) (ha : a.length ≤ 140737488351232) (hb : b.length ≤ 140737488351232) (u : List UInt8) (A : Option Addr) (cc : Nat) (hrd : ReadsInt w0 .u8 A (B u).length (B u)) (hul : u.length ≤ 1000) (hra : rightB a = true) (hoff : d.off = false) (i : Nat) (hg : get d.dir a = some i) :
    Calls Try.prog 29 #[.pointer (some ⟨r, 0, none⟩), .int .i64 1, .string (S a), .string (S b), .slice A u.length cc] W fun e W' => e = .returned (.int .i64 5) ∧ RTurn w0 r d R W W' := by
  have H := Aside0.mk h
  obtain ⟨vs, vl, vf, fl, c0⟩ := h
  have HC := Aside0.mk c0
  have HCL := Aside0.mk (fun X (hX : Below W.heap.size W X) => (c0.step hX).cells)
  have HOK := Aside0.mk hok
  have HN := Aside0.mk hN
  have HRD := Aside0.mk (fun X (hX : Below w0.heap.size w0 X) => hrd.below hX)
  have HB0 := Aside0.mk (Below.refl W.heap.size W)
  have RA := Aside0.mk (refName a ha)
  have RB := Aside0.mk (refName b hb)
  obtain ⟨-, -, -, c3, -, c5⟩ := c0.cells
  have HRA := Aside0.mk hra
  clear hra
  rw [hoff] at c5
  have HOFF := Aside0.mk hoff
  clear hoff
  have HG := Aside0.mk hg
  have hgi : i < d.files.length := hok.live i (live_get hok.ok hg)
  have HGI := Aside0.mk hgi
  have hil : i ≤ 1000000 := by have := hok.many.2; omega
  clear hgi
  clear hg
  clear c0 hok hrd hN
  go_enter Try.func29, Try.ntmps29
  go_wp2_with (first
    | (go_at_call 10; refine (RA.out _).mono ?_; rintro e W1 ⟨rfl, hd⟩; rw [HRA.out]; have HB1 := Aside0.mk (chain' HB0.out hd.below); clear hd; clear c3 c5; obtain ⟨-, -, -, c3, -, c5⟩ := HCL.out _ HB1.out; rw [HOFF.out] at c5; clear RA)
    | (go_at_call 45; refine (hasIs (H.out.step HB1.out) HOK.out (by have := HN.out; omega) a).mono ?_; rintro e W5 ⟨rfl, hbb⟩; rw [HG.out]; simp only [fileI]; have HB5 := Aside0.mk (chain' HB1.out hbb); clear hbb; clear c3 c5; obtain ⟨-, -, -, c3, -, c5⟩ := HCL.out _ HB5.out; rw [HOFF.out] at c5))
  go_ret
  exact ⟨rfl, R, H.out.step (chain' HB5.out (by repeat (first | exact Below.refl _ _ | apply below_drew1 | apply pw_below_drewN | refine below_alloc ?_ _))), Turn.of_below (chain' HB5.out (by repeat (first | exact Below.refl _ _ | apply below_drew1 | apply pw_below_drewN | refine below_alloc ?_ _)))⟩
set_option maxHeartbeats 4000000 in
set_option maxRecDepth 100000 in
theorem do1full {w0 W : World} {r : Nat} {d : RDisk} {R : Nat → Prop} {N : Nat} (h : RAt w0 r d R W) (hok : ROk d N) (hN : N ≤ 900000) (a b : Nm) (ha : a.length ≤ 140737488351232) (hb : b.length ≤ 140737488351232) (u : List UInt8) (A : Option Addr) (cc : Nat) (hrd : ReadsInt w0 .u8 A (B u).length (B u)) (hul : u.length ≤ 1000) (hra : rightB a = true) (hoff : d.off = false) (hg : get d.dir a = none) (hfull : d.dir.length ≥ 256) :
    Calls Try.prog 29 #[.pointer (some ⟨r, 0, none⟩), .int .i64 1, .string (S a), .string (S b), .slice A u.length cc] W fun e W' => e = .returned (.int .i64 3) ∧ RTurn w0 r d R W W' := by
  have H := Aside0.mk h
  obtain ⟨vs, vl, vf, fl, c0⟩ := h
  have HC := Aside0.mk c0
  have HCL := Aside0.mk (fun X (hX : Below W.heap.size W X) => (c0.step hX).cells)
  have HOK := Aside0.mk hok
  have HN := Aside0.mk hN
  have HRD := Aside0.mk (fun X (hX : Below w0.heap.size w0 X) => hrd.below hX)
  have HB0 := Aside0.mk (Below.refl W.heap.size W)
  have RA := Aside0.mk (refName a ha)
  have RB := Aside0.mk (refName b hb)
  obtain ⟨-, -, -, c3, -, c5⟩ := c0.cells
  have HRA := Aside0.mk hra
  clear hra
  rw [hoff] at c5
  have HOFF := Aside0.mk hoff
  clear hoff
  have HG := Aside0.mk hg
  clear hg
  obtain ⟨n, hn⟩ : ∃ n, d.dir.length = n := ⟨_, rfl⟩
  have HDN := Aside0.mk hn
  have hfu : (n : Int) ≥ 256 := by omega
  clear hfull hn
  clear c0 hok hrd hN
  go_enter Try.func29, Try.ntmps29
  go_wp2_with (first
    | (go_at_call 10; refine (RA.out _).mono ?_; rintro e W1 ⟨rfl, hd⟩; rw [HRA.out]; have HB1 := Aside0.mk (chain' HB0.out hd.below); clear hd; clear c3 c5; obtain ⟨-, -, -, c3, -, c5⟩ := HCL.out _ HB1.out; rw [HOFF.out] at c5; clear RA)
    | (go_at_call 45; refine (hasIs (H.out.step HB1.out) HOK.out (by have := HN.out; omega) a).mono ?_; rintro e W5 ⟨rfl, hbb⟩; rw [HG.out]; simp only [fileI]; have HB5 := Aside0.mk (chain' HB1.out hbb); clear hbb; clear c3 c5; obtain ⟨-, -, -, c3, -, c5⟩ := HCL.out _ HB5.out; rw [HOFF.out] at c5))
  refine wp_region_any (by kernel_rfl) ?_
  try (change wpAny _ _ _ _ _ _ _ (World.drew _))
  refine wpAny_take (i := 0) (v := ?_) rfl (by kernel_rfl) (by kernel_rfl) (by kernel_rfl) (fun _ _ _ h => h) (Or.inl ⟨by rfl, ?_⟩) ?_
  rotate_left
  · intro w; go_simp <;> with_reducible rfl
  go_simp
  refine wpAny_take (i := 1) (v := ?_) rfl (by kernel_rfl) (by kernel_rfl) (by kernel_rfl) (fun _ _ _ h => h) (Or.inl ⟨by rfl, ?_⟩) ?_
  rotate_left
  · intro w; go_simp <;> with_reducible rfl
  go_simp
  refine wpAny_take (i := 2) (v := ?_) rfl (by kernel_rfl) (by kernel_rfl) (by kernel_rfl) (fun _ _ _ h => h) (Or.inl ⟨by rfl, ?_⟩) ?_
  rotate_left
  · intro w; go_simp <;> with_reducible rfl
  go_simp
  refine wpAny_take (i := 3) (v := ?_) rfl (by kernel_rfl) (by kernel_rfl) (by kernel_rfl) (fun _ _ _ h => h) (Or.inl ⟨by rfl, ?_⟩) ?_
  rotate_left
  · intro w; go_simp <;> with_reducible rfl
  go_simp
  refine wpAny_ready (rs := [4]) (by kernel_rfl) (by simp) ?_
  refine AllReady.cons rfl (fun K hK => ?_) (AllReady.nil)
  go_simp
  go_at_call 46
  refine (dirIs (H.out.step (chain' HB5.out (by repeat (first | exact Below.refl _ _ | apply below_drew1 | refine below_alloc ?_ _)))) HOK.out (by have := HN.out; omega)).mono ?_
  rintro e W6 ⟨v6, rfl, hD⟩
  have HB6 := Aside0.mk (chain' HB5.out (chain' (W := W5) (by repeat (first | exact Below.refl _ _ | apply below_drew1 | refine below_alloc ?_ _)) hD.below))
  obtain ⟨A6, c6, rfl⟩ := hD.slice
  rw [HDN.out]
  clear hD
  try go_simp
  refine hK _ _ ?_
  clear hK K
  try go_simp
  refine wpAny_take (i := 5) (v := ?_) rfl (by kernel_rfl) (by kernel_rfl) (by kernel_rfl) (fun _ _ _ h => h) (Or.inl ⟨by rfl, ?_⟩) ?_
  rotate_left
  · intro w; go_simp <;> with_reducible rfl
  go_simp
  refine wpAny_take (i := 6) (v := ?_) rfl (by kernel_rfl) (by kernel_rfl) (by kernel_rfl) (fun _ _ _ h => h) (Or.inl ⟨by rfl, ?_⟩) ?_
  rotate_left
  · intro w; go_simp <;> with_reducible rfl
  go_simp
  refine wpAny_take (i := 7) (v := ?_) rfl (by kernel_rfl) (by kernel_rfl) (by kernel_rfl) (fun _ _ _ h => h) (Or.inl ⟨by rfl, ?_⟩) ?_
  rotate_left
  · intro w; go_simp <;> with_reducible rfl
  go_simp
  refine wpAny_take (i := 8) (v := ?_) rfl (by kernel_rfl) (by kernel_rfl) (by kernel_rfl) (fun _ _ _ h => h) (Or.inl ⟨by rfl, ?_⟩) ?_
  rotate_left
  · intro w; go_simp <;> with_reducible rfl
  go_simp
  refine wpAny_take (i := 9) (v := undef) rfl (by kernel_rfl) (by kernel_rfl) (by kernel_rfl) (fun _ _ _ h => h) (Or.inr ⟨by rfl, rfl⟩) ?_
  go_simp
  refine wpAny_take (i := 10) (v := undef) rfl (by kernel_rfl) (by kernel_rfl) (by kernel_rfl) (fun _ _ _ h => h) (Or.inr ⟨by rfl, rfl⟩) ?_
  go_simp
  refine wpAny_take (i := 11) (v := undef) rfl (by kernel_rfl) (by kernel_rfl) (by kernel_rfl) (fun _ _ _ h => h) (Or.inr ⟨by rfl, rfl⟩) ?_
  go_simp
  refine wpAny_take (i := 12) (v := undef) rfl (by kernel_rfl) (by kernel_rfl) (by kernel_rfl) (fun _ _ _ h => h) (Or.inr ⟨by rfl, rfl⟩) ?_
  go_simp
  refine wpAny_take (i := 13) (v := undef) rfl (by kernel_rfl) (by kernel_rfl) (by kernel_rfl) (fun _ _ _ h => h) (Or.inr ⟨by rfl, rfl⟩) ?_
  go_simp
  refine wpAny_take (i := 14) (v := undef) rfl (by kernel_rfl) (by kernel_rfl) (by kernel_rfl) (fun _ _ _ h => h) (Or.inr ⟨by rfl, rfl⟩) ?_
  go_simp
  refine wpAny_take (i := 15) (v := undef) rfl (by kernel_rfl) (by kernel_rfl) (by kernel_rfl) (fun _ _ _ h => h) (Or.inr ⟨by rfl, rfl⟩) ?_
  go_simp
  refine wpAny_take (i := 16) (v := undef) rfl (by kernel_rfl) (by kernel_rfl) (by kernel_rfl) (fun _ _ _ h => h) (Or.inr ⟨by rfl, rfl⟩) ?_
  go_simp
  refine wpAny_take (i := 17) (v := undef) rfl (by kernel_rfl) (by kernel_rfl) (by kernel_rfl) (fun _ _ _ h => h) (Or.inr ⟨by rfl, rfl⟩) ?_
  go_simp
  refine wpAny_take (i := 18) (v := undef) rfl (by kernel_rfl) (by kernel_rfl) (by kernel_rfl) (fun _ _ _ h => h) (Or.inr ⟨by rfl, rfl⟩) ?_
  go_simp
  refine wpAny_take (i := 19) (v := undef) rfl (by kernel_rfl) (by kernel_rfl) (by kernel_rfl) (fun _ _ _ h => h) (Or.inr ⟨by rfl, rfl⟩) ?_
  go_simp
  refine wpAny_take (i := 20) (v := undef) rfl (by kernel_rfl) (by kernel_rfl) (by kernel_rfl) (fun _ _ _ h => h) (Or.inr ⟨by rfl, rfl⟩) ?_
  go_simp
  refine wpAny_take (i := 21) (v := undef) rfl (by kernel_rfl) (by kernel_rfl) (by kernel_rfl) (fun _ _ _ h => h) (Or.inr ⟨by rfl, rfl⟩) ?_
  go_simp
  refine wpAny_take (i := 22) (v := undef) rfl (by kernel_rfl) (by kernel_rfl) (by kernel_rfl) (fun _ _ _ h => h) (Or.inr ⟨by rfl, rfl⟩) ?_
  go_simp
  refine wpAny_take (i := 23) (v := ?_) rfl (by kernel_rfl) (by kernel_rfl) (by kernel_rfl) (fun _ _ _ h => h) (Or.inl ⟨by rfl, ?_⟩) ?_
  rotate_left
  · intro w; go_simp <;> with_reducible rfl
  go_simp
  refine wpAny_done (by kernel_rfl) ?_ _
  go_wp2
  go_ret
  exact ⟨rfl, R, H.out.step (chain' HB6.out (by repeat (first | exact Below.refl _ _ | apply below_drew1 | apply pw_below_drewN | refine below_alloc ?_ _))), Turn.of_below (chain' HB6.out (by repeat (first | exact Below.refl _ _ | apply below_drew1 | apply pw_below_drewN | refine below_alloc ?_ _)))⟩
  -- END
set_option maxHeartbeats 4000000 in
set_option maxRecDepth 100000 in
theorem do1down {w0 W : World} {r : Nat} {d : RDisk} {R : Nat → Prop} {N : Nat} (h : RAt w0 r d R W) (hok : ROk d N) (hN : N ≤ 900000) (a b : Nm) (ha : a.length ≤ 140737488351232) (hb : b.length ≤ 140737488351232) (u : List UInt8) (A : Option Addr) (cc : Nat) (hrd : ReadsInt w0 .u8 A (B u).length (B u)) (hul : u.length ≤ 1000) (hra : rightB a = true) (hoff : d.off = false) (hg : get d.dir a = none) (hnf : ¬ d.dir.length ≥ 256) (hpw : d.power.1 = false) :
    Calls Try.prog 29 #[.pointer (some ⟨r, 0, none⟩), .int .i64 1, .string (S a), .string (S b), .slice A u.length cc] W fun e W' => e = .returned (.int .i64 2) ∧ RTurn w0 r d.power.2 R W W' := by
  have H := Aside0.mk h
  obtain ⟨vs, vl, vf, fl, c0⟩ := h
  have HC := Aside0.mk c0
  have HCL := Aside0.mk (fun X (hX : Below W.heap.size W X) => (c0.step hX).cells)
  have HOK := Aside0.mk hok
  have HN := Aside0.mk hN
  have HRD := Aside0.mk (fun X (hX : Below w0.heap.size w0 X) => hrd.below hX)
  have HB0 := Aside0.mk (Below.refl W.heap.size W)
  have RA := Aside0.mk (refName a ha)
  have RB := Aside0.mk (refName b hb)
  obtain ⟨-, -, -, c3, -, c5⟩ := c0.cells
  have HRA := Aside0.mk hra
  clear hra
  rw [hoff] at c5
  have HOFF := Aside0.mk hoff
  clear hoff
  have HG := Aside0.mk hg
  clear hg
  have HPW := Aside0.mk hpw
  clear hpw
  obtain ⟨n, hn⟩ : ∃ n, d.dir.length = n := ⟨_, rfl⟩
  have HDN := Aside0.mk hn
  have hfu : ((256 : Int) ≤ (n : Int)) = False := by simp only [eq_iff_iff, iff_false]; omega
  clear hnf hn
  clear c0 hok hrd hN
  go_enter Try.func29, Try.ntmps29
  go_wp2_with (first
    | (go_at_call 10; refine (RA.out _).mono ?_; rintro e W1 ⟨rfl, hd⟩; rw [HRA.out]; have HB1 := Aside0.mk (chain' HB0.out hd.below); clear hd; clear c3 c5; obtain ⟨-, -, -, c3, -, c5⟩ := HCL.out _ HB1.out; rw [HOFF.out] at c5; clear RA)
    | (go_at_call 45; refine (hasIs (H.out.step HB1.out) HOK.out (by have := HN.out; omega) a).mono ?_; rintro e W5 ⟨rfl, hbb⟩; rw [HG.out]; simp only [fileI]; have HB5 := Aside0.mk (chain' HB1.out hbb); clear hbb; clear c3 c5; obtain ⟨-, -, -, c3, -, c5⟩ := HCL.out _ HB5.out; rw [HOFF.out] at c5))
  refine wp_region_any (by kernel_rfl) ?_
  try (change wpAny _ _ _ _ _ _ _ (World.drew _))
  refine wpAny_take (i := 0) (v := ?_) rfl (by kernel_rfl) (by kernel_rfl) (by kernel_rfl) (fun _ _ _ h => h) (Or.inl ⟨by rfl, ?_⟩) ?_
  rotate_left
  · intro w; go_simp <;> with_reducible rfl
  go_simp
  refine wpAny_take (i := 1) (v := ?_) rfl (by kernel_rfl) (by kernel_rfl) (by kernel_rfl) (fun _ _ _ h => h) (Or.inl ⟨by rfl, ?_⟩) ?_
  rotate_left
  · intro w; go_simp <;> with_reducible rfl
  go_simp
  refine wpAny_take (i := 2) (v := ?_) rfl (by kernel_rfl) (by kernel_rfl) (by kernel_rfl) (fun _ _ _ h => h) (Or.inl ⟨by rfl, ?_⟩) ?_
  rotate_left
  · intro w; go_simp <;> with_reducible rfl
  go_simp
  refine wpAny_take (i := 3) (v := ?_) rfl (by kernel_rfl) (by kernel_rfl) (by kernel_rfl) (fun _ _ _ h => h) (Or.inl ⟨by rfl, ?_⟩) ?_
  rotate_left
  · intro w; go_simp <;> with_reducible rfl
  go_simp
  refine wpAny_ready (rs := [4]) (by kernel_rfl) (by simp) ?_
  refine AllReady.cons rfl (fun K hK => ?_) (AllReady.nil)
  go_simp
  go_at_call 46
  refine (dirIs (H.out.step (chain' HB5.out (by repeat (first | exact Below.refl _ _ | apply below_drew1 | refine below_alloc ?_ _)))) HOK.out (by have := HN.out; omega)).mono ?_
  rintro e W6 ⟨v6, rfl, hD⟩
  have HB6 := Aside0.mk (chain' HB5.out (chain' (W := W5) (by repeat (first | exact Below.refl _ _ | apply below_drew1 | refine below_alloc ?_ _)) hD.below))
  obtain ⟨A6, c6, rfl⟩ := hD.slice
  rw [HDN.out]
  clear hD
  try go_simp
  refine hK _ _ ?_
  clear hK K
  try go_simp
  refine wpAny_take (i := 5) (v := ?_) rfl (by kernel_rfl) (by kernel_rfl) (by kernel_rfl) (fun _ _ _ h => h) (Or.inl ⟨by rfl, ?_⟩) ?_
  rotate_left
  · intro w; go_simp <;> with_reducible rfl
  go_simp
  refine wpAny_take (i := 6) (v := ?_) rfl (by kernel_rfl) (by kernel_rfl) (by kernel_rfl) (fun _ _ _ h => h) (Or.inl ⟨by rfl, ?_⟩) ?_
  rotate_left
  · intro w; go_simp <;> with_reducible rfl
  go_simp
  refine wpAny_take (i := 7) (v := ?_) rfl (by kernel_rfl) (by kernel_rfl) (by kernel_rfl) (fun _ _ _ h => h) (Or.inl ⟨by rfl, ?_⟩) ?_
  rotate_left
  · intro w; go_simp <;> with_reducible rfl
  go_simp
  refine wpAny_take (i := 8) (v := ?_) rfl (by kernel_rfl) (by kernel_rfl) (by kernel_rfl) (fun _ _ _ h => h) (Or.inl ⟨by rfl, ?_⟩) ?_
  rotate_left
  · intro w; go_simp <;> with_reducible rfl
  go_simp
  refine wpAny_take (i := 9) (v := ?_) rfl (by kernel_rfl) (by kernel_rfl) (by kernel_rfl) (fun _ _ _ h => h) (Or.inl ⟨by rfl, ?_⟩) ?_
  rotate_left
  · intro w; go_simp <;> with_reducible rfl
  go_simp
  refine wpAny_take (i := 10) (v := ?_) rfl (by kernel_rfl) (by kernel_rfl) (by kernel_rfl) (fun _ _ _ h => h) (Or.inl ⟨by rfl, ?_⟩) ?_
  rotate_left
  · intro w; go_simp <;> with_reducible rfl
  go_simp
  refine wpAny_take (i := 11) (v := ?_) rfl (by kernel_rfl) (by kernel_rfl) (by kernel_rfl) (fun _ _ _ h => h) (Or.inl ⟨by rfl, ?_⟩) ?_
  rotate_left
  · intro w; go_simp <;> with_reducible rfl
  go_simp
  refine wpAny_take (i := 12) (v := undef) rfl (by kernel_rfl) (by kernel_rfl) (by kernel_rfl) (fun _ _ _ h => h) (Or.inr ⟨by rfl, rfl⟩) ?_
  go_simp
  refine wpAny_take (i := 13) (v := undef) rfl (by kernel_rfl) (by kernel_rfl) (by kernel_rfl) (fun _ _ _ h => h) (Or.inr ⟨by rfl, rfl⟩) ?_
  go_simp
  refine wpAny_take (i := 14) (v := undef) rfl (by kernel_rfl) (by kernel_rfl) (by kernel_rfl) (fun _ _ _ h => h) (Or.inr ⟨by rfl, rfl⟩) ?_
  go_simp
  refine wpAny_take (i := 15) (v := undef) rfl (by kernel_rfl) (by kernel_rfl) (by kernel_rfl) (fun _ _ _ h => h) (Or.inr ⟨by rfl, rfl⟩) ?_
  go_simp
  refine wpAny_take (i := 16) (v := undef) rfl (by kernel_rfl) (by kernel_rfl) (by kernel_rfl) (fun _ _ _ h => h) (Or.inr ⟨by rfl, rfl⟩) ?_
  go_simp
  refine wpAny_take (i := 17) (v := undef) rfl (by kernel_rfl) (by kernel_rfl) (by kernel_rfl) (fun _ _ _ h => h) (Or.inr ⟨by rfl, rfl⟩) ?_
  go_simp
  refine wpAny_take (i := 18) (v := undef) rfl (by kernel_rfl) (by kernel_rfl) (by kernel_rfl) (fun _ _ _ h => h) (Or.inr ⟨by rfl, rfl⟩) ?_
  go_simp
  refine wpAny_take (i := 19) (v := undef) rfl (by kernel_rfl) (by kernel_rfl) (by kernel_rfl) (fun _ _ _ h => h) (Or.inr ⟨by rfl, rfl⟩) ?_
  go_simp
  refine wpAny_take (i := 20) (v := undef) rfl (by kernel_rfl) (by kernel_rfl) (by kernel_rfl) (fun _ _ _ h => h) (Or.inr ⟨by rfl, rfl⟩) ?_
  go_simp
  refine wpAny_take (i := 21) (v := undef) rfl (by kernel_rfl) (by kernel_rfl) (by kernel_rfl) (fun _ _ _ h => h) (Or.inr ⟨by rfl, rfl⟩) ?_
  go_simp
  refine wpAny_take (i := 22) (v := ?_) rfl (by kernel_rfl) (by kernel_rfl) (by kernel_rfl) (fun _ _ _ h => h) (Or.inl ⟨by rfl, ?_⟩) ?_
  rotate_left
  · intro w; go_simp <;> with_reducible rfl
  go_simp
  refine wpAny_take (i := 23) (v := ?_) rfl (by kernel_rfl) (by kernel_rfl) (by kernel_rfl) (fun _ _ _ h => h) (Or.inl ⟨by rfl, ?_⟩) ?_
  rotate_left
  · intro w; go_simp <;> with_reducible rfl
  go_simp
  refine wpAny_done (by kernel_rfl) ?_ _
  go_wp2_with (go_at_call 48; refine (powerR (H.out.step (chain' HB6.out (by repeat (first | exact Below.refl _ _ | apply below_drew1 | apply pw_below_drewN | refine below_alloc ?_ _)))) HOK.out.fuse).mono ?_; rintro e W7 ⟨rfl, R7, hA7, ht7⟩; rw [HPW.out]; have HT7 := Aside0.mk ((Turn.of_below (T := R) (chain' HB6.out (by repeat (first | exact Below.refl _ _ | apply below_drew1 | apply pw_below_drewN | refine below_alloc ?_ _)))).trans ht7); clear ht7; have HA7 := Aside0.mk hA7; clear hA7)
  go_ret
  exact ⟨rfl, _, HA7.out, HT7.out⟩
  -- END
end Go.Proofs.Ytibmgcihpbofdaa.Fs
namespace Go.Proofs.Ytibmgcihpbofdaa.Fs
open Go.RowKit Go.Proofs.Ytibmgcihpbofdaa Go.Proofs.Ytibmgcihpbofdaa.Plain Go.Proofs.YtibmgcihpbofdaaW.PrintWords Go.Maps
set_option linter.unusedVariables false
set_option linter.unusedSimpArgs false
set_option maxHeartbeats 4000000 in
set_option maxRecDepth 100000 in
theorem do2bad {w0 W : World} {r : Nat} {d : RDisk} {R : Nat → Prop} {N : Nat} (h : RAt w0 r d R W) (hok : ROk d N) (hN : N ≤ 900000) (a b : Nm) (ha : a.length ≤ 140737488351232) (hb : b.length ≤ 140737488351232) (u : List UInt8) (A : Option Addr) (cc : Nat) (hrd : ReadsInt w0 .u8 A (B u).length (B u)) (hul : u.length ≤ 1000) (hra : rightB a = false) :
    Calls Try.prog 29 #[.pointer (some ⟨r, 0, none⟩), .int .i64 2, .string (S a), .string (S b), .slice A u.length cc] W fun e W' => e = .returned (.int .i64 1) ∧ RTurn w0 r d R W W' := by
  have H := Aside0.mk h
  obtain ⟨vs, vl, vf, fl, c0⟩ := h
  have HC := Aside0.mk c0
  have HCL := Aside0.mk (fun X (hX : Below W.heap.size W X) => (c0.step hX).cells)
  have HOK := Aside0.mk hok
  have HN := Aside0.mk hN
  have HRD := Aside0.mk (fun X (hX : Below w0.heap.size w0 X) => hrd.below hX)
  have HB0 := Aside0.mk (Below.refl W.heap.size W)
  have RA := Aside0.mk (refName a ha)
  have RB := Aside0.mk (refName b hb)
  obtain ⟨-, -, -, c3, -, c5⟩ := c0.cells
  have HRA := Aside0.mk hra
  clear hra
  clear c0 hok hrd hN
  go_enter Try.func29, Try.ntmps29
  go_wp2_with (go_at_call 10; refine (RA.out _).mono ?_; rintro e W1 ⟨rfl, hd⟩; rw [HRA.out]; have HB1 := Aside0.mk (chain' HB0.out hd.below); clear hd; clear c3 c5; obtain ⟨-, -, -, c3, -, c5⟩ := HCL.out _ HB1.out; clear RA)
  go_ret
  exact ⟨rfl, R, H.out.step (chain' HB1.out (by repeat (first | exact Below.refl _ _ | apply below_drew1 | apply pw_below_drewN | refine below_alloc ?_ _))), Turn.of_below (chain' HB1.out (by repeat (first | exact Below.refl _ _ | apply below_drew1 | apply pw_below_drewN | refine below_alloc ?_ _)))⟩
set_option maxHeartbeats 4000000 in
set_option maxRecDepth 100000 in
theorem do2off {w0 W : World} {r : Nat} {d : RDisk} {R : Nat → Prop} {N : Nat} (h : RAt w0 r d R W) (hok : ROk d N) (hN : N ≤ 900000) (a b : Nm) (ha : a.length ≤ 140737488351232) (hb : b.length ≤ 140737488351232) (u : List UInt8) (A : Option Addr) (cc : Nat) (hrd : ReadsInt w0 .u8 A (B u).length (B u)) (hul : u.length ≤ 1000) (hra : rightB a = true) (hoff : d.off = true) :
    Calls Try.prog 29 #[.pointer (some ⟨r, 0, none⟩), .int .i64 2, .string (S a), .string (S b), .slice A u.length cc] W fun e W' => e = .returned (.int .i64 2) ∧ RTurn w0 r d R W W' := by
  have H := Aside0.mk h
  obtain ⟨vs, vl, vf, fl, c0⟩ := h
  have HC := Aside0.mk c0
  have HCL := Aside0.mk (fun X (hX : Below W.heap.size W X) => (c0.step hX).cells)
  have HOK := Aside0.mk hok
  have HN := Aside0.mk hN
  have HRD := Aside0.mk (fun X (hX : Below w0.heap.size w0 X) => hrd.below hX)
  have HB0 := Aside0.mk (Below.refl W.heap.size W)
  have RA := Aside0.mk (refName a ha)
  have RB := Aside0.mk (refName b hb)
  obtain ⟨-, -, -, c3, -, c5⟩ := c0.cells
  have HRA := Aside0.mk hra
  clear hra
  rw [hoff] at c5
  have HOFF := Aside0.mk hoff
  clear hoff
  clear c0 hok hrd hN
  go_enter Try.func29, Try.ntmps29
  go_wp2_with (go_at_call 10; refine (RA.out _).mono ?_; rintro e W1 ⟨rfl, hd⟩; rw [HRA.out]; have HB1 := Aside0.mk (chain' HB0.out hd.below); clear hd; clear c3 c5; obtain ⟨-, -, -, c3, -, c5⟩ := HCL.out _ HB1.out; rw [HOFF.out] at c5; clear RA)
  go_ret
  exact ⟨rfl, R, H.out.step (chain' HB1.out (by repeat (first | exact Below.refl _ _ | apply below_drew1 | apply pw_below_drewN | refine below_alloc ?_ _))), Turn.of_below (chain' HB1.out (by repeat (first | exact Below.refl _ _ | apply below_drew1 | apply pw_below_drewN | refine below_alloc ?_ _)))⟩
set_option maxHeartbeats 4000000 in
set_option maxRecDepth 100000 in
theorem do2none {w0 W : World} {r : Nat} {d : RDisk} {R : Nat → Prop} {N : Nat} (h : RAt w0 r d R W) (hok : ROk d N) (hN : N ≤ 900000) (a b : Nm) (ha : a.length ≤ 140737488351232) (hb : b.length ≤ 140737488351232) (u : List UInt8) (A : Option Addr) (cc : Nat) (hrd : ReadsInt w0 .u8 A (B u).length (B u)) (hul : u.length ≤ 1000) (hra : rightB a = true) (hoff : d.off = false) (hg : get d.dir a = none) :
    Calls Try.prog 29 #[.pointer (some ⟨r, 0, none⟩), .int .i64 2, .string (S a), .string (S b), .slice A u.length cc] W fun e W' => e = .returned (.int .i64 4) ∧ RTurn w0 r d R W W' := by
  have H := Aside0.mk h
  obtain ⟨vs, vl, vf, fl, c0⟩ := h
  have HC := Aside0.mk c0
  have HCL := Aside0.mk (fun X (hX : Below W.heap.size W X) => (c0.step hX).cells)
  have HOK := Aside0.mk hok
  have HN := Aside0.mk hN
  have HRD := Aside0.mk (fun X (hX : Below w0.heap.size w0 X) => hrd.below hX)
  have HB0 := Aside0.mk (Below.refl W.heap.size W)
  have RA := Aside0.mk (refName a ha)
  have RB := Aside0.mk (refName b hb)
  obtain ⟨-, -, -, c3, -, c5⟩ := c0.cells
  have HRA := Aside0.mk hra
  clear hra
  rw [hoff] at c5
  have HOFF := Aside0.mk hoff
  clear hoff
  have HG := Aside0.mk hg
  clear hg
  clear c0 hok hrd hN
  go_enter Try.func29, Try.ntmps29
  go_wp2_with (first
    | (go_at_call 10; refine (RA.out _).mono ?_; rintro e W1 ⟨rfl, hd⟩; rw [HRA.out]; have HB1 := Aside0.mk (chain' HB0.out hd.below); clear hd; clear c3 c5; obtain ⟨-, -, -, c3, -, c5⟩ := HCL.out _ HB1.out; rw [HOFF.out] at c5; clear RA)
    | (go_at_call 45; refine (hasIs (H.out.step HB1.out) HOK.out (by have := HN.out; omega) a).mono ?_; rintro e W5 ⟨rfl, hbb⟩; rw [HG.out]; simp only [fileI]; have HB5 := Aside0.mk (chain' HB1.out hbb); clear hbb; clear c3 c5; obtain ⟨-, -, -, c3, -, c5⟩ := HCL.out _ HB5.out; rw [HOFF.out] at c5))
  go_ret
  exact ⟨rfl, R, H.out.step (chain' HB5.out (by repeat (first | exact Below.refl _ _ | apply below_drew1 | apply pw_below_drewN | refine below_alloc ?_ _))), Turn.of_below (chain' HB5.out (by repeat (first | exact Below.refl _ _ | apply below_drew1 | apply pw_below_drewN | refine below_alloc ?_ _)))⟩
set_option maxHeartbeats 4000000 in
set_option maxRecDepth 100000 in
theorem do2full {w0 W : World} {r : Nat} {d : RDisk} {R : Nat → Prop} {N : Nat} (h : RAt w0 r d R W) (hok : ROk d N) (hN : N ≤ 900000) (a b : Nm) (ha : a.length ≤ 140737488351232) (hb : b.length ≤ 140737488351232) (u : List UInt8) (A : Option Addr) (cc : Nat) (hrd : ReadsInt w0 .u8 A (B u).length (B u)) (hul : u.length ≤ 1000) (hra : rightB a = true) (hoff : d.off = false) (i : Nat) (hg : get d.dir a = some i) (hfull : (u.length : Int) > d.room - (d.used : Int)) :
    Calls Try.prog 29 #[.pointer (some ⟨r, 0, none⟩), .int .i64 2, .string (S a), .string (S b), .slice A u.length cc] W fun e W' => e = .returned (.int .i64 3) ∧ RTurn w0 r d R W W' := by
  have H := Aside0.mk h
  obtain ⟨vs, vl, vf, fl, c0⟩ := h
  have HC := Aside0.mk c0
  have HCL := Aside0.mk (fun X (hX : Below W.heap.size W X) => (c0.step hX).cells)
  have HOK := Aside0.mk hok
  have HN := Aside0.mk hN
  have HRD := Aside0.mk (fun X (hX : Below w0.heap.size w0 X) => hrd.below hX)
  have HB0 := Aside0.mk (Below.refl W.heap.size W)
  have RA := Aside0.mk (refName a ha)
  have RB := Aside0.mk (refName b hb)
  obtain ⟨-, -, -, c3, -, c5⟩ := c0.cells
  have HRA := Aside0.mk hra
  clear hra
  rw [hoff] at c5
  have HOFF := Aside0.mk hoff
  clear hoff
  have HG := Aside0.mk hg
  have hgi : i < d.files.length := hok.live i (live_get hok.ok hg)
  have HGI := Aside0.mk hgi
  have hil : i ≤ 1000000 := by have := hok.many.2; omega
  clear hgi
  clear hg
  obtain ⟨U, hU⟩ : ∃ U, d.used = U := ⟨_, rfl⟩
  have HUN := Aside0.mk hU
  obtain ⟨ro, hro⟩ : ∃ ro, d.room = ro := ⟨_, rfl⟩
  rw [hU, hro] at hfull
  rw [hro] at c3
  have HRO := Aside0.mk hro
  have hul2 : (U : Int) ≤ 9000000000000 := by rw [← hU]; exact usedLe hok hN
  have hror : 0 ≤ ro ∧ ro ≤ 16777216 := by rw [← hro]; exact hok.room
  have hwr : IntKind.i64.wrap (ro - (U : Int)) = ro - (U : Int) := IntWalk.i64_in _ (by omega)
  clear hU hro hror hul2
  clear c0 hok hrd hN
  go_enter Try.func29, Try.ntmps29
  go_wp2_with (first
    | (go_at_call 10; refine (RA.out _).mono ?_; rintro e W1 ⟨rfl, hd⟩; rw [HRA.out]; have HB1 := Aside0.mk (chain' HB0.out hd.below); clear hd; clear c3 c5; obtain ⟨-, -, -, c3, -, c5⟩ := HCL.out _ HB1.out; rw [HOFF.out] at c5; rw [HRO.out] at c3; clear RA)
    | (go_at_call 45; refine (hasIs (H.out.step HB1.out) HOK.out (by have := HN.out; omega) a).mono ?_; rintro e W5 ⟨rfl, hbb⟩; rw [HG.out]; simp only [fileI]; have HB5 := Aside0.mk (chain' HB1.out hbb); clear hbb; clear c3 c5; obtain ⟨-, -, -, c3, -, c5⟩ := HCL.out _ HB5.out; rw [HOFF.out] at c5; rw [HRO.out] at c3))
  refine wp_region_any (by kernel_rfl) ?_
  try (change wpAny _ _ _ _ _ _ _ (World.drew _))
  refine wpAny_take (i := 0) (v := ?_) rfl (by kernel_rfl) (by kernel_rfl) (by kernel_rfl) (fun _ _ _ h => h) (Or.inl ⟨by rfl, ?_⟩) ?_
  rotate_left
  · intro w; go_simp <;> with_reducible rfl
  go_simp
  refine wpAny_take (i := 1) (v := ?_) rfl (by kernel_rfl) (by kernel_rfl) (by kernel_rfl) (fun _ _ _ h => h) (Or.inl ⟨by rfl, ?_⟩) ?_
  rotate_left
  · intro w; go_simp <;> with_reducible rfl
  go_simp
  refine wpAny_take (i := 2) (v := ?_) rfl (by kernel_rfl) (by kernel_rfl) (by kernel_rfl) (fun _ _ _ h => h) (Or.inl ⟨by rfl, ?_⟩) ?_
  rotate_left
  · intro w; go_simp <;> with_reducible rfl
  go_simp
  refine wpAny_take (i := 3) (v := undef) rfl (by kernel_rfl) (by kernel_rfl) (by kernel_rfl) (fun _ _ _ h => h) (Or.inr ⟨by rfl, rfl⟩) ?_
  go_simp
  refine wpAny_take (i := 4) (v := undef) rfl (by kernel_rfl) (by kernel_rfl) (by kernel_rfl) (fun _ _ _ h => h) (Or.inr ⟨by rfl, rfl⟩) ?_
  go_simp
  refine wpAny_take (i := 5) (v := undef) rfl (by kernel_rfl) (by kernel_rfl) (by kernel_rfl) (fun _ _ _ h => h) (Or.inr ⟨by rfl, rfl⟩) ?_
  go_simp
  refine wpAny_take (i := 6) (v := undef) rfl (by kernel_rfl) (by kernel_rfl) (by kernel_rfl) (fun _ _ _ h => h) (Or.inr ⟨by rfl, rfl⟩) ?_
  go_simp
  refine wpAny_take (i := 7) (v := ?_) rfl (by kernel_rfl) (by kernel_rfl) (by kernel_rfl) (fun _ _ _ h => h) (Or.inl ⟨by rfl, ?_⟩) ?_
  rotate_left
  · intro w; go_simp <;> with_reducible rfl
  go_simp
  refine wpAny_take (i := 8) (v := ?_) rfl (by kernel_rfl) (by kernel_rfl) (by kernel_rfl) (fun _ _ _ h => h) (Or.inl ⟨by rfl, ?_⟩) ?_
  rotate_left
  · intro w; go_simp <;> with_reducible rfl
  go_simp
  refine wpAny_take (i := 9) (v := ?_) rfl (by kernel_rfl) (by kernel_rfl) (by kernel_rfl) (fun _ _ _ h => h) (Or.inl ⟨by rfl, ?_⟩) ?_
  rotate_left
  · intro w; go_simp <;> with_reducible rfl
  go_simp
  refine wpAny_take (i := 10) (v := ?_) rfl (by kernel_rfl) (by kernel_rfl) (by kernel_rfl) (fun _ _ _ h => h) (Or.inl ⟨by rfl, ?_⟩) ?_
  rotate_left
  · intro w; go_simp <;> with_reducible rfl
  go_simp
  refine wpAny_take (i := 11) (v := ?_) rfl (by kernel_rfl) (by kernel_rfl) (by kernel_rfl) (fun _ _ _ h => h) (Or.inl ⟨by rfl, ?_⟩) ?_
  rotate_left
  · intro w; go_simp <;> with_reducible rfl
  go_simp
  refine wpAny_take (i := 12) (v := ?_) rfl (by kernel_rfl) (by kernel_rfl) (by kernel_rfl) (fun _ _ _ h => h) (Or.inl ⟨by rfl, ?_⟩) ?_
  rotate_left
  · intro w; go_simp <;> with_reducible rfl
  go_simp
  refine wpAny_take (i := 13) (v := ?_) rfl (by kernel_rfl) (by kernel_rfl) (by kernel_rfl) (fun _ _ _ h => h) (Or.inl ⟨by rfl, ?_⟩) ?_
  rotate_left
  · intro w; go_simp <;> with_reducible rfl
  go_simp
  refine wpAny_take (i := 14) (v := ?_) rfl (by kernel_rfl) (by kernel_rfl) (by kernel_rfl) (fun _ _ _ h => h) (Or.inl ⟨by rfl, ?_⟩) ?_
  rotate_left
  · intro w; go_simp <;> with_reducible rfl
  go_simp
  refine wpAny_take (i := 15) (v := ?_) rfl (by kernel_rfl) (by kernel_rfl) (by kernel_rfl) (fun _ _ _ h => h) (Or.inl ⟨by rfl, ?_⟩) ?_
  rotate_left
  · intro w; go_simp <;> with_reducible rfl
  go_simp
  refine wpAny_take (i := 16) (v := ?_) rfl (by kernel_rfl) (by kernel_rfl) (by kernel_rfl) (fun _ _ _ h => h) (Or.inl ⟨by rfl, ?_⟩) ?_
  rotate_left
  · intro w; go_simp <;> with_reducible rfl
  go_simp
  refine wpAny_take (i := 18) (v := ?_) rfl (by kernel_rfl) (by kernel_rfl) (by kernel_rfl) (fun _ _ _ h => h) (Or.inl ⟨by rfl, ?_⟩) ?_
  rotate_left
  · intro w; go_simp <;> with_reducible rfl
  go_simp
  refine wpAny_ready (rs := [17, 19]) (by kernel_rfl) (by simp) ?_
  refine AllReady.cons rfl (fun K hK => ?_) ?_
  · skip
    go_simp
    try go_simp
    refine hK _ _ ?_
    clear hK K
    try go_simp
    refine wpAny_ready (rs := [19]) (by kernel_rfl) (by simp) ?_
    refine AllReady.cons rfl (fun K hK => ?_) (AllReady.nil)
    go_simp
    go_at_call 47
    refine (usedR (H.out.step (chain' HB5.out (by repeat (first | exact Below.refl _ _ | apply below_drew1 | refine below_alloc ?_ _)))) HOK.out (by have := HN.out; omega)).mono ?_
    rintro e W6 ⟨rfl, hD⟩
    have HB6 := Aside0.mk (chain' HB5.out (chain' (W := W5) (by repeat (first | exact Below.refl _ _ | apply below_drew1 | refine below_alloc ?_ _)) hD))
    rw [HUN.out]
    clear hD c3 c5
    obtain ⟨-, -, -, c3, -, c5⟩ := HCL.out _ HB6.out; rw [HOFF.out] at c5; rw [HRO.out] at c3
    try go_simp
    refine hK _ _ ?_
    clear hK K
    try go_simp
    refine wpAny_take (i := 20) (v := ?_) rfl (by kernel_rfl) (by kernel_rfl) (by kernel_rfl) (fun _ _ _ h => h) (Or.inl ⟨by rfl, ?_⟩) ?_
    rotate_left
    · intro w; go_simp <;> with_reducible rfl
    go_simp
    refine wpAny_take (i := 21) (v := ?_) rfl (by kernel_rfl) (by kernel_rfl) (by kernel_rfl) (fun _ _ _ h => h) (Or.inl ⟨by rfl, ?_⟩) ?_
    rotate_left
    · intro w; go_simp <;> with_reducible rfl
    go_simp
    refine wpAny_take (i := 22) (v := ?_) rfl (by kernel_rfl) (by kernel_rfl) (by kernel_rfl) (fun _ _ _ h => h) (Or.inl ⟨by rfl, ?_⟩) ?_
    rotate_left
    · intro w; go_simp <;> with_reducible rfl
    go_simp
    refine wpAny_take (i := 23) (v := ?_) rfl (by kernel_rfl) (by kernel_rfl) (by kernel_rfl) (fun _ _ _ h => h) (Or.inl ⟨by rfl, ?_⟩) ?_
    rotate_left
    · intro w; go_simp <;> with_reducible rfl
    go_simp
    refine wpAny_done (by kernel_rfl) ?_ _
    go_wp2
    go_ret
    exact ⟨rfl, R, H.out.step (chain' HB6.out (by repeat (first | exact Below.refl _ _ | apply below_drew1 | apply pw_below_drewN | refine below_alloc ?_ _))), Turn.of_below (chain' HB6.out (by repeat (first | exact Below.refl _ _ | apply below_drew1 | apply pw_below_drewN | refine below_alloc ?_ _)))⟩
  refine AllReady.cons rfl (fun K hK => ?_) ?_
  · skip
    go_simp
    go_at_call 47
    refine (usedR (H.out.step (chain' HB5.out (by repeat (first | exact Below.refl _ _ | apply below_drew1 | refine below_alloc ?_ _)))) HOK.out (by have := HN.out; omega)).mono ?_
    rintro e W6 ⟨rfl, hD⟩
    have HB6 := Aside0.mk (chain' HB5.out (chain' (W := W5) (by repeat (first | exact Below.refl _ _ | apply below_drew1 | refine below_alloc ?_ _)) hD))
    rw [HUN.out]
    clear hD c3 c5
    obtain ⟨-, -, -, c3, -, c5⟩ := HCL.out _ HB6.out; rw [HOFF.out] at c5; rw [HRO.out] at c3
    try go_simp
    refine hK _ _ ?_
    clear hK K
    try go_simp
    refine wpAny_ready (rs := [17]) (by kernel_rfl) (by simp) ?_
    refine AllReady.cons rfl (fun K hK => ?_) (AllReady.nil)
    go_simp
    try go_simp
    refine hK _ _ ?_
    clear hK K
    try go_simp
    refine wpAny_take (i := 20) (v := ?_) rfl (by kernel_rfl) (by kernel_rfl) (by kernel_rfl) (fun _ _ _ h => h) (Or.inl ⟨by rfl, ?_⟩) ?_
    rotate_left
    · intro w; go_simp <;> with_reducible rfl
    go_simp
    refine wpAny_take (i := 21) (v := ?_) rfl (by kernel_rfl) (by kernel_rfl) (by kernel_rfl) (fun _ _ _ h => h) (Or.inl ⟨by rfl, ?_⟩) ?_
    rotate_left
    · intro w; go_simp <;> with_reducible rfl
    go_simp
    refine wpAny_take (i := 22) (v := ?_) rfl (by kernel_rfl) (by kernel_rfl) (by kernel_rfl) (fun _ _ _ h => h) (Or.inl ⟨by rfl, ?_⟩) ?_
    rotate_left
    · intro w; go_simp <;> with_reducible rfl
    go_simp
    refine wpAny_take (i := 23) (v := ?_) rfl (by kernel_rfl) (by kernel_rfl) (by kernel_rfl) (fun _ _ _ h => h) (Or.inl ⟨by rfl, ?_⟩) ?_
    rotate_left
    · intro w; go_simp <;> with_reducible rfl
    go_simp
    refine wpAny_done (by kernel_rfl) ?_ _
    go_wp2
    go_ret
    exact ⟨rfl, R, H.out.step (chain' HB6.out (by repeat (first | exact Below.refl _ _ | apply below_drew1 | apply pw_below_drewN | refine below_alloc ?_ _))), Turn.of_below (chain' HB6.out (by repeat (first | exact Below.refl _ _ | apply below_drew1 | apply pw_below_drewN | refine below_alloc ?_ _)))⟩
  exact AllReady.nil
  -- END
set_option maxHeartbeats 4000000 in
set_option maxRecDepth 100000 in
theorem do2down {w0 W : World} {r : Nat} {d : RDisk} {R : Nat → Prop} {N : Nat} (h : RAt w0 r d R W) (hok : ROk d N) (hN : N ≤ 900000) (a b : Nm) (ha : a.length ≤ 140737488351232) (hb : b.length ≤ 140737488351232) (u : List UInt8) (A : Option Addr) (cc : Nat) (hrd : ReadsInt w0 .u8 A (B u).length (B u)) (hul : u.length ≤ 1000) (hra : rightB a = true) (hoff : d.off = false) (i : Nat) (hg : get d.dir a = some i) (hfull : ¬ (u.length : Int) > d.room - (d.used : Int)) (hpw : d.power.1 = false) :
    Calls Try.prog 29 #[.pointer (some ⟨r, 0, none⟩), .int .i64 2, .string (S a), .string (S b), .slice A u.length cc] W fun e W' => e = .returned (.int .i64 2) ∧ RTurn w0 r d.power.2 R W W' := by
  have H := Aside0.mk h
  obtain ⟨vs, vl, vf, fl, c0⟩ := h
  have HC := Aside0.mk c0
  have HCL := Aside0.mk (fun X (hX : Below W.heap.size W X) => (c0.step hX).cells)
  have HOK := Aside0.mk hok
  have HN := Aside0.mk hN
  have HRD := Aside0.mk (fun X (hX : Below w0.heap.size w0 X) => hrd.below hX)
  have HB0 := Aside0.mk (Below.refl W.heap.size W)
  have RA := Aside0.mk (refName a ha)
  have RB := Aside0.mk (refName b hb)
  obtain ⟨-, -, -, c3, -, c5⟩ := c0.cells
  have HRA := Aside0.mk hra
  clear hra
  rw [hoff] at c5
  have HOFF := Aside0.mk hoff
  clear hoff
  have HG := Aside0.mk hg
  have hgi : i < d.files.length := hok.live i (live_get hok.ok hg)
  have HGI := Aside0.mk hgi
  have hil : i ≤ 1000000 := by have := hok.many.2; omega
  clear hgi
  clear hg
  have HPW := Aside0.mk hpw
  clear hpw
  obtain ⟨U, hU⟩ : ∃ U, d.used = U := ⟨_, rfl⟩
  have HUN := Aside0.mk hU
  obtain ⟨ro, hro⟩ : ∃ ro, d.room = ro := ⟨_, rfl⟩
  rw [hU, hro] at hfull
  rw [hro] at c3
  have HRO := Aside0.mk hro
  have hul2 : (U : Int) ≤ 9000000000000 := by rw [← hU]; exact usedLe hok hN
  have hror : 0 ≤ ro ∧ ro ≤ 16777216 := by rw [← hro]; exact hok.room
  have hwr : IntKind.i64.wrap (ro - (U : Int)) = ro - (U : Int) := IntWalk.i64_in _ (by omega)
  clear hU hro hror hul2
  clear c0 hok hrd hN
  go_enter Try.func29, Try.ntmps29
  go_wp2_with (first
    | (go_at_call 10; refine (RA.out _).mono ?_; rintro e W1 ⟨rfl, hd⟩; rw [HRA.out]; have HB1 := Aside0.mk (chain' HB0.out hd.below); clear hd; clear c3 c5; obtain ⟨-, -, -, c3, -, c5⟩ := HCL.out _ HB1.out; rw [HOFF.out] at c5; rw [HRO.out] at c3; clear RA)
    | (go_at_call 45; refine (hasIs (H.out.step HB1.out) HOK.out (by have := HN.out; omega) a).mono ?_; rintro e W5 ⟨rfl, hbb⟩; rw [HG.out]; simp only [fileI]; have HB5 := Aside0.mk (chain' HB1.out hbb); clear hbb; clear c3 c5; obtain ⟨-, -, -, c3, -, c5⟩ := HCL.out _ HB5.out; rw [HOFF.out] at c5; rw [HRO.out] at c3))
  refine wp_region_any (by kernel_rfl) ?_
  try (change wpAny _ _ _ _ _ _ _ (World.drew _))
  refine wpAny_take (i := 0) (v := ?_) rfl (by kernel_rfl) (by kernel_rfl) (by kernel_rfl) (fun _ _ _ h => h) (Or.inl ⟨by rfl, ?_⟩) ?_
  rotate_left
  · intro w; go_simp <;> with_reducible rfl
  go_simp
  refine wpAny_take (i := 1) (v := ?_) rfl (by kernel_rfl) (by kernel_rfl) (by kernel_rfl) (fun _ _ _ h => h) (Or.inl ⟨by rfl, ?_⟩) ?_
  rotate_left
  · intro w; go_simp <;> with_reducible rfl
  go_simp
  refine wpAny_take (i := 2) (v := ?_) rfl (by kernel_rfl) (by kernel_rfl) (by kernel_rfl) (fun _ _ _ h => h) (Or.inl ⟨by rfl, ?_⟩) ?_
  rotate_left
  · intro w; go_simp <;> with_reducible rfl
  go_simp
  refine wpAny_take (i := 3) (v := undef) rfl (by kernel_rfl) (by kernel_rfl) (by kernel_rfl) (fun _ _ _ h => h) (Or.inr ⟨by rfl, rfl⟩) ?_
  go_simp
  refine wpAny_take (i := 4) (v := undef) rfl (by kernel_rfl) (by kernel_rfl) (by kernel_rfl) (fun _ _ _ h => h) (Or.inr ⟨by rfl, rfl⟩) ?_
  go_simp
  refine wpAny_take (i := 5) (v := undef) rfl (by kernel_rfl) (by kernel_rfl) (by kernel_rfl) (fun _ _ _ h => h) (Or.inr ⟨by rfl, rfl⟩) ?_
  go_simp
  refine wpAny_take (i := 6) (v := undef) rfl (by kernel_rfl) (by kernel_rfl) (by kernel_rfl) (fun _ _ _ h => h) (Or.inr ⟨by rfl, rfl⟩) ?_
  go_simp
  refine wpAny_take (i := 7) (v := ?_) rfl (by kernel_rfl) (by kernel_rfl) (by kernel_rfl) (fun _ _ _ h => h) (Or.inl ⟨by rfl, ?_⟩) ?_
  rotate_left
  · intro w; go_simp <;> with_reducible rfl
  go_simp
  refine wpAny_take (i := 8) (v := ?_) rfl (by kernel_rfl) (by kernel_rfl) (by kernel_rfl) (fun _ _ _ h => h) (Or.inl ⟨by rfl, ?_⟩) ?_
  rotate_left
  · intro w; go_simp <;> with_reducible rfl
  go_simp
  refine wpAny_take (i := 9) (v := ?_) rfl (by kernel_rfl) (by kernel_rfl) (by kernel_rfl) (fun _ _ _ h => h) (Or.inl ⟨by rfl, ?_⟩) ?_
  rotate_left
  · intro w; go_simp <;> with_reducible rfl
  go_simp
  refine wpAny_take (i := 10) (v := ?_) rfl (by kernel_rfl) (by kernel_rfl) (by kernel_rfl) (fun _ _ _ h => h) (Or.inl ⟨by rfl, ?_⟩) ?_
  rotate_left
  · intro w; go_simp <;> with_reducible rfl
  go_simp
  refine wpAny_take (i := 11) (v := ?_) rfl (by kernel_rfl) (by kernel_rfl) (by kernel_rfl) (fun _ _ _ h => h) (Or.inl ⟨by rfl, ?_⟩) ?_
  rotate_left
  · intro w; go_simp <;> with_reducible rfl
  go_simp
  refine wpAny_take (i := 12) (v := ?_) rfl (by kernel_rfl) (by kernel_rfl) (by kernel_rfl) (fun _ _ _ h => h) (Or.inl ⟨by rfl, ?_⟩) ?_
  rotate_left
  · intro w; go_simp <;> with_reducible rfl
  go_simp
  refine wpAny_take (i := 13) (v := ?_) rfl (by kernel_rfl) (by kernel_rfl) (by kernel_rfl) (fun _ _ _ h => h) (Or.inl ⟨by rfl, ?_⟩) ?_
  rotate_left
  · intro w; go_simp <;> with_reducible rfl
  go_simp
  refine wpAny_take (i := 14) (v := ?_) rfl (by kernel_rfl) (by kernel_rfl) (by kernel_rfl) (fun _ _ _ h => h) (Or.inl ⟨by rfl, ?_⟩) ?_
  rotate_left
  · intro w; go_simp <;> with_reducible rfl
  go_simp
  refine wpAny_take (i := 15) (v := ?_) rfl (by kernel_rfl) (by kernel_rfl) (by kernel_rfl) (fun _ _ _ h => h) (Or.inl ⟨by rfl, ?_⟩) ?_
  rotate_left
  · intro w; go_simp <;> with_reducible rfl
  go_simp
  refine wpAny_take (i := 16) (v := ?_) rfl (by kernel_rfl) (by kernel_rfl) (by kernel_rfl) (fun _ _ _ h => h) (Or.inl ⟨by rfl, ?_⟩) ?_
  rotate_left
  · intro w; go_simp <;> with_reducible rfl
  go_simp
  refine wpAny_take (i := 18) (v := ?_) rfl (by kernel_rfl) (by kernel_rfl) (by kernel_rfl) (fun _ _ _ h => h) (Or.inl ⟨by rfl, ?_⟩) ?_
  rotate_left
  · intro w; go_simp <;> with_reducible rfl
  go_simp
  refine wpAny_ready (rs := [17, 19]) (by kernel_rfl) (by simp) ?_
  refine AllReady.cons rfl (fun K hK => ?_) ?_
  · skip
    go_simp
    try go_simp
    refine hK _ _ ?_
    clear hK K
    try go_simp
    refine wpAny_ready (rs := [19]) (by kernel_rfl) (by simp) ?_
    refine AllReady.cons rfl (fun K hK => ?_) (AllReady.nil)
    go_simp
    go_at_call 47
    refine (usedR (H.out.step (chain' HB5.out (by repeat (first | exact Below.refl _ _ | apply below_drew1 | refine below_alloc ?_ _)))) HOK.out (by have := HN.out; omega)).mono ?_
    rintro e W6 ⟨rfl, hD⟩
    have HB6 := Aside0.mk (chain' HB5.out (chain' (W := W5) (by repeat (first | exact Below.refl _ _ | apply below_drew1 | refine below_alloc ?_ _)) hD))
    rw [HUN.out]
    clear hD c3 c5
    obtain ⟨-, -, -, c3, -, c5⟩ := HCL.out _ HB6.out; rw [HOFF.out] at c5; rw [HRO.out] at c3
    try go_simp
    refine hK _ _ ?_
    clear hK K
    try go_simp
    refine wpAny_take (i := 20) (v := ?_) rfl (by kernel_rfl) (by kernel_rfl) (by kernel_rfl) (fun _ _ _ h => h) (Or.inl ⟨by rfl, ?_⟩) ?_
    rotate_left
    · intro w; go_simp <;> with_reducible rfl
    go_simp
    refine wpAny_take (i := 21) (v := ?_) rfl (by kernel_rfl) (by kernel_rfl) (by kernel_rfl) (fun _ _ _ h => h) (Or.inl ⟨by rfl, ?_⟩) ?_
    rotate_left
    · intro w; go_simp <;> with_reducible rfl
    go_simp
    refine wpAny_take (i := 22) (v := ?_) rfl (by kernel_rfl) (by kernel_rfl) (by kernel_rfl) (fun _ _ _ h => h) (Or.inl ⟨by rfl, ?_⟩) ?_
    rotate_left
    · intro w; go_simp <;> with_reducible rfl
    go_simp
    refine wpAny_take (i := 23) (v := ?_) rfl (by kernel_rfl) (by kernel_rfl) (by kernel_rfl) (fun _ _ _ h => h) (Or.inl ⟨by rfl, ?_⟩) ?_
    rotate_left
    · intro w; go_simp <;> with_reducible rfl
    go_simp
    refine wpAny_done (by kernel_rfl) ?_ _
    go_wp2_with (go_at_call 48; refine (powerR (H.out.step (chain' HB6.out (by repeat (first | exact Below.refl _ _ | apply below_drew1 | apply pw_below_drewN | refine below_alloc ?_ _)))) HOK.out.fuse).mono ?_; rintro e W7 ⟨rfl, R7, hA7, ht7⟩; rw [HPW.out]; have HT7 := Aside0.mk ((Turn.of_below (T := R) (chain' HB6.out (by repeat (first | exact Below.refl _ _ | apply below_drew1 | apply pw_below_drewN | refine below_alloc ?_ _)))).trans ht7); clear ht7; have HA7 := Aside0.mk hA7; clear hA7)
    go_ret
    exact ⟨rfl, _, HA7.out, HT7.out⟩
  refine AllReady.cons rfl (fun K hK => ?_) ?_
  · skip
    go_simp
    go_at_call 47
    refine (usedR (H.out.step (chain' HB5.out (by repeat (first | exact Below.refl _ _ | apply below_drew1 | refine below_alloc ?_ _)))) HOK.out (by have := HN.out; omega)).mono ?_
    rintro e W6 ⟨rfl, hD⟩
    have HB6 := Aside0.mk (chain' HB5.out (chain' (W := W5) (by repeat (first | exact Below.refl _ _ | apply below_drew1 | refine below_alloc ?_ _)) hD))
    rw [HUN.out]
    clear hD c3 c5
    obtain ⟨-, -, -, c3, -, c5⟩ := HCL.out _ HB6.out; rw [HOFF.out] at c5; rw [HRO.out] at c3
    try go_simp
    refine hK _ _ ?_
    clear hK K
    try go_simp
    refine wpAny_ready (rs := [17]) (by kernel_rfl) (by simp) ?_
    refine AllReady.cons rfl (fun K hK => ?_) (AllReady.nil)
    go_simp
    try go_simp
    refine hK _ _ ?_
    clear hK K
    try go_simp
    refine wpAny_take (i := 20) (v := ?_) rfl (by kernel_rfl) (by kernel_rfl) (by kernel_rfl) (fun _ _ _ h => h) (Or.inl ⟨by rfl, ?_⟩) ?_
    rotate_left
    · intro w; go_simp <;> with_reducible rfl
    go_simp
    refine wpAny_take (i := 21) (v := ?_) rfl (by kernel_rfl) (by kernel_rfl) (by kernel_rfl) (fun _ _ _ h => h) (Or.inl ⟨by rfl, ?_⟩) ?_
    rotate_left
    · intro w; go_simp <;> with_reducible rfl
    go_simp
    refine wpAny_take (i := 22) (v := ?_) rfl (by kernel_rfl) (by kernel_rfl) (by kernel_rfl) (fun _ _ _ h => h) (Or.inl ⟨by rfl, ?_⟩) ?_
    rotate_left
    · intro w; go_simp <;> with_reducible rfl
    go_simp
    refine wpAny_take (i := 23) (v := ?_) rfl (by kernel_rfl) (by kernel_rfl) (by kernel_rfl) (fun _ _ _ h => h) (Or.inl ⟨by rfl, ?_⟩) ?_
    rotate_left
    · intro w; go_simp <;> with_reducible rfl
    go_simp
    refine wpAny_done (by kernel_rfl) ?_ _
    go_wp2_with (go_at_call 48; refine (powerR (H.out.step (chain' HB6.out (by repeat (first | exact Below.refl _ _ | apply below_drew1 | apply pw_below_drewN | refine below_alloc ?_ _)))) HOK.out.fuse).mono ?_; rintro e W7 ⟨rfl, R7, hA7, ht7⟩; rw [HPW.out]; have HT7 := Aside0.mk ((Turn.of_below (T := R) (chain' HB6.out (by repeat (first | exact Below.refl _ _ | apply below_drew1 | apply pw_below_drewN | refine below_alloc ?_ _)))).trans ht7); clear ht7; have HA7 := Aside0.mk hA7; clear hA7)
    go_ret
    exact ⟨rfl, _, HA7.out, HT7.out⟩
  exact AllReady.nil
  -- END
end Go.Proofs.Ytibmgcihpbofdaa.Fs
namespace Go.Proofs.Ytibmgcihpbofdaa.Fs
open Go.RowKit Go.Proofs.Ytibmgcihpbofdaa Go.Proofs.Ytibmgcihpbofdaa.Plain Go.Proofs.YtibmgcihpbofdaaW.PrintWords Go.Maps
set_option linter.unusedVariables false
set_option linter.unusedSimpArgs false
set_option maxHeartbeats 4000000 in
set_option maxRecDepth 100000 in
theorem do3bad {w0 W : World} {r : Nat} {d : RDisk} {R : Nat → Prop} {N : Nat} (h : RAt w0 r d R W) (hok : ROk d N) (hN : N ≤ 900000) (a b : Nm) (ha : a.length ≤ 140737488351232) (hb : b.length ≤ 140737488351232) (u : List UInt8) (A : Option Addr) (cc : Nat) (hrd : ReadsInt w0 .u8 A (B u).length (B u)) (hul : u.length ≤ 1000) (hra : rightB a = false) :
    Calls Try.prog 29 #[.pointer (some ⟨r, 0, none⟩), .int .i64 3, .string (S a), .string (S b), .slice A u.length cc] W fun e W' => e = .returned (.int .i64 1) ∧ RTurn w0 r d R W W' := by
  have H := Aside0.mk h
  obtain ⟨vs, vl, vf, fl, c0⟩ := h
  have HC := Aside0.mk c0
  have HCL := Aside0.mk (fun X (hX : Below W.heap.size W X) => (c0.step hX).cells)
  have HOK := Aside0.mk hok
  have HN := Aside0.mk hN
  have HRD := Aside0.mk (fun X (hX : Below w0.heap.size w0 X) => hrd.below hX)
  have HB0 := Aside0.mk (Below.refl W.heap.size W)
  have RA := Aside0.mk (refName a ha)
  have RB := Aside0.mk (refName b hb)
  obtain ⟨-, -, -, c3, -, c5⟩ := c0.cells
  have HRA := Aside0.mk hra
  clear hra
  clear c0 hok hrd hN
  go_enter Try.func29, Try.ntmps29
  go_wp2_with (go_at_call 10; refine (RA.out _).mono ?_; rintro e W1 ⟨rfl, hd⟩; rw [HRA.out]; have HB1 := Aside0.mk (chain' HB0.out hd.below); clear hd; clear c3 c5; obtain ⟨-, -, -, c3, -, c5⟩ := HCL.out _ HB1.out; clear RA)
  go_ret
  exact ⟨rfl, R, H.out.step (chain' HB1.out (by repeat (first | exact Below.refl _ _ | apply below_drew1 | apply pw_below_drewN | refine below_alloc ?_ _))), Turn.of_below (chain' HB1.out (by repeat (first | exact Below.refl _ _ | apply below_drew1 | apply pw_below_drewN | refine below_alloc ?_ _)))⟩
set_option maxHeartbeats 4000000 in
set_option maxRecDepth 100000 in
theorem do3off {w0 W : World} {r : Nat} {d : RDisk} {R : Nat → Prop} {N : Nat} (h : RAt w0 r d R W) (hok : ROk d N) (hN : N ≤ 900000) (a b : Nm) (ha : a.length ≤ 140737488351232) (hb : b.length ≤ 140737488351232) (u : List UInt8) (A : Option Addr) (cc : Nat) (hrd : ReadsInt w0 .u8 A (B u).length (B u)) (hul : u.length ≤ 1000) (hra : rightB a = true) (hoff : d.off = true) :
    Calls Try.prog 29 #[.pointer (some ⟨r, 0, none⟩), .int .i64 3, .string (S a), .string (S b), .slice A u.length cc] W fun e W' => e = .returned (.int .i64 2) ∧ RTurn w0 r d R W W' := by
  have H := Aside0.mk h
  obtain ⟨vs, vl, vf, fl, c0⟩ := h
  have HC := Aside0.mk c0
  have HCL := Aside0.mk (fun X (hX : Below W.heap.size W X) => (c0.step hX).cells)
  have HOK := Aside0.mk hok
  have HN := Aside0.mk hN
  have HRD := Aside0.mk (fun X (hX : Below w0.heap.size w0 X) => hrd.below hX)
  have HB0 := Aside0.mk (Below.refl W.heap.size W)
  have RA := Aside0.mk (refName a ha)
  have RB := Aside0.mk (refName b hb)
  obtain ⟨-, -, -, c3, -, c5⟩ := c0.cells
  have HRA := Aside0.mk hra
  clear hra
  rw [hoff] at c5
  have HOFF := Aside0.mk hoff
  clear hoff
  clear c0 hok hrd hN
  go_enter Try.func29, Try.ntmps29
  go_wp2_with (go_at_call 10; refine (RA.out _).mono ?_; rintro e W1 ⟨rfl, hd⟩; rw [HRA.out]; have HB1 := Aside0.mk (chain' HB0.out hd.below); clear hd; clear c3 c5; obtain ⟨-, -, -, c3, -, c5⟩ := HCL.out _ HB1.out; rw [HOFF.out] at c5; clear RA)
  go_ret
  exact ⟨rfl, R, H.out.step (chain' HB1.out (by repeat (first | exact Below.refl _ _ | apply below_drew1 | apply pw_below_drewN | refine below_alloc ?_ _))), Turn.of_below (chain' HB1.out (by repeat (first | exact Below.refl _ _ | apply below_drew1 | apply pw_below_drewN | refine below_alloc ?_ _)))⟩
set_option maxHeartbeats 4000000 in
set_option maxRecDepth 100000 in
theorem do3none {w0 W : World} {r : Nat} {d : RDisk} {R : Nat → Prop} {N : Nat} (h : RAt w0 r d R W) (hok : ROk d N) (hN : N ≤ 900000) (a b : Nm) (ha : a.length ≤ 140737488351232) (hb : b.length ≤ 140737488351232) (u : List UInt8) (A : Option Addr) (cc : Nat) (hrd : ReadsInt w0 .u8 A (B u).length (B u)) (hul : u.length ≤ 1000) (hra : rightB a = true) (hoff : d.off = false) (hg : get d.dir a = none) :
    Calls Try.prog 29 #[.pointer (some ⟨r, 0, none⟩), .int .i64 3, .string (S a), .string (S b), .slice A u.length cc] W fun e W' => e = .returned (.int .i64 4) ∧ RTurn w0 r d R W W' := by
  have H := Aside0.mk h
  obtain ⟨vs, vl, vf, fl, c0⟩ := h
  have HC := Aside0.mk c0
  have HCL := Aside0.mk (fun X (hX : Below W.heap.size W X) => (c0.step hX).cells)
  have HOK := Aside0.mk hok
  have HN := Aside0.mk hN
  have HRD := Aside0.mk (fun X (hX : Below w0.heap.size w0 X) => hrd.below hX)
  have HB0 := Aside0.mk (Below.refl W.heap.size W)
  have RA := Aside0.mk (refName a ha)
  have RB := Aside0.mk (refName b hb)
  obtain ⟨-, -, -, c3, -, c5⟩ := c0.cells
  have HRA := Aside0.mk hra
  clear hra
  rw [hoff] at c5
  have HOFF := Aside0.mk hoff
  clear hoff
  have HG := Aside0.mk hg
  clear hg
  clear c0 hok hrd hN
  go_enter Try.func29, Try.ntmps29
  go_wp2_with (first
    | (go_at_call 10; refine (RA.out _).mono ?_; rintro e W1 ⟨rfl, hd⟩; rw [HRA.out]; have HB1 := Aside0.mk (chain' HB0.out hd.below); clear hd; clear c3 c5; obtain ⟨-, -, -, c3, -, c5⟩ := HCL.out _ HB1.out; rw [HOFF.out] at c5; clear RA)
    | (go_at_call 45; refine (hasIs (H.out.step HB1.out) HOK.out (by have := HN.out; omega) a).mono ?_; rintro e W5 ⟨rfl, hbb⟩; rw [HG.out]; simp only [fileI]; have HB5 := Aside0.mk (chain' HB1.out hbb); clear hbb; clear c3 c5; obtain ⟨-, -, -, c3, -, c5⟩ := HCL.out _ HB5.out; rw [HOFF.out] at c5))
  go_ret
  exact ⟨rfl, R, H.out.step (chain' HB5.out (by repeat (first | exact Below.refl _ _ | apply below_drew1 | apply pw_below_drewN | refine below_alloc ?_ _))), Turn.of_below (chain' HB5.out (by repeat (first | exact Below.refl _ _ | apply below_drew1 | apply pw_below_drewN | refine below_alloc ?_ _)))⟩
set_option maxHeartbeats 4000000 in
set_option maxRecDepth 100000 in
theorem do3down {w0 W : World} {r : Nat} {d : RDisk} {R : Nat → Prop} {N : Nat} (h : RAt w0 r d R W) (hok : ROk d N) (hN : N ≤ 900000) (a b : Nm) (ha : a.length ≤ 140737488351232) (hb : b.length ≤ 140737488351232) (u : List UInt8) (A : Option Addr) (cc : Nat) (hrd : ReadsInt w0 .u8 A (B u).length (B u)) (hul : u.length ≤ 1000) (hra : rightB a = true) (hoff : d.off = false) (i : Nat) (hg : get d.dir a = some i) (hpw : d.power.1 = false) :
    Calls Try.prog 29 #[.pointer (some ⟨r, 0, none⟩), .int .i64 3, .string (S a), .string (S b), .slice A u.length cc] W fun e W' => e = .returned (.int .i64 2) ∧ RTurn w0 r d.power.2 R W W' := by
  have H := Aside0.mk h
  obtain ⟨vs, vl, vf, fl, c0⟩ := h
  have HC := Aside0.mk c0
  have HCL := Aside0.mk (fun X (hX : Below W.heap.size W X) => (c0.step hX).cells)
  have HOK := Aside0.mk hok
  have HN := Aside0.mk hN
  have HRD := Aside0.mk (fun X (hX : Below w0.heap.size w0 X) => hrd.below hX)
  have HB0 := Aside0.mk (Below.refl W.heap.size W)
  have RA := Aside0.mk (refName a ha)
  have RB := Aside0.mk (refName b hb)
  obtain ⟨-, -, -, c3, -, c5⟩ := c0.cells
  have HRA := Aside0.mk hra
  clear hra
  rw [hoff] at c5
  have HOFF := Aside0.mk hoff
  clear hoff
  have HG := Aside0.mk hg
  have hgi : i < d.files.length := hok.live i (live_get hok.ok hg)
  have HGI := Aside0.mk hgi
  have hil : i ≤ 1000000 := by have := hok.many.2; omega
  clear hgi
  clear hg
  have HPW := Aside0.mk hpw
  clear hpw
  clear c0 hok hrd hN
  go_enter Try.func29, Try.ntmps29
  go_wp2_with (first
    | (go_at_call 10; refine (RA.out _).mono ?_; rintro e W1 ⟨rfl, hd⟩; rw [HRA.out]; have HB1 := Aside0.mk (chain' HB0.out hd.below); clear hd; clear c3 c5; obtain ⟨-, -, -, c3, -, c5⟩ := HCL.out _ HB1.out; rw [HOFF.out] at c5; clear RA)
    | (go_at_call 45; refine (hasIs (H.out.step HB1.out) HOK.out (by have := HN.out; omega) a).mono ?_; rintro e W5 ⟨rfl, hbb⟩; rw [HG.out]; simp only [fileI]; have HB5 := Aside0.mk (chain' HB1.out hbb); clear hbb; clear c3 c5; obtain ⟨-, -, -, c3, -, c5⟩ := HCL.out _ HB5.out; rw [HOFF.out] at c5))
  go_quiet (fail)
  go_wp2_with (go_at_call 48; refine (powerR (H.out.step (chain' HB5.out (by repeat (first | exact Below.refl _ _ | apply below_drew1 | apply pw_below_drewN | refine below_alloc ?_ _)))) HOK.out.fuse).mono ?_; rintro e W7 ⟨rfl, R7, hA7, ht7⟩; rw [HPW.out]; have HT7 := Aside0.mk ((Turn.of_below (T := R) (chain' HB5.out (by repeat (first | exact Below.refl _ _ | apply below_drew1 | apply pw_below_drewN | refine below_alloc ?_ _)))).trans ht7); clear ht7; have HA7 := Aside0.mk hA7; clear hA7)
  go_ret
  exact ⟨rfl, _, HA7.out, HT7.out⟩
set_option maxHeartbeats 4000000 in
set_option maxRecDepth 100000 in
theorem do3ok {w0 W : World} {r : Nat} {d : RDisk} {R : Nat → Prop} {N : Nat} (h : RAt w0 r d R W) (hok : ROk d N) (hN : N ≤ 900000) (a b : Nm) (ha : a.length ≤ 140737488351232) (hb : b.length ≤ 140737488351232) (u : List UInt8) (A : Option Addr) (cc : Nat) (hrd : ReadsInt w0 .u8 A (B u).length (B u)) (hul : u.length ≤ 1000) (hra : rightB a = true) (hoff : d.off = false) (i : Nat) (hg : get d.dir a = some i) (hpw : d.power.1 = true) :
    Calls Try.prog 29 #[.pointer (some ⟨r, 0, none⟩), .int .i64 3, .string (S a), .string (S b), .slice A u.length cc] W fun e W' => e = .returned (.int .i64 0) ∧ RTurn w0 r (d.power.2.write i (d.bytes i) (d.bytes i).length) R W W' := by
  have H := Aside0.mk h
  obtain ⟨vs, vl, vf, fl, c0⟩ := h
  have HC := Aside0.mk c0
  have HCL := Aside0.mk (fun X (hX : Below W.heap.size W X) => (c0.step hX).cells)
  have HOK := Aside0.mk hok
  have HN := Aside0.mk hN
  have HRD := Aside0.mk (fun X (hX : Below w0.heap.size w0 X) => hrd.below hX)
  have HB0 := Aside0.mk (Below.refl W.heap.size W)
  have RA := Aside0.mk (refName a ha)
  have RB := Aside0.mk (refName b hb)
  obtain ⟨-, -, -, c3, -, c5⟩ := c0.cells
  have HRA := Aside0.mk hra
  clear hra
  rw [hoff] at c5
  have HOFF := Aside0.mk hoff
  clear hoff
  have HG := Aside0.mk hg
  have hgi : i < d.files.length := hok.live i (live_get hok.ok hg)
  have HGI := Aside0.mk hgi
  have hil : i ≤ 1000000 := by have := hok.many.2; omega
  clear hgi
  clear hg
  have HPW := Aside0.mk hpw
  clear hpw
  clear c0 hok hrd hN
  go_enter Try.func29, Try.ntmps29
  go_wp2_with (first
    | (go_at_call 10; refine (RA.out _).mono ?_; rintro e W1 ⟨rfl, hd⟩; rw [HRA.out]; have HB1 := Aside0.mk (chain' HB0.out hd.below); clear hd; clear c3 c5; obtain ⟨-, -, -, c3, -, c5⟩ := HCL.out _ HB1.out; rw [HOFF.out] at c5; clear RA)
    | (go_at_call 45; refine (hasIs (H.out.step HB1.out) HOK.out (by have := HN.out; omega) a).mono ?_; rintro e W5 ⟨rfl, hbb⟩; rw [HG.out]; simp only [fileI]; have HB5 := Aside0.mk (chain' HB1.out hbb); clear hbb; clear c3 c5; obtain ⟨-, -, -, c3, -, c5⟩ := HCL.out _ HB5.out; rw [HOFF.out] at c5))
  go_quiet (fail)
  go_wp2_with (go_at_call 48; refine (powerR (H.out.step (chain' HB5.out (by repeat (first | exact Below.refl _ _ | apply below_drew1 | apply pw_below_drewN | refine below_alloc ?_ _)))) HOK.out.fuse).mono ?_; rintro e W7 ⟨rfl, R7, hA7, ht7⟩; rw [HPW.out]; have HT7 := Aside0.mk ((Turn.of_below (T := R) (chain' HB5.out (by repeat (first | exact Below.refl _ _ | apply below_drew1 | apply pw_below_drewN | refine below_alloc ?_ _)))).trans ht7); clear ht7; obtain ⟨vs7, vl7, vf7, fl7, h7⟩ := hA7; have HC7 := Aside0.mk h7; have HR7 := Aside0.mk (rpow_raw d); obtain ⟨⟨As7, cs7, rfl⟩, ⟨Al7, cl7, rfl⟩, ⟨Af7, cf7, rfl⟩⟩ := h7.slices; obtain ⟨p0, p1, p2, -, -, -⟩ := h7.cells; have q0 := h7.frozen 0; have q1 := h7.frozen 1; have q2 := h7.frozen 2; have hi7 : i < fl7.length := (by rw [← h7.len, HR7.out.1]; exact HGI.out); obtain ⟨g, cf, efl, -, -, f0, f1, fr0, fr1⟩ := h7.file i hi7; have hgr : g ≠ r := (h7.ne.2.2.1 g (by rw [efl]; rfl)).1; obtain ⟨q, hq⟩ : ∃ q, fl7[i] = q := ⟨_, rfl⟩; rw [hq] at f0 f1; have HQM := Aside0.mk (show q ∈ fl7 from hq ▸ List.getElem_mem hi7); have HBY := Aside0.mk (show d.bytes i = q.2.1 ∧ d.firm i = q.2.2 from (by rw [← hq, ← rawBytes d i, ← rawFirm d i]; exact h7.bytes i hi7)); have HQI := Aside0.mk (show ∃ hi : i < fl7.length, fl7[i] = q from ⟨hi7, hq⟩); obtain ⟨bv, ub, sf⟩ := q; have hbb : ∃ A c, bv = .slice A (B ub).length c := own_slice (h7.each (bv, ub, sf) HQM.out); obtain ⟨Ab, cb, rfl⟩ := hbb; injection efl with efl _ _; subst efl; have hn7 : fl7.length ≤ 1000000 := (by rw [← h7.len, HR7.out.1]; have := HOK.out.many.2; have := HN.out; omega); clear h7; have hbl : (B ub).length ≤ 1000000 := (by rw [B_length]; have h9 := (bytes_le HOK.out i).1; rw [show d.bytes i = ub from HBY.out.1] at h9; have := HN.out; omega); obtain ⟨m, hm⟩ : ∃ m, (B ub).length = m := ⟨_, rfl⟩; rw [hm] at f0; have HM := Aside0.mk hm; rw [hm] at hbl; clear hm; have HSE := Aside0.mk (syncEnd (p := d.power.2) HC7.out i (_, ub, sf) HQI.out m); have hke : ∀ v, (W7.setCell ⟨g, i * 2 + 1, none⟩ v).drew.cell? ⟨g, i * 2, none⟩ = some (.slice Ab m cb) := fun v => (setOtherCell W7 g (i * 2 + 1) (i * 2) v (by omega)).trans f0)
  go_region_held3 (fun X => X.cell? ⟨r, 2, none⟩ = some (.slice (some ⟨g, 0, none⟩) fl7.length cf7) ∧ X.cell? ⟨g, i * 2, none⟩ = some (.slice Ab m cb)) (first | go_keep | (refine ⟨?_, hke _⟩; go_keep)) (fail)
  all_goals
    go_wp2
    go_ret
    rw [show d.bytes i = ub from HBY.out.1, show ub.length = m by rw [← HM.out, B_length]]
    exact ⟨rfl, RTurn.trans HT7.out (HSE.out.below (below_drew1 (Below.refl _ _)))⟩
end Go.Proofs.Ytibmgcihpbofdaa.Fs
namespace Go.Proofs.Ytibmgcihpbofdaa.Fs
open Go.RowKit Go.Proofs.Ytibmgcihpbofdaa Go.Proofs.Ytibmgcihpbofdaa.Plain Go.Proofs.YtibmgcihpbofdaaW.PrintWords Go.Maps
set_option linter.unusedVariables false
set_option linter.unusedSimpArgs false
set_option maxHeartbeats 4000000 in
set_option maxRecDepth 100000 in
theorem do4bad {w0 W : World} {r : Nat} {d : RDisk} {R : Nat → Prop} {N : Nat} (h : RAt w0 r d R W) (hok : ROk d N) (hN : N ≤ 900000) (a b : Nm) (ha : a.length ≤ 140737488351232) (hb : b.length ≤ 140737488351232) (u : List UInt8) (A : Option Addr) (cc : Nat) (hrd : ReadsInt w0 .u8 A (B u).length (B u)) (hul : u.length ≤ 1000) (hra : rightB a = false) :
    Calls Try.prog 29 #[.pointer (some ⟨r, 0, none⟩), .int .i64 4, .string (S a), .string (S b), .slice A u.length cc] W fun e W' => e = .returned (.int .i64 1) ∧ RTurn w0 r d R W W' := by
  have H := Aside0.mk h
  obtain ⟨vs, vl, vf, fl, c0⟩ := h
  have HC := Aside0.mk c0
  have HCL := Aside0.mk (fun X (hX : Below W.heap.size W X) => (c0.step hX).cells)
  have HOK := Aside0.mk hok
  have HN := Aside0.mk hN
  have HRD := Aside0.mk (fun X (hX : Below w0.heap.size w0 X) => hrd.below hX)
  have HB0 := Aside0.mk (Below.refl W.heap.size W)
  have RA := Aside0.mk (refName a ha)
  have RB := Aside0.mk (refName b hb)
  obtain ⟨-, -, -, c3, -, c5⟩ := c0.cells
  have HRA := Aside0.mk hra
  clear hra
  clear c0 hok hrd hN
  go_enter Try.func29, Try.ntmps29
  go_wp2_with (go_at_call 10; refine (RA.out _).mono ?_; rintro e W1 ⟨rfl, hd⟩; rw [HRA.out]; have HB1 := Aside0.mk (chain' HB0.out hd.below); clear hd; clear c3 c5; obtain ⟨-, -, -, c3, -, c5⟩ := HCL.out _ HB1.out; clear RA)
  go_ret
  exact ⟨rfl, R, H.out.step (chain' HB1.out (by repeat (first | exact Below.refl _ _ | apply below_drew1 | apply pw_below_drewN | refine below_alloc ?_ _))), Turn.of_below (chain' HB1.out (by repeat (first | exact Below.refl _ _ | apply below_drew1 | apply pw_below_drewN | refine below_alloc ?_ _)))⟩
set_option maxHeartbeats 4000000 in
set_option maxRecDepth 100000 in
theorem do4badb {w0 W : World} {r : Nat} {d : RDisk} {R : Nat → Prop} {N : Nat} (h : RAt w0 r d R W) (hok : ROk d N) (hN : N ≤ 900000) (a b : Nm) (ha : a.length ≤ 140737488351232) (hb : b.length ≤ 140737488351232) (u : List UInt8) (A : Option Addr) (cc : Nat) (hrd : ReadsInt w0 .u8 A (B u).length (B u)) (hul : u.length ≤ 1000) (hra : rightB a = true) (hrb : rightB b = false) :
    Calls Try.prog 29 #[.pointer (some ⟨r, 0, none⟩), .int .i64 4, .string (S a), .string (S b), .slice A u.length cc] W fun e W' => e = .returned (.int .i64 1) ∧ RTurn w0 r d R W W' := by
  have H := Aside0.mk h
  obtain ⟨vs, vl, vf, fl, c0⟩ := h
  have HC := Aside0.mk c0
  have HCL := Aside0.mk (fun X (hX : Below W.heap.size W X) => (c0.step hX).cells)
  have HOK := Aside0.mk hok
  have HN := Aside0.mk hN
  have HRD := Aside0.mk (fun X (hX : Below w0.heap.size w0 X) => hrd.below hX)
  have HB0 := Aside0.mk (Below.refl W.heap.size W)
  have RA := Aside0.mk (refName a ha)
  have RB := Aside0.mk (refName b hb)
  obtain ⟨-, -, -, c3, -, c5⟩ := c0.cells
  have HRA := Aside0.mk hra
  clear hra
  have HRB := Aside0.mk hrb
  clear hrb
  clear c0 hok hrd hN
  go_enter Try.func29, Try.ntmps29
  go_wp2_with (first
    | (go_at_call 10; refine (RA.out _).mono ?_; rintro e W1 ⟨rfl, hd⟩; rw [HRA.out]; have HB1 := Aside0.mk (chain' HB0.out hd.below); clear hd; clear c3 c5; obtain ⟨-, -, -, c3, -, c5⟩ := HCL.out _ HB1.out; clear RA)
    | (go_at_call 10; refine (RB.out _).mono ?_; rintro e W2 ⟨rfl, hd⟩; rw [HRB.out]; have HB2 := Aside0.mk (chain' HB1.out hd.below); clear hd; clear c3 c5; obtain ⟨-, -, -, c3, -, c5⟩ := HCL.out _ HB2.out; clear RB))
  go_ret
  exact ⟨rfl, R, H.out.step (chain' HB2.out (by repeat (first | exact Below.refl _ _ | apply below_drew1 | apply pw_below_drewN | refine below_alloc ?_ _))), Turn.of_below (chain' HB2.out (by repeat (first | exact Below.refl _ _ | apply below_drew1 | apply pw_below_drewN | refine below_alloc ?_ _)))⟩
set_option maxHeartbeats 4000000 in
set_option maxRecDepth 100000 in
theorem do4off {w0 W : World} {r : Nat} {d : RDisk} {R : Nat → Prop} {N : Nat} (h : RAt w0 r d R W) (hok : ROk d N) (hN : N ≤ 900000) (a b : Nm) (ha : a.length ≤ 140737488351232) (hb : b.length ≤ 140737488351232) (u : List UInt8) (A : Option Addr) (cc : Nat) (hrd : ReadsInt w0 .u8 A (B u).length (B u)) (hul : u.length ≤ 1000) (hra : rightB a = true) (hrb : rightB b = true) (hoff : d.off = true) :
    Calls Try.prog 29 #[.pointer (some ⟨r, 0, none⟩), .int .i64 4, .string (S a), .string (S b), .slice A u.length cc] W fun e W' => e = .returned (.int .i64 2) ∧ RTurn w0 r d R W W' := by
  have H := Aside0.mk h
  obtain ⟨vs, vl, vf, fl, c0⟩ := h
  have HC := Aside0.mk c0
  have HCL := Aside0.mk (fun X (hX : Below W.heap.size W X) => (c0.step hX).cells)
  have HOK := Aside0.mk hok
  have HN := Aside0.mk hN
  have HRD := Aside0.mk (fun X (hX : Below w0.heap.size w0 X) => hrd.below hX)
  have HB0 := Aside0.mk (Below.refl W.heap.size W)
  have RA := Aside0.mk (refName a ha)
  have RB := Aside0.mk (refName b hb)
  obtain ⟨-, -, -, c3, -, c5⟩ := c0.cells
  have HRA := Aside0.mk hra
  clear hra
  have HRB := Aside0.mk hrb
  clear hrb
  rw [hoff] at c5
  have HOFF := Aside0.mk hoff
  clear hoff
  clear c0 hok hrd hN
  go_enter Try.func29, Try.ntmps29
  go_wp2_with (first
    | (go_at_call 10; refine (RA.out _).mono ?_; rintro e W1 ⟨rfl, hd⟩; rw [HRA.out]; have HB1 := Aside0.mk (chain' HB0.out hd.below); clear hd; clear c3 c5; obtain ⟨-, -, -, c3, -, c5⟩ := HCL.out _ HB1.out; rw [HOFF.out] at c5; clear RA)
    | (go_at_call 10; refine (RB.out _).mono ?_; rintro e W2 ⟨rfl, hd⟩; rw [HRB.out]; have HB2 := Aside0.mk (chain' HB1.out hd.below); clear hd; clear c3 c5; obtain ⟨-, -, -, c3, -, c5⟩ := HCL.out _ HB2.out; rw [HOFF.out] at c5; clear RB))
  go_ret
  exact ⟨rfl, R, H.out.step (chain' HB2.out (by repeat (first | exact Below.refl _ _ | apply below_drew1 | apply pw_below_drewN | refine below_alloc ?_ _))), Turn.of_below (chain' HB2.out (by repeat (first | exact Below.refl _ _ | apply below_drew1 | apply pw_below_drewN | refine below_alloc ?_ _)))⟩
set_option maxHeartbeats 4000000 in
set_option maxRecDepth 100000 in
theorem do4none {w0 W : World} {r : Nat} {d : RDisk} {R : Nat → Prop} {N : Nat} (h : RAt w0 r d R W) (hok : ROk d N) (hN : N ≤ 900000) (a b : Nm) (ha : a.length ≤ 140737488351232) (hb : b.length ≤ 140737488351232) (u : List UInt8) (A : Option Addr) (cc : Nat) (hrd : ReadsInt w0 .u8 A (B u).length (B u)) (hul : u.length ≤ 1000) (hra : rightB a = true) (hrb : rightB b = true) (hoff : d.off = false) (hg : get d.dir a = none) :
    Calls Try.prog 29 #[.pointer (some ⟨r, 0, none⟩), .int .i64 4, .string (S a), .string (S b), .slice A u.length cc] W fun e W' => e = .returned (.int .i64 4) ∧ RTurn w0 r d R W W' := by
  have H := Aside0.mk h
  obtain ⟨vs, vl, vf, fl, c0⟩ := h
  have HC := Aside0.mk c0
  have HCL := Aside0.mk (fun X (hX : Below W.heap.size W X) => (c0.step hX).cells)
  have HOK := Aside0.mk hok
  have HN := Aside0.mk hN
  have HRD := Aside0.mk (fun X (hX : Below w0.heap.size w0 X) => hrd.below hX)
  have HB0 := Aside0.mk (Below.refl W.heap.size W)
  have RA := Aside0.mk (refName a ha)
  have RB := Aside0.mk (refName b hb)
  obtain ⟨-, -, -, c3, -, c5⟩ := c0.cells
  have HRA := Aside0.mk hra
  clear hra
  have HRB := Aside0.mk hrb
  clear hrb
  rw [hoff] at c5
  have HOFF := Aside0.mk hoff
  clear hoff
  have HG := Aside0.mk hg
  clear hg
  clear c0 hok hrd hN
  go_enter Try.func29, Try.ntmps29
  go_wp2_with (first
    | (go_at_call 10; refine (RA.out _).mono ?_; rintro e W1 ⟨rfl, hd⟩; rw [HRA.out]; have HB1 := Aside0.mk (chain' HB0.out hd.below); clear hd; clear c3 c5; obtain ⟨-, -, -, c3, -, c5⟩ := HCL.out _ HB1.out; rw [HOFF.out] at c5; clear RA)
    | (go_at_call 10; refine (RB.out _).mono ?_; rintro e W2 ⟨rfl, hd⟩; rw [HRB.out]; have HB2 := Aside0.mk (chain' HB1.out hd.below); clear hd; clear c3 c5; obtain ⟨-, -, -, c3, -, c5⟩ := HCL.out _ HB2.out; rw [HOFF.out] at c5; clear RB)
    | (go_at_call 45; refine (hasIs (H.out.step HB2.out) HOK.out (by have := HN.out; omega) a).mono ?_; rintro e W5 ⟨rfl, hbb⟩; rw [HG.out]; simp only [fileI]; have HB5 := Aside0.mk (chain' HB2.out hbb); clear hbb; clear c3 c5; obtain ⟨-, -, -, c3, -, c5⟩ := HCL.out _ HB5.out; rw [HOFF.out] at c5))
  go_ret
  exact ⟨rfl, R, H.out.step (chain' HB5.out (by repeat (first | exact Below.refl _ _ | apply below_drew1 | apply pw_below_drewN | refine below_alloc ?_ _))), Turn.of_below (chain' HB5.out (by repeat (first | exact Below.refl _ _ | apply below_drew1 | apply pw_below_drewN | refine below_alloc ?_ _)))⟩
set_option maxHeartbeats 4000000 in
set_option maxRecDepth 100000 in
theorem do4down {w0 W : World} {r : Nat} {d : RDisk} {R : Nat → Prop} {N : Nat} (h : RAt w0 r d R W) (hok : ROk d N) (hN : N ≤ 900000) (a b : Nm) (ha : a.length ≤ 140737488351232) (hb : b.length ≤ 140737488351232) (u : List UInt8) (A : Option Addr) (cc : Nat) (hrd : ReadsInt w0 .u8 A (B u).length (B u)) (hul : u.length ≤ 1000) (hra : rightB a = true) (hrb : rightB b = true) (hoff : d.off = false) (i : Nat) (hg : get d.dir a = some i) (hpw : d.power.1 = false) :
    Calls Try.prog 29 #[.pointer (some ⟨r, 0, none⟩), .int .i64 4, .string (S a), .string (S b), .slice A u.length cc] W fun e W' => e = .returned (.int .i64 2) ∧ RTurn w0 r d.power.2 R W W' := by
  have H := Aside0.mk h
  obtain ⟨vs, vl, vf, fl, c0⟩ := h
  have HC := Aside0.mk c0
  have HCL := Aside0.mk (fun X (hX : Below W.heap.size W X) => (c0.step hX).cells)
  have HOK := Aside0.mk hok
  have HN := Aside0.mk hN
  have HRD := Aside0.mk (fun X (hX : Below w0.heap.size w0 X) => hrd.below hX)
  have HB0 := Aside0.mk (Below.refl W.heap.size W)
  have RA := Aside0.mk (refName a ha)
  have RB := Aside0.mk (refName b hb)
  obtain ⟨-, -, -, c3, -, c5⟩ := c0.cells
  have HRA := Aside0.mk hra
  clear hra
  have HRB := Aside0.mk hrb
  clear hrb
  rw [hoff] at c5
  have HOFF := Aside0.mk hoff
  clear hoff
  have HG := Aside0.mk hg
  have hgi : i < d.files.length := hok.live i (live_get hok.ok hg)
  have HGI := Aside0.mk hgi
  have hil : i ≤ 1000000 := by have := hok.many.2; omega
  clear hgi
  clear hg
  have HPW := Aside0.mk hpw
  clear hpw
  clear c0 hok hrd hN
  go_enter Try.func29, Try.ntmps29
  go_wp2_with (first
    | (go_at_call 10; refine (RA.out _).mono ?_; rintro e W1 ⟨rfl, hd⟩; rw [HRA.out]; have HB1 := Aside0.mk (chain' HB0.out hd.below); clear hd; clear c3 c5; obtain ⟨-, -, -, c3, -, c5⟩ := HCL.out _ HB1.out; rw [HOFF.out] at c5; clear RA)
    | (go_at_call 10; refine (RB.out _).mono ?_; rintro e W2 ⟨rfl, hd⟩; rw [HRB.out]; have HB2 := Aside0.mk (chain' HB1.out hd.below); clear hd; clear c3 c5; obtain ⟨-, -, -, c3, -, c5⟩ := HCL.out _ HB2.out; rw [HOFF.out] at c5; clear RB)
    | (go_at_call 45; refine (hasIs (H.out.step HB2.out) HOK.out (by have := HN.out; omega) a).mono ?_; rintro e W5 ⟨rfl, hbb⟩; rw [HG.out]; simp only [fileI]; have HB5 := Aside0.mk (chain' HB2.out hbb); clear hbb; clear c3 c5; obtain ⟨-, -, -, c3, -, c5⟩ := HCL.out _ HB5.out; rw [HOFF.out] at c5))
  go_quiet (fail)
  go_wp2_with (go_at_call 48; refine (powerR (H.out.step (chain' HB5.out (by repeat (first | exact Below.refl _ _ | apply below_drew1 | apply pw_below_drewN | refine below_alloc ?_ _)))) HOK.out.fuse).mono ?_; rintro e W7 ⟨rfl, R7, hA7, ht7⟩; rw [HPW.out]; have HT7 := Aside0.mk ((Turn.of_below (T := R) (chain' HB5.out (by repeat (first | exact Below.refl _ _ | apply below_drew1 | apply pw_below_drewN | refine below_alloc ?_ _)))).trans ht7); clear ht7; have HA7 := Aside0.mk hA7; clear hA7)
  go_ret
  exact ⟨rfl, _, HA7.out, HT7.out⟩
set_option maxHeartbeats 4000000 in
set_option maxRecDepth 100000 in
theorem do4same {w0 W : World} {r : Nat} {d : RDisk} {R : Nat → Prop} {N : Nat} (h : RAt w0 r d R W) (hok : ROk d N) (hN : N ≤ 900000) (a b : Nm) (ha : a.length ≤ 140737488351232) (hb : b.length ≤ 140737488351232) (u : List UInt8) (A : Option Addr) (cc : Nat) (hrd : ReadsInt w0 .u8 A (B u).length (B u)) (hul : u.length ≤ 1000) (hra : rightB a = true) (hrb : rightB b = true) (hoff : d.off = false) (i : Nat) (hg : get d.dir a = some i) (hpw : d.power.1 = true) (hab : (a == b) = true) :
    Calls Try.prog 29 #[.pointer (some ⟨r, 0, none⟩), .int .i64 4, .string (S a), .string (S b), .slice A u.length cc] W fun e W' => e = .returned (.int .i64 0) ∧ RTurn w0 r d.power.2 R W W' := by
  have H := Aside0.mk h
  obtain ⟨vs, vl, vf, fl, c0⟩ := h
  have HC := Aside0.mk c0
  have HCL := Aside0.mk (fun X (hX : Below W.heap.size W X) => (c0.step hX).cells)
  have HOK := Aside0.mk hok
  have HN := Aside0.mk hN
  have HRD := Aside0.mk (fun X (hX : Below w0.heap.size w0 X) => hrd.below hX)
  have HB0 := Aside0.mk (Below.refl W.heap.size W)
  have RA := Aside0.mk (refName a ha)
  have RB := Aside0.mk (refName b hb)
  obtain ⟨-, -, -, c3, -, c5⟩ := c0.cells
  have HRA := Aside0.mk hra
  clear hra
  have HRB := Aside0.mk hrb
  clear hrb
  rw [hoff] at c5
  have HOFF := Aside0.mk hoff
  clear hoff
  have HG := Aside0.mk hg
  have hgi : i < d.files.length := hok.live i (live_get hok.ok hg)
  have HGI := Aside0.mk hgi
  have hil : i ≤ 1000000 := by have := hok.many.2; omega
  clear hgi
  clear hg
  have HPW := Aside0.mk hpw
  clear hpw
  clear c0 hok hrd hN
  go_enter Try.func29, Try.ntmps29
  go_wp2_with (first
    | (go_at_call 10; refine (RA.out _).mono ?_; rintro e W1 ⟨rfl, hd⟩; rw [HRA.out]; have HB1 := Aside0.mk (chain' HB0.out hd.below); clear hd; clear c3 c5; obtain ⟨-, -, -, c3, -, c5⟩ := HCL.out _ HB1.out; rw [HOFF.out] at c5; clear RA)
    | (go_at_call 10; refine (RB.out _).mono ?_; rintro e W2 ⟨rfl, hd⟩; rw [HRB.out]; have HB2 := Aside0.mk (chain' HB1.out hd.below); clear hd; clear c3 c5; obtain ⟨-, -, -, c3, -, c5⟩ := HCL.out _ HB2.out; rw [HOFF.out] at c5; clear RB)
    | (go_at_call 45; refine (hasIs (H.out.step HB2.out) HOK.out (by have := HN.out; omega) a).mono ?_; rintro e W5 ⟨rfl, hbb⟩; rw [HG.out]; simp only [fileI]; have HB5 := Aside0.mk (chain' HB2.out hbb); clear hbb; clear c3 c5; obtain ⟨-, -, -, c3, -, c5⟩ := HCL.out _ HB5.out; rw [HOFF.out] at c5))
  go_quiet (fail)
  go_wp2_with (go_at_call 48; refine (powerR (H.out.step (chain' HB5.out (by repeat (first | exact Below.refl _ _ | apply below_drew1 | apply pw_below_drewN | refine below_alloc ?_ _)))) HOK.out.fuse).mono ?_; rintro e W7 ⟨rfl, R7, hA7, ht7⟩; rw [HPW.out]; have HT7 := Aside0.mk ((Turn.of_below (T := R) (chain' HB5.out (by repeat (first | exact Below.refl _ _ | apply below_drew1 | apply pw_below_drewN | refine below_alloc ?_ _)))).trans ht7); clear ht7; have HA7 := Aside0.mk hA7; clear hA7)
  go_ret
  exact ⟨rfl, _, HA7.out, HT7.out⟩
set_option maxHeartbeats 4000000 in
set_option maxRecDepth 100000 in
theorem do4ok {w0 W : World} {r : Nat} {d : RDisk} {R : Nat → Prop} {N : Nat} (h : RAt w0 r d R W) (hok : ROk d N) (hN : N ≤ 900000) (a b : Nm) (ha : a.length ≤ 140737488351232) (hb : b.length ≤ 140737488351232) (u : List UInt8) (A : Option Addr) (cc : Nat) (hrd : ReadsInt w0 .u8 A (B u).length (B u)) (hul : u.length ≤ 1000) (hra : rightB a = true) (hrb : rightB b = true) (hoff : d.off = false) (i : Nat) (hg : get d.dir a = some i) (hpw : d.power.1 = true) (hab : (a == b) = false) :
    Calls Try.prog 29 #[.pointer (some ⟨r, 0, none⟩), .int .i64 4, .string (S a), .string (S b), .slice A u.length cc] W fun e W' => e = .returned (.int .i64 0) ∧ RTurn w0 r (d.power.2.push ⟨2, a, b, 0⟩) R W W' := by
  have H := Aside0.mk h
  obtain ⟨vs, vl, vf, fl, c0⟩ := h
  have HC := Aside0.mk c0
  have HCL := Aside0.mk (fun X (hX : Below W.heap.size W X) => (c0.step hX).cells)
  have HOK := Aside0.mk hok
  have HN := Aside0.mk hN
  have HRD := Aside0.mk (fun X (hX : Below w0.heap.size w0 X) => hrd.below hX)
  have HB0 := Aside0.mk (Below.refl W.heap.size W)
  have RA := Aside0.mk (refName a ha)
  have RB := Aside0.mk (refName b hb)
  obtain ⟨-, -, -, c3, -, c5⟩ := c0.cells
  have HRA := Aside0.mk hra
  clear hra
  have HRB := Aside0.mk hrb
  clear hrb
  rw [hoff] at c5
  have HOFF := Aside0.mk hoff
  clear hoff
  have HG := Aside0.mk hg
  have hgi : i < d.files.length := hok.live i (live_get hok.ok hg)
  have HGI := Aside0.mk hgi
  have hil : i ≤ 1000000 := by have := hok.many.2; omega
  clear hgi
  clear hg
  have HPW := Aside0.mk hpw
  clear hpw
  clear c0 hok hrd hN
  go_enter Try.func29, Try.ntmps29
  go_wp2_with (first
    | (go_at_call 10; refine (RA.out _).mono ?_; rintro e W1 ⟨rfl, hd⟩; rw [HRA.out]; have HB1 := Aside0.mk (chain' HB0.out hd.below); clear hd; clear c3 c5; obtain ⟨-, -, -, c3, -, c5⟩ := HCL.out _ HB1.out; rw [HOFF.out] at c5; clear RA)
    | (go_at_call 10; refine (RB.out _).mono ?_; rintro e W2 ⟨rfl, hd⟩; rw [HRB.out]; have HB2 := Aside0.mk (chain' HB1.out hd.below); clear hd; clear c3 c5; obtain ⟨-, -, -, c3, -, c5⟩ := HCL.out _ HB2.out; rw [HOFF.out] at c5; clear RB)
    | (go_at_call 45; refine (hasIs (H.out.step HB2.out) HOK.out (by have := HN.out; omega) a).mono ?_; rintro e W5 ⟨rfl, hbb⟩; rw [HG.out]; simp only [fileI]; have HB5 := Aside0.mk (chain' HB2.out hbb); clear hbb; clear c3 c5; obtain ⟨-, -, -, c3, -, c5⟩ := HCL.out _ HB5.out; rw [HOFF.out] at c5))
  go_quiet (fail)
  go_wp2_with (first
    | (go_at_call 48; refine (powerR (H.out.step (chain' HB5.out (by repeat (first | exact Below.refl _ _ | apply below_drew1 | apply pw_below_drewN | refine below_alloc ?_ _)))) HOK.out.fuse).mono ?_; rintro e W7 ⟨rfl, R7, hA7, ht7⟩; rw [HPW.out]; have HT7 := Aside0.mk ((Turn.of_below (T := R) (chain' HB5.out (by repeat (first | exact Below.refl _ _ | apply below_drew1 | apply pw_below_drewN | refine below_alloc ?_ _)))).trans ht7); clear ht7; obtain ⟨vs7, vl7, vf7, fl7, h7⟩ := hA7; have HC7 := Aside0.mk h7; have HR7 := Aside0.mk (rpow_raw d); obtain ⟨⟨As7, cs7, rfl⟩, ⟨Al7, cl7, rfl⟩, ⟨Af7, cf7, rfl⟩⟩ := h7.slices; obtain ⟨p0, p1, p2, -, -, -⟩ := h7.cells; have q0 := h7.frozen 0; have q1 := h7.frozen 1; have q2 := h7.frozen 2; clear h7; have HLL := Aside0.mk (show d.power.2.loose.length ≤ 2000000 from looseLe HOK.out HN.out))
    | (at_builtin; refine appendC (base := w0.heap.size) ?_ ?_ ⟨2, a, b, 0⟩ HLL.out rfl _ _ rfl rfl _ 1 rfl ?_ ?_; exact World.ownsRow.alloc HC7.out.loose _; exact Nat.le_trans HC7.out.below.size (sizeAlloc _ _); exact chgNew ⟨2, a, b, 0⟩ (at_new _ rfl) rfl; intro v1 w1 h1 g1 hat; have HRW := Aside0.mk (HC7.out.after (below_alloc (Below.refl _ _) _) g1 (fun e => (HC7.out.ne.2.1 r e).1 rfl)); obtain ⟨-, -, -, y1, y2⟩ := HRW.out; obtain ⟨-, z1, -⟩ := HRW.out; have HE := Aside0.mk (pushEnd HC7.out ⟨2, a, b, 0⟩ (below_alloc (Below.refl _ _) _) h1 g1 hat); obtain ⟨A1, n1, c1, rfl⟩ := own_three h1; clear h1 g1 hat p0 p1 p2 q0 q1 q2))
  go_ret
  exact ⟨rfl, RTurn.trans HT7.out HE.out⟩
end Go.Proofs.Ytibmgcihpbofdaa.Fs
namespace Go.Proofs.Ytibmgcihpbofdaa.Fs
open Go.RowKit Go.Proofs.Ytibmgcihpbofdaa Go.Proofs.Ytibmgcihpbofdaa.Plain Go.Proofs.YtibmgcihpbofdaaW.PrintWords Go.Maps
set_option linter.unusedVariables false
set_option linter.unusedSimpArgs false
set_option maxHeartbeats 4000000 in
set_option maxRecDepth 100000 in
theorem do5bad {w0 W : World} {r : Nat} {d : RDisk} {R : Nat → Prop} {N : Nat} (h : RAt w0 r d R W) (hok : ROk d N) (hN : N ≤ 900000) (a b : Nm) (ha : a.length ≤ 140737488351232) (hb : b.length ≤ 140737488351232) (u : List UInt8) (A : Option Addr) (cc : Nat) (hrd : ReadsInt w0 .u8 A (B u).length (B u)) (hul : u.length ≤ 1000) (hra : rightB a = false) :
    Calls Try.prog 29 #[.pointer (some ⟨r, 0, none⟩), .int .i64 5, .string (S a), .string (S b), .slice A u.length cc] W fun e W' => e = .returned (.int .i64 1) ∧ RTurn w0 r d R W W' := by
  have H := Aside0.mk h
  obtain ⟨vs, vl, vf, fl, c0⟩ := h
  have HC := Aside0.mk c0
  have HCL := Aside0.mk (fun X (hX : Below W.heap.size W X) => (c0.step hX).cells)
  have HOK := Aside0.mk hok
  have HN := Aside0.mk hN
  have HRD := Aside0.mk (fun X (hX : Below w0.heap.size w0 X) => hrd.below hX)
  have HB0 := Aside0.mk (Below.refl W.heap.size W)
  have RA := Aside0.mk (refName a ha)
  have RB := Aside0.mk (refName b hb)
  obtain ⟨-, -, -, c3, -, c5⟩ := c0.cells
  have HRA := Aside0.mk hra
  clear hra
  clear c0 hok hrd hN
  go_enter Try.func29, Try.ntmps29
  go_wp2_with (go_at_call 10; refine (RA.out _).mono ?_; rintro e W1 ⟨rfl, hd⟩; rw [HRA.out]; have HB1 := Aside0.mk (chain' HB0.out hd.below); clear hd; clear c3 c5; obtain ⟨-, -, -, c3, -, c5⟩ := HCL.out _ HB1.out; clear RA)
  go_ret
  exact ⟨rfl, R, H.out.step (chain' HB1.out (by repeat (first | exact Below.refl _ _ | apply below_drew1 | apply pw_below_drewN | refine below_alloc ?_ _))), Turn.of_below (chain' HB1.out (by repeat (first | exact Below.refl _ _ | apply below_drew1 | apply pw_below_drewN | refine below_alloc ?_ _)))⟩
set_option maxHeartbeats 4000000 in
set_option maxRecDepth 100000 in
theorem do5off {w0 W : World} {r : Nat} {d : RDisk} {R : Nat → Prop} {N : Nat} (h : RAt w0 r d R W) (hok : ROk d N) (hN : N ≤ 900000) (a b : Nm) (ha : a.length ≤ 140737488351232) (hb : b.length ≤ 140737488351232) (u : List UInt8) (A : Option Addr) (cc : Nat) (hrd : ReadsInt w0 .u8 A (B u).length (B u)) (hul : u.length ≤ 1000) (hra : rightB a = true) (hoff : d.off = true) :
    Calls Try.prog 29 #[.pointer (some ⟨r, 0, none⟩), .int .i64 5, .string (S a), .string (S b), .slice A u.length cc] W fun e W' => e = .returned (.int .i64 2) ∧ RTurn w0 r d R W W' := by
  have H := Aside0.mk h
  obtain ⟨vs, vl, vf, fl, c0⟩ := h
  have HC := Aside0.mk c0
  have HCL := Aside0.mk (fun X (hX : Below W.heap.size W X) => (c0.step hX).cells)
  have HOK := Aside0.mk hok
  have HN := Aside0.mk hN
  have HRD := Aside0.mk (fun X (hX : Below w0.heap.size w0 X) => hrd.below hX)
  have HB0 := Aside0.mk (Below.refl W.heap.size W)
  have RA := Aside0.mk (refName a ha)
  have RB := Aside0.mk (refName b hb)
  obtain ⟨-, -, -, c3, -, c5⟩ := c0.cells
  have HRA := Aside0.mk hra
  clear hra
  rw [hoff] at c5
  have HOFF := Aside0.mk hoff
  clear hoff
  clear c0 hok hrd hN
  go_enter Try.func29, Try.ntmps29
  go_wp2_with (go_at_call 10; refine (RA.out _).mono ?_; rintro e W1 ⟨rfl, hd⟩; rw [HRA.out]; have HB1 := Aside0.mk (chain' HB0.out hd.below); clear hd; clear c3 c5; obtain ⟨-, -, -, c3, -, c5⟩ := HCL.out _ HB1.out; rw [HOFF.out] at c5; clear RA)
  go_ret
  exact ⟨rfl, R, H.out.step (chain' HB1.out (by repeat (first | exact Below.refl _ _ | apply below_drew1 | apply pw_below_drewN | refine below_alloc ?_ _))), Turn.of_below (chain' HB1.out (by repeat (first | exact Below.refl _ _ | apply below_drew1 | apply pw_below_drewN | refine below_alloc ?_ _)))⟩
set_option maxHeartbeats 4000000 in
set_option maxRecDepth 100000 in
theorem do5none {w0 W : World} {r : Nat} {d : RDisk} {R : Nat → Prop} {N : Nat} (h : RAt w0 r d R W) (hok : ROk d N) (hN : N ≤ 900000) (a b : Nm) (ha : a.length ≤ 140737488351232) (hb : b.length ≤ 140737488351232) (u : List UInt8) (A : Option Addr) (cc : Nat) (hrd : ReadsInt w0 .u8 A (B u).length (B u)) (hul : u.length ≤ 1000) (hra : rightB a = true) (hoff : d.off = false) (hg : get d.dir a = none) :
    Calls Try.prog 29 #[.pointer (some ⟨r, 0, none⟩), .int .i64 5, .string (S a), .string (S b), .slice A u.length cc] W fun e W' => e = .returned (.int .i64 4) ∧ RTurn w0 r d R W W' := by
  have H := Aside0.mk h
  obtain ⟨vs, vl, vf, fl, c0⟩ := h
  have HC := Aside0.mk c0
  have HCL := Aside0.mk (fun X (hX : Below W.heap.size W X) => (c0.step hX).cells)
  have HOK := Aside0.mk hok
  have HN := Aside0.mk hN
  have HRD := Aside0.mk (fun X (hX : Below w0.heap.size w0 X) => hrd.below hX)
  have HB0 := Aside0.mk (Below.refl W.heap.size W)
  have RA := Aside0.mk (refName a ha)
  have RB := Aside0.mk (refName b hb)
  obtain ⟨-, -, -, c3, -, c5⟩ := c0.cells
  have HRA := Aside0.mk hra
  clear hra
  rw [hoff] at c5
  have HOFF := Aside0.mk hoff
  clear hoff
  have HG := Aside0.mk hg
  clear hg
  clear c0 hok hrd hN
  go_enter Try.func29, Try.ntmps29
  go_wp2_with (first
    | (go_at_call 10; refine (RA.out _).mono ?_; rintro e W1 ⟨rfl, hd⟩; rw [HRA.out]; have HB1 := Aside0.mk (chain' HB0.out hd.below); clear hd; clear c3 c5; obtain ⟨-, -, -, c3, -, c5⟩ := HCL.out _ HB1.out; rw [HOFF.out] at c5; clear RA)
    | (go_at_call 45; refine (hasIs (H.out.step HB1.out) HOK.out (by have := HN.out; omega) a).mono ?_; rintro e W5 ⟨rfl, hbb⟩; rw [HG.out]; simp only [fileI]; have HB5 := Aside0.mk (chain' HB1.out hbb); clear hbb; clear c3 c5; obtain ⟨-, -, -, c3, -, c5⟩ := HCL.out _ HB5.out; rw [HOFF.out] at c5))
  go_ret
  exact ⟨rfl, R, H.out.step (chain' HB5.out (by repeat (first | exact Below.refl _ _ | apply below_drew1 | apply pw_below_drewN | refine below_alloc ?_ _))), Turn.of_below (chain' HB5.out (by repeat (first | exact Below.refl _ _ | apply below_drew1 | apply pw_below_drewN | refine below_alloc ?_ _)))⟩
set_option maxHeartbeats 4000000 in
set_option maxRecDepth 100000 in
theorem do5down {w0 W : World} {r : Nat} {d : RDisk} {R : Nat → Prop} {N : Nat} (h : RAt w0 r d R W) (hok : ROk d N) (hN : N ≤ 900000) (a b : Nm) (ha : a.length ≤ 140737488351232) (hb : b.length ≤ 140737488351232) (u : List UInt8) (A : Option Addr) (cc : Nat) (hrd : ReadsInt w0 .u8 A (B u).length (B u)) (hul : u.length ≤ 1000) (hra : rightB a = true) (hoff : d.off = false) (i : Nat) (hg : get d.dir a = some i) (hpw : d.power.1 = false) :
    Calls Try.prog 29 #[.pointer (some ⟨r, 0, none⟩), .int .i64 5, .string (S a), .string (S b), .slice A u.length cc] W fun e W' => e = .returned (.int .i64 2) ∧ RTurn w0 r d.power.2 R W W' := by
  have H := Aside0.mk h
  obtain ⟨vs, vl, vf, fl, c0⟩ := h
  have HC := Aside0.mk c0
  have HCL := Aside0.mk (fun X (hX : Below W.heap.size W X) => (c0.step hX).cells)
  have HOK := Aside0.mk hok
  have HN := Aside0.mk hN
  have HRD := Aside0.mk (fun X (hX : Below w0.heap.size w0 X) => hrd.below hX)
  have HB0 := Aside0.mk (Below.refl W.heap.size W)
  have RA := Aside0.mk (refName a ha)
  have RB := Aside0.mk (refName b hb)
  obtain ⟨-, -, -, c3, -, c5⟩ := c0.cells
  have HRA := Aside0.mk hra
  clear hra
  rw [hoff] at c5
  have HOFF := Aside0.mk hoff
  clear hoff
  have HG := Aside0.mk hg
  have hgi : i < d.files.length := hok.live i (live_get hok.ok hg)
  have HGI := Aside0.mk hgi
  have hil : i ≤ 1000000 := by have := hok.many.2; omega
  clear hgi
  clear hg
  have HPW := Aside0.mk hpw
  clear hpw
  clear c0 hok hrd hN
  go_enter Try.func29, Try.ntmps29
  go_wp2_with (first
    | (go_at_call 10; refine (RA.out _).mono ?_; rintro e W1 ⟨rfl, hd⟩; rw [HRA.out]; have HB1 := Aside0.mk (chain' HB0.out hd.below); clear hd; clear c3 c5; obtain ⟨-, -, -, c3, -, c5⟩ := HCL.out _ HB1.out; rw [HOFF.out] at c5; clear RA)
    | (go_at_call 45; refine (hasIs (H.out.step HB1.out) HOK.out (by have := HN.out; omega) a).mono ?_; rintro e W5 ⟨rfl, hbb⟩; rw [HG.out]; simp only [fileI]; have HB5 := Aside0.mk (chain' HB1.out hbb); clear hbb; clear c3 c5; obtain ⟨-, -, -, c3, -, c5⟩ := HCL.out _ HB5.out; rw [HOFF.out] at c5))
  go_quiet (fail)
  go_wp2_with (go_at_call 48; refine (powerR (H.out.step (chain' HB5.out (by repeat (first | exact Below.refl _ _ | apply below_drew1 | apply pw_below_drewN | refine below_alloc ?_ _)))) HOK.out.fuse).mono ?_; rintro e W7 ⟨rfl, R7, hA7, ht7⟩; rw [HPW.out]; have HT7 := Aside0.mk ((Turn.of_below (T := R) (chain' HB5.out (by repeat (first | exact Below.refl _ _ | apply below_drew1 | apply pw_below_drewN | refine below_alloc ?_ _)))).trans ht7); clear ht7; have HA7 := Aside0.mk hA7; clear hA7)
  go_ret
  exact ⟨rfl, _, HA7.out, HT7.out⟩
set_option maxHeartbeats 4000000 in
set_option maxRecDepth 100000 in
theorem do5ok {w0 W : World} {r : Nat} {d : RDisk} {R : Nat → Prop} {N : Nat} (h : RAt w0 r d R W) (hok : ROk d N) (hN : N ≤ 900000) (a b : Nm) (ha : a.length ≤ 140737488351232) (hb : b.length ≤ 140737488351232) (u : List UInt8) (A : Option Addr) (cc : Nat) (hrd : ReadsInt w0 .u8 A (B u).length (B u)) (hul : u.length ≤ 1000) (hra : rightB a = true) (hoff : d.off = false) (i : Nat) (hg : get d.dir a = some i) (hpw : d.power.1 = true) :
    Calls Try.prog 29 #[.pointer (some ⟨r, 0, none⟩), .int .i64 5, .string (S a), .string (S b), .slice A u.length cc] W fun e W' => e = .returned (.int .i64 0) ∧ RTurn w0 r (d.power.2.push ⟨3, a, [], 0⟩) R W W' := by
  have H := Aside0.mk h
  obtain ⟨vs, vl, vf, fl, c0⟩ := h
  have HC := Aside0.mk c0
  have HCL := Aside0.mk (fun X (hX : Below W.heap.size W X) => (c0.step hX).cells)
  have HOK := Aside0.mk hok
  have HN := Aside0.mk hN
  have HRD := Aside0.mk (fun X (hX : Below w0.heap.size w0 X) => hrd.below hX)
  have HB0 := Aside0.mk (Below.refl W.heap.size W)
  have RA := Aside0.mk (refName a ha)
  have RB := Aside0.mk (refName b hb)
  obtain ⟨-, -, -, c3, -, c5⟩ := c0.cells
  have HRA := Aside0.mk hra
  clear hra
  rw [hoff] at c5
  have HOFF := Aside0.mk hoff
  clear hoff
  have HG := Aside0.mk hg
  have hgi : i < d.files.length := hok.live i (live_get hok.ok hg)
  have HGI := Aside0.mk hgi
  have hil : i ≤ 1000000 := by have := hok.many.2; omega
  clear hgi
  clear hg
  have HPW := Aside0.mk hpw
  clear hpw
  clear c0 hok hrd hN
  go_enter Try.func29, Try.ntmps29
  go_wp2_with (first
    | (go_at_call 10; refine (RA.out _).mono ?_; rintro e W1 ⟨rfl, hd⟩; rw [HRA.out]; have HB1 := Aside0.mk (chain' HB0.out hd.below); clear hd; clear c3 c5; obtain ⟨-, -, -, c3, -, c5⟩ := HCL.out _ HB1.out; rw [HOFF.out] at c5; clear RA)
    | (go_at_call 45; refine (hasIs (H.out.step HB1.out) HOK.out (by have := HN.out; omega) a).mono ?_; rintro e W5 ⟨rfl, hbb⟩; rw [HG.out]; simp only [fileI]; have HB5 := Aside0.mk (chain' HB1.out hbb); clear hbb; clear c3 c5; obtain ⟨-, -, -, c3, -, c5⟩ := HCL.out _ HB5.out; rw [HOFF.out] at c5))
  go_quiet (fail)
  go_wp2_with (first
    | (go_at_call 48; refine (powerR (H.out.step (chain' HB5.out (by repeat (first | exact Below.refl _ _ | apply below_drew1 | apply pw_below_drewN | refine below_alloc ?_ _)))) HOK.out.fuse).mono ?_; rintro e W7 ⟨rfl, R7, hA7, ht7⟩; rw [HPW.out]; have HT7 := Aside0.mk ((Turn.of_below (T := R) (chain' HB5.out (by repeat (first | exact Below.refl _ _ | apply below_drew1 | apply pw_below_drewN | refine below_alloc ?_ _)))).trans ht7); clear ht7; obtain ⟨vs7, vl7, vf7, fl7, h7⟩ := hA7; have HC7 := Aside0.mk h7; have HR7 := Aside0.mk (rpow_raw d); obtain ⟨⟨As7, cs7, rfl⟩, ⟨Al7, cl7, rfl⟩, ⟨Af7, cf7, rfl⟩⟩ := h7.slices; obtain ⟨p0, p1, p2, -, -, -⟩ := h7.cells; have q0 := h7.frozen 0; have q1 := h7.frozen 1; have q2 := h7.frozen 2; clear h7; have HLL := Aside0.mk (show d.power.2.loose.length ≤ 2000000 from looseLe HOK.out HN.out))
    | (at_builtin; refine appendC (base := w0.heap.size) ?_ ?_ ⟨3, a, [], 0⟩ HLL.out rfl _ _ rfl rfl _ 1 rfl ?_ ?_; exact World.ownsRow.alloc HC7.out.loose _; exact Nat.le_trans HC7.out.below.size (sizeAlloc _ _); exact chgNew ⟨3, a, [], 0⟩ (at_new _ rfl) rfl; intro v1 w1 h1 g1 hat; have HRW := Aside0.mk (HC7.out.after (below_alloc (Below.refl _ _) _) g1 (fun e => (HC7.out.ne.2.1 r e).1 rfl)); obtain ⟨-, -, -, y1, y2⟩ := HRW.out; obtain ⟨-, z1, -⟩ := HRW.out; have HE := Aside0.mk (pushEnd HC7.out ⟨3, a, [], 0⟩ (below_alloc (Below.refl _ _) _) h1 g1 hat); obtain ⟨A1, n1, c1, rfl⟩ := own_three h1; clear h1 g1 hat p0 p1 p2 q0 q1 q2))
  go_ret
  exact ⟨rfl, RTurn.trans HT7.out HE.out⟩
end Go.Proofs.Ytibmgcihpbofdaa.Fs
namespace Go.Proofs.Ytibmgcihpbofdaa.Fs
open Go.RowKit Go.Proofs.Ytibmgcihpbofdaa Go.Proofs.Ytibmgcihpbofdaa.Plain Go.Proofs.YtibmgcihpbofdaaW.PrintWords Go.Maps
set_option linter.unusedVariables false
set_option linter.unusedSimpArgs false
set_option maxHeartbeats 4000000 in
set_option maxRecDepth 100000 in
theorem do6off {w0 W : World} {r : Nat} {d : RDisk} {R : Nat → Prop} {N : Nat} (h : RAt w0 r d R W) (hok : ROk d N) (hN : N ≤ 900000) (a b : Nm) (ha : a.length ≤ 140737488351232) (hb : b.length ≤ 140737488351232) (u : List UInt8) (A : Option Addr) (cc : Nat) (hrd : ReadsInt w0 .u8 A (B u).length (B u)) (hul : u.length ≤ 1000) (hoff : d.off = true) :
    Calls Try.prog 29 #[.pointer (some ⟨r, 0, none⟩), .int .i64 6, .string (S a), .string (S b), .slice A u.length cc] W fun e W' => e = .returned (.int .i64 2) ∧ RTurn w0 r d R W W' := by
  have H := Aside0.mk h
  obtain ⟨vs, vl, vf, fl, c0⟩ := h
  have HC := Aside0.mk c0
  have HCL := Aside0.mk (fun X (hX : Below W.heap.size W X) => (c0.step hX).cells)
  have HOK := Aside0.mk hok
  have HN := Aside0.mk hN
  have HRD := Aside0.mk (fun X (hX : Below w0.heap.size w0 X) => hrd.below hX)
  have HB0 := Aside0.mk (Below.refl W.heap.size W)
  have RA := Aside0.mk (refName a ha)
  have RB := Aside0.mk (refName b hb)
  obtain ⟨-, -, -, c3, -, c5⟩ := c0.cells
  rw [hoff] at c5
  have HOFF := Aside0.mk hoff
  clear hoff
  clear c0 hok hrd hN
  go_enter Try.func29, Try.ntmps29
  go_wp2
  go_ret
  exact ⟨rfl, R, H.out.step (chain' HB0.out (by repeat (first | exact Below.refl _ _ | apply below_drew1 | apply pw_below_drewN | refine below_alloc ?_ _))), Turn.of_below (chain' HB0.out (by repeat (first | exact Below.refl _ _ | apply below_drew1 | apply pw_below_drewN | refine below_alloc ?_ _)))⟩
set_option maxHeartbeats 4000000 in
set_option maxRecDepth 100000 in
theorem do6down {w0 W : World} {r : Nat} {d : RDisk} {R : Nat → Prop} {N : Nat} (h : RAt w0 r d R W) (hok : ROk d N) (hN : N ≤ 900000) (a b : Nm) (ha : a.length ≤ 140737488351232) (hb : b.length ≤ 140737488351232) (u : List UInt8) (A : Option Addr) (cc : Nat) (hrd : ReadsInt w0 .u8 A (B u).length (B u)) (hul : u.length ≤ 1000) (hoff : d.off = false) (hpw : d.power.1 = false) :
    Calls Try.prog 29 #[.pointer (some ⟨r, 0, none⟩), .int .i64 6, .string (S a), .string (S b), .slice A u.length cc] W fun e W' => e = .returned (.int .i64 2) ∧ RTurn w0 r d.power.2 R W W' := by
  have H := Aside0.mk h
  obtain ⟨vs, vl, vf, fl, c0⟩ := h
  have HC := Aside0.mk c0
  have HCL := Aside0.mk (fun X (hX : Below W.heap.size W X) => (c0.step hX).cells)
  have HOK := Aside0.mk hok
  have HN := Aside0.mk hN
  have HRD := Aside0.mk (fun X (hX : Below w0.heap.size w0 X) => hrd.below hX)
  have HB0 := Aside0.mk (Below.refl W.heap.size W)
  have RA := Aside0.mk (refName a ha)
  have RB := Aside0.mk (refName b hb)
  obtain ⟨-, -, -, c3, -, c5⟩ := c0.cells
  rw [hoff] at c5
  have HOFF := Aside0.mk hoff
  clear hoff
  have HPW := Aside0.mk hpw
  clear hpw
  clear c0 hok hrd hN
  go_enter Try.func29, Try.ntmps29
  go_wp2_with (go_at_call 48; refine (powerR (H.out.step (chain' HB0.out (by repeat (first | exact Below.refl _ _ | apply below_drew1 | apply pw_below_drewN | refine below_alloc ?_ _)))) HOK.out.fuse).mono ?_; rintro e W7 ⟨rfl, R7, hA7, ht7⟩; rw [HPW.out]; have HT7 := Aside0.mk ((Turn.of_below (T := R) (chain' HB0.out (by repeat (first | exact Below.refl _ _ | apply below_drew1 | apply pw_below_drewN | refine below_alloc ?_ _)))).trans ht7); clear ht7; have HA7 := Aside0.mk hA7; clear hA7)
  go_ret
  exact ⟨rfl, _, HA7.out, HT7.out⟩
set_option maxHeartbeats 4000000 in
set_option maxRecDepth 100000 in
theorem do6ok {w0 W : World} {r : Nat} {d : RDisk} {R : Nat → Prop} {N : Nat} (h : RAt w0 r d R W) (hok : ROk d N) (hN : N ≤ 900000) (a b : Nm) (ha : a.length ≤ 140737488351232) (hb : b.length ≤ 140737488351232) (u : List UInt8) (A : Option Addr) (cc : Nat) (hrd : ReadsInt w0 .u8 A (B u).length (B u)) (hul : u.length ≤ 1000) (hoff : d.off = false) (hpw : d.power.1 = true) :
    Calls Try.prog 29 #[.pointer (some ⟨r, 0, none⟩), .int .i64 6, .string (S a), .string (S b), .slice A u.length cc] W fun e W' => e = .returned (.int .i64 0) ∧ RTurn w0 r d.power.2.firmed R W W' := by
  have H := Aside0.mk h
  obtain ⟨vs, vl, vf, fl, c0⟩ := h
  have HC := Aside0.mk c0
  have HCL := Aside0.mk (fun X (hX : Below W.heap.size W X) => (c0.step hX).cells)
  have HOK := Aside0.mk hok
  have HN := Aside0.mk hN
  have HRD := Aside0.mk (fun X (hX : Below w0.heap.size w0 X) => hrd.below hX)
  have HB0 := Aside0.mk (Below.refl W.heap.size W)
  have RA := Aside0.mk (refName a ha)
  have RB := Aside0.mk (refName b hb)
  obtain ⟨-, -, -, c3, -, c5⟩ := c0.cells
  rw [hoff] at c5
  have HOFF := Aside0.mk hoff
  clear hoff
  have HPW := Aside0.mk hpw
  clear hpw
  clear c0 hok hrd hN
  go_enter Try.func29, Try.ntmps29
  go_wp2_with (first
    | (go_at_call 48; refine (powerR (H.out.step (chain' HB0.out (by repeat (first | exact Below.refl _ _ | apply below_drew1 | apply pw_below_drewN | refine below_alloc ?_ _)))) HOK.out.fuse).mono ?_; rintro e W7 ⟨rfl, R7, hA7, ht7⟩; rw [HPW.out]; have HT7 := Aside0.mk ((Turn.of_below (T := R) (chain' HB0.out (by repeat (first | exact Below.refl _ _ | apply below_drew1 | apply pw_below_drewN | refine below_alloc ?_ _)))).trans ht7); clear ht7; obtain ⟨vs7, vl7, vf7, fl7, h7⟩ := hA7; have HC7 := Aside0.mk h7; have HR7 := Aside0.mk (rpow_raw d); obtain ⟨⟨As7, cs7, rfl⟩, ⟨Al7, cl7, rfl⟩, ⟨Af7, cf7, rfl⟩⟩ := h7.slices; obtain ⟨p0, p1, p2, -, -, -⟩ := h7.cells; have q0 := h7.frozen 0; have q1 := h7.frozen 1; have q2 := h7.frozen 2; clear h7; have HK7 := Aside0.mk (HOK.out.power))
    | (go_at_call 46; refine (dirIs ⟨_, _, _, _, HC7.out⟩ HK7.out (by have := HN.out; omega)).mono ?_; rintro e W8 ⟨v8, rfl, hD⟩; have HE := Aside0.mk (firmEnd HC7.out hD (p' := d.power.2.firmed) rfl); have hc8 := HC7.out.step hD.below; obtain ⟨A8, c8, rfl⟩ := hD.slice; clear p0 p1 p2 q0 q1 q2; obtain ⟨p0, p1, -, -, -, -⟩ := hc8.cells; have q0 := hc8.frozen 0; have q1 := hc8.frozen 1; clear hc8 hD))
  go_ret
  obtain ⟨R8, e1, e2⟩ := HE.out
  exact ⟨rfl, R8, ⟨_, _, _, _, e1⟩, HT7.out.trans e2⟩
end Go.Proofs.Ytibmgcihpbofdaa.Fs
namespace Go.Proofs.Ytibmgcihpbofdaa.Fs
open Go.RowKit Go.Proofs.Ytibmgcihpbofdaa Go.Proofs.Ytibmgcihpbofdaa.Plain Go.Proofs.YtibmgcihpbofdaaW.PrintWords Go.Maps
set_option linter.unusedVariables false
set_option linter.unusedSimpArgs false
set_option maxHeartbeats 4000000 in
set_option maxRecDepth 100000 in
theorem do1ok {w0 W : World} {r : Nat} {d : RDisk} {R : Nat → Prop} {N : Nat} (h : RAt w0 r d R W) (hok : ROk d N) (hN : N ≤ 900000) (a b : Nm) (ha : a.length ≤ 140737488351232) (hb : b.length ≤ 140737488351232) (u : List UInt8) (A : Option Addr) (cc : Nat) (hrd : ReadsInt w0 .u8 A (B u).length (B u)) (hul : u.length ≤ 1000) (hra : rightB a = true) (hoff : d.off = false) (hg : get d.dir a = none) (hnf : ¬ d.dir.length ≥ 256) (hpw : d.power.1 = true) :
    Calls Try.prog 29 #[.pointer (some ⟨r, 0, none⟩), .int .i64 1, .string (S a), .string (S b), .slice A u.length cc] W fun e W' => e = .returned (.int .i64 0) ∧ RTurn w0 r (d.power.2.born a) R W W' := by
  have H := Aside0.mk h
  obtain ⟨vs, vl, vf, fl, c0⟩ := h
  have HC := Aside0.mk c0
  have HCL := Aside0.mk (fun X (hX : Below W.heap.size W X) => (c0.step hX).cells)
  have HOK := Aside0.mk hok
  have HN := Aside0.mk hN
  have HRD := Aside0.mk (fun X (hX : Below w0.heap.size w0 X) => hrd.below hX)
  have HB0 := Aside0.mk (Below.refl W.heap.size W)
  have RA := Aside0.mk (refName a ha)
  have RB := Aside0.mk (refName b hb)
  obtain ⟨-, -, -, c3, -, c5⟩ := c0.cells
  have HRA := Aside0.mk hra
  clear hra
  rw [hoff] at c5
  have HOFF := Aside0.mk hoff
  clear hoff
  have HG := Aside0.mk hg
  clear hg
  have HPW := Aside0.mk hpw
  clear hpw
  obtain ⟨n, hn⟩ : ∃ n, d.dir.length = n := ⟨_, rfl⟩
  have HDN := Aside0.mk hn
  have hfu : ((256 : Int) ≤ (n : Int)) = False := by simp only [eq_iff_iff, iff_false]; omega
  clear hnf hn
  clear c0 hok hrd hN
  go_enter Try.func29, Try.ntmps29
  go_wp2_with (first
    | (go_at_call 10; refine (RA.out _).mono ?_; rintro e W1 ⟨rfl, hd⟩; rw [HRA.out]; have HB1 := Aside0.mk (chain' HB0.out hd.below); clear hd; clear c3 c5; obtain ⟨-, -, -, c3, -, c5⟩ := HCL.out _ HB1.out; rw [HOFF.out] at c5; clear RA)
    | (go_at_call 45; refine (hasIs (H.out.step HB1.out) HOK.out (by have := HN.out; omega) a).mono ?_; rintro e W5 ⟨rfl, hbb⟩; rw [HG.out]; simp only [fileI]; have HB5 := Aside0.mk (chain' HB1.out hbb); clear hbb; clear c3 c5; obtain ⟨-, -, -, c3, -, c5⟩ := HCL.out _ HB5.out; rw [HOFF.out] at c5))
  refine wp_region_any (by kernel_rfl) ?_
  try (change wpAny _ _ _ _ _ _ _ (World.drew _))
  refine wpAny_take (i := 0) (v := ?_) rfl (by kernel_rfl) (by kernel_rfl) (by kernel_rfl) (fun _ _ _ h => h) (Or.inl ⟨by rfl, ?_⟩) ?_
  rotate_left
  · intro w; go_simp <;> with_reducible rfl
  go_simp
  refine wpAny_take (i := 1) (v := ?_) rfl (by kernel_rfl) (by kernel_rfl) (by kernel_rfl) (fun _ _ _ h => h) (Or.inl ⟨by rfl, ?_⟩) ?_
  rotate_left
  · intro w; go_simp <;> with_reducible rfl
  go_simp
  refine wpAny_take (i := 2) (v := ?_) rfl (by kernel_rfl) (by kernel_rfl) (by kernel_rfl) (fun _ _ _ h => h) (Or.inl ⟨by rfl, ?_⟩) ?_
  rotate_left
  · intro w; go_simp <;> with_reducible rfl
  go_simp
  refine wpAny_take (i := 3) (v := ?_) rfl (by kernel_rfl) (by kernel_rfl) (by kernel_rfl) (fun _ _ _ h => h) (Or.inl ⟨by rfl, ?_⟩) ?_
  rotate_left
  · intro w; go_simp <;> with_reducible rfl
  go_simp
  refine wpAny_ready (rs := [4]) (by kernel_rfl) (by simp) ?_
  refine AllReady.cons rfl (fun K hK => ?_) (AllReady.nil)
  go_simp
  go_at_call 46
  refine (dirIs (H.out.step (chain' HB5.out (by repeat (first | exact Below.refl _ _ | apply below_drew1 | refine below_alloc ?_ _)))) HOK.out (by have := HN.out; omega)).mono ?_
  rintro e W6 ⟨v6, rfl, hD⟩
  have HB6 := Aside0.mk (chain' HB5.out (chain' (W := W5) (by repeat (first | exact Below.refl _ _ | apply below_drew1 | refine below_alloc ?_ _)) hD.below))
  obtain ⟨A6, c6, rfl⟩ := hD.slice
  rw [HDN.out]
  clear hD
  try go_simp
  refine hK _ _ ?_
  clear hK K
  try go_simp
  refine wpAny_take (i := 5) (v := ?_) rfl (by kernel_rfl) (by kernel_rfl) (by kernel_rfl) (fun _ _ _ h => h) (Or.inl ⟨by rfl, ?_⟩) ?_
  rotate_left
  · intro w; go_simp <;> with_reducible rfl
  go_simp
  refine wpAny_take (i := 6) (v := ?_) rfl (by kernel_rfl) (by kernel_rfl) (by kernel_rfl) (fun _ _ _ h => h) (Or.inl ⟨by rfl, ?_⟩) ?_
  rotate_left
  · intro w; go_simp <;> with_reducible rfl
  go_simp
  refine wpAny_take (i := 7) (v := ?_) rfl (by kernel_rfl) (by kernel_rfl) (by kernel_rfl) (fun _ _ _ h => h) (Or.inl ⟨by rfl, ?_⟩) ?_
  rotate_left
  · intro w; go_simp <;> with_reducible rfl
  go_simp
  refine wpAny_take (i := 8) (v := ?_) rfl (by kernel_rfl) (by kernel_rfl) (by kernel_rfl) (fun _ _ _ h => h) (Or.inl ⟨by rfl, ?_⟩) ?_
  rotate_left
  · intro w; go_simp <;> with_reducible rfl
  go_simp
  refine wpAny_take (i := 9) (v := ?_) rfl (by kernel_rfl) (by kernel_rfl) (by kernel_rfl) (fun _ _ _ h => h) (Or.inl ⟨by rfl, ?_⟩) ?_
  rotate_left
  · intro w; go_simp <;> with_reducible rfl
  go_simp
  refine wpAny_take (i := 10) (v := ?_) rfl (by kernel_rfl) (by kernel_rfl) (by kernel_rfl) (fun _ _ _ h => h) (Or.inl ⟨by rfl, ?_⟩) ?_
  rotate_left
  · intro w; go_simp <;> with_reducible rfl
  go_simp
  refine wpAny_take (i := 11) (v := ?_) rfl (by kernel_rfl) (by kernel_rfl) (by kernel_rfl) (fun _ _ _ h => h) (Or.inl ⟨by rfl, ?_⟩) ?_
  rotate_left
  · intro w; go_simp <;> with_reducible rfl
  go_simp
  refine wpAny_take (i := 12) (v := undef) rfl (by kernel_rfl) (by kernel_rfl) (by kernel_rfl) (fun _ _ _ h => h) (Or.inr ⟨by rfl, rfl⟩) ?_
  go_simp
  refine wpAny_take (i := 13) (v := undef) rfl (by kernel_rfl) (by kernel_rfl) (by kernel_rfl) (fun _ _ _ h => h) (Or.inr ⟨by rfl, rfl⟩) ?_
  go_simp
  refine wpAny_take (i := 14) (v := undef) rfl (by kernel_rfl) (by kernel_rfl) (by kernel_rfl) (fun _ _ _ h => h) (Or.inr ⟨by rfl, rfl⟩) ?_
  go_simp
  refine wpAny_take (i := 15) (v := undef) rfl (by kernel_rfl) (by kernel_rfl) (by kernel_rfl) (fun _ _ _ h => h) (Or.inr ⟨by rfl, rfl⟩) ?_
  go_simp
  refine wpAny_take (i := 16) (v := undef) rfl (by kernel_rfl) (by kernel_rfl) (by kernel_rfl) (fun _ _ _ h => h) (Or.inr ⟨by rfl, rfl⟩) ?_
  go_simp
  refine wpAny_take (i := 17) (v := undef) rfl (by kernel_rfl) (by kernel_rfl) (by kernel_rfl) (fun _ _ _ h => h) (Or.inr ⟨by rfl, rfl⟩) ?_
  go_simp
  refine wpAny_take (i := 18) (v := undef) rfl (by kernel_rfl) (by kernel_rfl) (by kernel_rfl) (fun _ _ _ h => h) (Or.inr ⟨by rfl, rfl⟩) ?_
  go_simp
  refine wpAny_take (i := 19) (v := undef) rfl (by kernel_rfl) (by kernel_rfl) (by kernel_rfl) (fun _ _ _ h => h) (Or.inr ⟨by rfl, rfl⟩) ?_
  go_simp
  refine wpAny_take (i := 20) (v := undef) rfl (by kernel_rfl) (by kernel_rfl) (by kernel_rfl) (fun _ _ _ h => h) (Or.inr ⟨by rfl, rfl⟩) ?_
  go_simp
  refine wpAny_take (i := 21) (v := undef) rfl (by kernel_rfl) (by kernel_rfl) (by kernel_rfl) (fun _ _ _ h => h) (Or.inr ⟨by rfl, rfl⟩) ?_
  go_simp
  refine wpAny_take (i := 22) (v := ?_) rfl (by kernel_rfl) (by kernel_rfl) (by kernel_rfl) (fun _ _ _ h => h) (Or.inl ⟨by rfl, ?_⟩) ?_
  rotate_left
  · intro w; go_simp <;> with_reducible rfl
  go_simp
  refine wpAny_take (i := 23) (v := ?_) rfl (by kernel_rfl) (by kernel_rfl) (by kernel_rfl) (fun _ _ _ h => h) (Or.inl ⟨by rfl, ?_⟩) ?_
  rotate_left
  · intro w; go_simp <;> with_reducible rfl
  go_simp
  refine wpAny_done (by kernel_rfl) ?_ _
  go_wp2_with (first
                                                              | (go_at_call 48; refine (powerR (H.out.step (chain' HB6.out (by repeat (first | exact Below.refl _ _ | apply below_drew1 | apply pw_below_drewN | refine below_alloc ?_ _)))) HOK.out.fuse).mono ?_; rintro e W7 ⟨rfl, R7, hA7, ht7⟩; rw [HPW.out]; have HT7 := Aside0.mk ((Turn.of_below (T := R) (chain' HB6.out (by repeat (first | exact Below.refl _ _ | apply below_drew1 | apply pw_below_drewN | refine below_alloc ?_ _)))).trans ht7); clear ht7; obtain ⟨vs7, vl7, vf7, fl7, h7⟩ := hA7; have HC7 := Aside0.mk h7; have HR7 := Aside0.mk (rpow_raw d); obtain ⟨⟨As7, cs7, rfl⟩, ⟨Al7, cl7, rfl⟩, ⟨Af7, cf7, rfl⟩⟩ := h7.slices; obtain ⟨p0, p1, p2, -, -, -⟩ := h7.cells; have q0 := h7.frozen 0; have q1 := h7.frozen 1; have q2 := h7.frozen 2; clear h7; have HLL := Aside0.mk (show d.power.2.loose.length ≤ 2000000 from looseLe HOK.out HN.out); have HFL := Aside0.mk (show fl7.length = d.power.2.files.length from HC7.out.len.symm); have HFM := Aside0.mk (show d.power.2.files.length ≤ 900000 from (by rw [HR7.out.1]; have := HOK.out.many.2; have := HN.out; omega)))
                                                              | (at_builtin; refine appendFl (base := w0.heap.size) (l := fl7) ?_ ?_ (by have := HFL.out; have := HFM.out; omega) rfl _ _ rfl rfl _ 1 rfl (at_new _ rfl) ?_; exact World.ownsRow.alloc HC7.out.files _; exact Nat.le_trans HC7.out.below.size (sizeAlloc _ _); intro v1 w1 h1 g1 hat; have HRW := Aside0.mk (HC7.out.after (below_alloc (Below.refl _ _) _) g1 (fun e => (HC7.out.ne.2.2.1 r e).1 rfl)); obtain ⟨-, -, -, y1, y2⟩ := HRW.out; obtain ⟨-, z1, z2, -⟩ := HRW.out; obtain ⟨R8, k1, k2⟩ := fileEnd HC7.out (below_alloc (Below.refl _ _) _) h1 g1 hat; have HC8 := Aside0.mk k1; have HT8 := Aside0.mk k2; obtain ⟨A1, n1, c1, hn1, rfl⟩ := own_four h1; obtain ⟨mf, hmf⟩ : ∃ mf, d.power.2.files.length = mf := ⟨_, rfl⟩; have hn2 : n1 = mf + 1 := (by rw [hn1, List.length_append, HFL.out, hmf]; rfl); have hwn : IntKind.i64.wrap ((n1 : Int) - 1) = (mf : Int) := (by rw [IntWalk.i64_in _ (by have := HFM.out; omega)]; omega); have HMF := Aside0.mk hmf; clear h1 g1 hat p0 p1 p2 q0 q1 q2 k1 k2 hn1 hn2 hmf))
  obtain ⟨w8, hw8⟩ : ∃ w8, (w1.setCell ⟨r, 2, none⟩ (.slice A1 n1 c1)) = w8 := ⟨_, rfl⟩
  rw [hw8] at HC8 HT8 ⊢
  clear hw8 y1 y2 z1 z2 HRW
  obtain ⟨-, p1, p2, -, -, -⟩ := HC8.out.cells
  have q1 := HC8.out.frozen 1
  have ne1 : w8.heap.size ≠ r := World.new_ne w8 ⟨r, 1, none⟩ p1
  have hal1 : ∀ o : Obj, (w8.alloc o).cell? ⟨r, 1, none⟩ = some (.slice Al7 d.power.2.loose.length cl7) := fun o => (HC8.out.step (below_alloc (Below.refl _ _) o)).cells.2.1
  have HZ8 := Aside0.mk (Below.refl w8.heap.size w8)
  go_region_law (refine stepC (base := w0.heap.size) (l := d.power.2.loose) (v := .slice Al7 d.power.2.loose.length cl7) ((HC8.out.step (by repeat (first | exact HZ8.out | apply below_drew1 | refine below_alloc ?_ _))).loose) (Nat.le_trans HC8.out.below.size (by simp)) ⟨1, a, [], mf⟩ HLL.out rfl (.tmp 93) (.tmp 102) rfl (by first | (simp [Act.eval, Act.put]; done) | (simp [Act.eval, Act.put]; rfl)) ⟨_, 0, none⟩ 1 (by first | (simp [Act.eval, Act.put]; done) | (simp [Act.eval, Act.put]; rfl)) (chgNew ⟨1, a, [], mf⟩ (by repeat (first | with_reducible exact at_new _ (by simp) | with_reducible apply at_drew | with_reducible refine at_old _ ?_)) (by rfl)) ?_; intro v2 w2 h2 g2 hat; have HE := Aside0.mk (pushEnd HC8.out ⟨1, a, [], mf⟩ (by repeat (first | exact HZ8.out | apply below_drew1 | refine below_alloc ?_ _)) h2 g2 hat); have HRW2 := Aside0.mk (HC8.out.after (by repeat (first | exact HZ8.out | apply below_drew1 | refine below_alloc ?_ _)) g2 (fun e => (HC8.out.ne.2.1 r e).1 rfl)); obtain ⟨-, z3, z4, y3, y4⟩ := HRW2.out; obtain ⟨A2, n2, c2, rfl⟩ := own_three h2; clear h2 g2 hat)
  all_goals (go_wp2; go_ret; have e : d.power.2.born a = RDisk.push { d.power.2 with files := d.power.2.files ++ [([], 0)] } ⟨1, a, [], mf⟩ := (by rw [← HMF.out]; try rfl); rw [e]; exact ⟨rfl, RTurn.trans HT7.out (RTurn.trans HT8.out HE.out)⟩)
  -- END
end Go.Proofs.Ytibmgcihpbofdaa.Fs
namespace Go.Proofs.Ytibmgcihpbofdaa.Fs
open Go.RowKit Go.Proofs.Ytibmgcihpbofdaa Go.Proofs.Ytibmgcihpbofdaa.Plain Go.Proofs.YtibmgcihpbofdaaW.PrintWords Go.Maps
set_option linter.unusedVariables false
set_option linter.unusedSimpArgs false
set_option maxHeartbeats 4000000 in
set_option maxRecDepth 100000 in
theorem do2ok {w0 W : World} {r : Nat} {d : RDisk} {R : Nat → Prop} {N : Nat} (h : RAt w0 r d R W) (hok : ROk d N) (hN : N ≤ 900000) (a b : Nm) (ha : a.length ≤ 140737488351232) (hb : b.length ≤ 140737488351232) (u : List UInt8) (A : Option Addr) (cc : Nat) (hrd : ReadsInt w0 .u8 A (B u).length (B u)) (hul : u.length ≤ 1000) (hra : rightB a = true) (hoff : d.off = false) (i : Nat) (hg : get d.dir a = some i) (hfull : ¬ (u.length : Int) > d.room - (d.used : Int)) (hpw : d.power.1 = true) :
    Calls Try.prog 29 #[.pointer (some ⟨r, 0, none⟩), .int .i64 2, .string (S a), .string (S b), .slice A u.length cc] W fun e W' => e = .returned (.int .i64 0) ∧ RTurn w0 r (d.power.2.write i (d.bytes i ++ u) (d.firm i)) R W W' := by
  have H := Aside0.mk h
  obtain ⟨vs, vl, vf, fl, c0⟩ := h
  have HC := Aside0.mk c0
  have HCL := Aside0.mk (fun X (hX : Below W.heap.size W X) => (c0.step hX).cells)
  have HOK := Aside0.mk hok
  have HN := Aside0.mk hN
  have HRD := Aside0.mk (fun X (hX : Below w0.heap.size w0 X) => hrd.below hX)
  have HB0 := Aside0.mk (Below.refl W.heap.size W)
  have RA := Aside0.mk (refName a ha)
  have RB := Aside0.mk (refName b hb)
  obtain ⟨-, -, -, c3, -, c5⟩ := c0.cells
  have HRA := Aside0.mk hra
  clear hra
  rw [hoff] at c5
  have HOFF := Aside0.mk hoff
  clear hoff
  have HG := Aside0.mk hg
  have hgi : i < d.files.length := hok.live i (live_get hok.ok hg)
  have HGI := Aside0.mk hgi
  have hil : i ≤ 1000000 := by have := hok.many.2; omega
  clear hgi
  clear hg
  have HPW := Aside0.mk hpw
  clear hpw
  obtain ⟨U, hU⟩ : ∃ U, d.used = U := ⟨_, rfl⟩
  have HUN := Aside0.mk hU
  obtain ⟨ro, hro⟩ : ∃ ro, d.room = ro := ⟨_, rfl⟩
  rw [hU, hro] at hfull
  rw [hro] at c3
  have HRO := Aside0.mk hro
  have hul2 : (U : Int) ≤ 9000000000000 := by rw [← hU]; exact usedLe hok hN
  have hror : 0 ≤ ro ∧ ro ≤ 16777216 := by rw [← hro]; exact hok.room
  have hwr : IntKind.i64.wrap (ro - (U : Int)) = ro - (U : Int) := IntWalk.i64_in _ (by omega)
  clear hU hro hror hul2
  clear c0 hok hrd hN
  go_enter Try.func29, Try.ntmps29
  go_wp2_with (first
    | (go_at_call 10; refine (RA.out _).mono ?_; rintro e W1 ⟨rfl, hd⟩; rw [HRA.out]; have HB1 := Aside0.mk (chain' HB0.out hd.below); clear hd; clear c3 c5; obtain ⟨-, -, -, c3, -, c5⟩ := HCL.out _ HB1.out; rw [HOFF.out] at c5; rw [HRO.out] at c3; clear RA)
    | (go_at_call 45; refine (hasIs (H.out.step HB1.out) HOK.out (by have := HN.out; omega) a).mono ?_; rintro e W5 ⟨rfl, hbb⟩; rw [HG.out]; simp only [fileI]; have HB5 := Aside0.mk (chain' HB1.out hbb); clear hbb; clear c3 c5; obtain ⟨-, -, -, c3, -, c5⟩ := HCL.out _ HB5.out; rw [HOFF.out] at c5; rw [HRO.out] at c3))
  refine wp_region_noPanic ?_
  refine wp_region_held_drew (S := (fun X => X.cell? ⟨r, 3, none⟩ = some (.int .i64 ro))) (by kernel_rfl) ?_ (fun hHeld => ?_)
  · (try dsimp only); first | go_keep | assumption
  refine wpAnyH_take (i := 0) (v := ?_) rfl (by kernel_rfl) (by kernel_rfl) (by kernel_rfl) (fun _ _ _ h => h) (Or.inl ⟨by rfl, ?_⟩) (by assumption) ?_
  rotate_left
  · (intro w hSw; (try dsimp only at hSw); (go_simp <;> with_reducible rfl))
  try go_simp
  refine wpAnyH_take (i := 1) (v := ?_) rfl (by kernel_rfl) (by kernel_rfl) (by kernel_rfl) (fun _ _ _ h => h) (Or.inl ⟨by rfl, ?_⟩) (by assumption) ?_
  rotate_left
  · (intro w hSw; (try dsimp only at hSw); (go_simp <;> with_reducible rfl))
  try go_simp
  refine wpAnyH_take (i := 2) (v := ?_) rfl (by kernel_rfl) (by kernel_rfl) (by kernel_rfl) (fun _ _ _ h => h) (Or.inl ⟨by rfl, ?_⟩) (by assumption) ?_
  rotate_left
  · (intro w hSw; (try dsimp only at hSw); (go_simp <;> with_reducible rfl))
  try go_simp
  refine wpAnyH_take (i := 3) (v := undef) rfl (by kernel_rfl) (by kernel_rfl) (by kernel_rfl) (fun _ _ _ h => h) (Or.inr ⟨by rfl, rfl⟩) (by assumption) ?_
  try go_simp
  refine wpAnyH_take (i := 4) (v := undef) rfl (by kernel_rfl) (by kernel_rfl) (by kernel_rfl) (fun _ _ _ h => h) (Or.inr ⟨by rfl, rfl⟩) (by assumption) ?_
  try go_simp
  refine wpAnyH_take (i := 5) (v := undef) rfl (by kernel_rfl) (by kernel_rfl) (by kernel_rfl) (fun _ _ _ h => h) (Or.inr ⟨by rfl, rfl⟩) (by assumption) ?_
  try go_simp
  refine wpAnyH_take (i := 6) (v := undef) rfl (by kernel_rfl) (by kernel_rfl) (by kernel_rfl) (fun _ _ _ h => h) (Or.inr ⟨by rfl, rfl⟩) (by assumption) ?_
  try go_simp
  refine wpAnyH_take (i := 7) (v := ?_) rfl (by kernel_rfl) (by kernel_rfl) (by kernel_rfl) (fun _ _ _ h => h) (Or.inl ⟨by rfl, ?_⟩) (by assumption) ?_
  rotate_left
  · (intro w hSw; (try dsimp only at hSw); (go_simp <;> with_reducible rfl))
  try go_simp
  refine wpAnyH_take (i := 8) (v := ?_) rfl (by kernel_rfl) (by kernel_rfl) (by kernel_rfl) (fun _ _ _ h => h) (Or.inl ⟨by rfl, ?_⟩) (by assumption) ?_
  rotate_left
  · (intro w hSw; (try dsimp only at hSw); (go_simp <;> with_reducible rfl))
  try go_simp
  refine wpAnyH_take (i := 9) (v := ?_) rfl (by kernel_rfl) (by kernel_rfl) (by kernel_rfl) (fun _ _ _ h => h) (Or.inl ⟨by rfl, ?_⟩) (by assumption) ?_
  rotate_left
  · (intro w hSw; (try dsimp only at hSw); (go_simp <;> with_reducible rfl))
  try go_simp
  refine wpAnyH_take (i := 10) (v := ?_) rfl (by kernel_rfl) (by kernel_rfl) (by kernel_rfl) (fun _ _ _ h => h) (Or.inl ⟨by rfl, ?_⟩) (by assumption) ?_
  rotate_left
  · (intro w hSw; (try dsimp only at hSw); (go_simp <;> with_reducible rfl))
  try go_simp
  refine wpAnyH_take (i := 11) (v := ?_) rfl (by kernel_rfl) (by kernel_rfl) (by kernel_rfl) (fun _ _ _ h => h) (Or.inl ⟨by rfl, ?_⟩) (by assumption) ?_
  rotate_left
  · (intro w hSw; (try dsimp only at hSw); (go_simp <;> with_reducible rfl))
  try go_simp
  refine wpAnyH_take (i := 12) (v := ?_) rfl (by kernel_rfl) (by kernel_rfl) (by kernel_rfl) (fun _ _ _ h => h) (Or.inl ⟨by rfl, ?_⟩) (by assumption) ?_
  rotate_left
  · (intro w hSw; (try dsimp only at hSw); (go_simp <;> with_reducible rfl))
  try go_simp
  refine wpAnyH_take (i := 13) (v := ?_) rfl (by kernel_rfl) (by kernel_rfl) (by kernel_rfl) (fun _ _ _ h => h) (Or.inl ⟨by rfl, ?_⟩) (by assumption) ?_
  rotate_left
  · (intro w hSw; (try dsimp only at hSw); (go_simp <;> with_reducible rfl))
  try go_simp
  refine wpAnyH_take (i := 14) (v := ?_) rfl (by kernel_rfl) (by kernel_rfl) (by kernel_rfl) (fun _ _ _ h => h) (Or.inl ⟨by rfl, ?_⟩) (by assumption) ?_
  rotate_left
  · (intro w hSw; (try dsimp only at hSw); (go_simp <;> with_reducible rfl))
  try go_simp
  refine wpAnyH_take (i := 15) (v := ?_) rfl (by kernel_rfl) (by kernel_rfl) (by kernel_rfl) (fun _ _ _ h => h) (Or.inl ⟨by rfl, ?_⟩) (by assumption) ?_
  rotate_left
  · (intro w hSw; (try dsimp only at hSw); (go_simp <;> with_reducible rfl))
  try go_simp
  refine wpAnyH_take (i := 16) (v := ?_) rfl (by kernel_rfl) (by kernel_rfl) (by kernel_rfl) (fun _ _ _ h => h) (Or.inl ⟨by rfl, ?_⟩) (by assumption) ?_
  rotate_left
  · (intro w hSw; (try dsimp only at hSw); (go_simp <;> with_reducible rfl))
  try go_simp
  refine wpAnyH_take (i := 17) (v := ?_) rfl (by kernel_rfl) (by kernel_rfl) (by kernel_rfl) (fun _ _ _ h => h) (Or.inl ⟨by rfl, ?_⟩) (by assumption) ?_
  rotate_left
  · (intro w hSw; (try dsimp only at hSw); (go_simp <;> with_reducible rfl))
  try go_simp
  refine wpAnyH_take (i := 18) (v := ?_) rfl (by kernel_rfl) (by kernel_rfl) (by kernel_rfl) (fun _ _ _ h => h) (Or.inl ⟨by rfl, ?_⟩) (by assumption) ?_
  rotate_left
  · (intro w hSw; (try dsimp only at hSw); (go_simp <;> with_reducible rfl))
  try go_simp
  refine wpAnyH_ready (rs := [19]) (by kernel_rfl) (by simp) ?_
  refine AllReadyH.cons rfl (fun K hK => ?_) AllReadyH.nil
  go_simp
  go_at_call 47
  refine (usedR (H.out.step (chain' HB5.out (by repeat (first | exact Below.refl _ _ | apply below_drew1 | refine below_alloc ?_ _)))) HOK.out (by have := HN.out; omega)).mono ?_
  rintro e W6 ⟨rfl, hD⟩
  have HB6 := Aside0.mk (chain' HB5.out (chain' (W := W5) (by repeat (first | exact Below.refl _ _ | apply below_drew1 | refine below_alloc ?_ _)) hD))
  rw [HUN.out]
  clear hD c3 c5
  obtain ⟨-, -, -, c3, -, c5⟩ := HCL.out _ HB6.out; rw [HOFF.out] at c5; rw [HRO.out] at c3
  try go_simp
  refine hK.out _ _ ?_ (fun hHeld => ?_)
  · (try dsimp only); first | go_keep | assumption
  clear hK K
  try go_simp
  refine wpAnyH_take (i := 20) (v := ?_) rfl (by kernel_rfl) (by kernel_rfl) (by kernel_rfl) (fun _ _ _ h => h) (Or.inl ⟨by rfl, ?_⟩) (by assumption) ?_
  rotate_left
  · (intro w hSw; (try dsimp only at hSw); (go_simp <;> with_reducible rfl))
  try go_simp
  refine wpAnyH_take (i := 21) (v := ?_) rfl (by kernel_rfl) (by kernel_rfl) (by kernel_rfl) (fun _ _ _ h => h) (Or.inl ⟨by rfl, ?_⟩) (by assumption) ?_
  rotate_left
  · (intro w hSw; (try dsimp only at hSw); (go_simp <;> with_reducible rfl))
  try go_simp
  refine wpAnyH_take (i := 22) (v := ?_) rfl (by kernel_rfl) (by kernel_rfl) (by kernel_rfl) (fun _ _ _ h => h) (Or.inl ⟨by rfl, ?_⟩) (by assumption) ?_
  rotate_left
  · (intro w hSw; (try dsimp only at hSw); (go_simp <;> with_reducible rfl))
  try go_simp
  refine wpAnyH_take (i := 23) (v := ?_) rfl (by kernel_rfl) (by kernel_rfl) (by kernel_rfl) (fun _ _ _ h => h) (Or.inl ⟨by rfl, ?_⟩) (by assumption) ?_
  rotate_left
  · (intro w hSw; (try dsimp only at hSw); (go_simp <;> with_reducible rfl))
  try go_simp
  refine wpAnyH_done (by kernel_rfl) ?_ _
  refine NoPanic.normal ?_
  go_wp2_with (go_at_call 48; refine (powerR (H.out.step (chain' HB6.out (by repeat (first | exact Below.refl _ _ | apply below_drew1 | apply pw_below_drewN | refine below_alloc ?_ _)))) HOK.out.fuse).mono ?_; rintro e W7 ⟨rfl, R7, hA7, ht7⟩; rw [HPW.out]; have HT7 := Aside0.mk ((Turn.of_below (T := R) (chain' HB6.out (by repeat (first | exact Below.refl _ _ | apply below_drew1 | apply pw_below_drewN | refine below_alloc ?_ _)))).trans ht7); clear ht7; obtain ⟨vs7, vl7, vf7, fl7, h7⟩ := hA7; have HC7 := Aside0.mk h7; have HR7 := Aside0.mk (rpow_raw d); obtain ⟨⟨As7, cs7, rfl⟩, ⟨Al7, cl7, rfl⟩, ⟨Af7, cf7, rfl⟩⟩ := h7.slices; obtain ⟨p0, p1, p2, -, -, -⟩ := h7.cells; have q0 := h7.frozen 0; have q1 := h7.frozen 1; have q2 := h7.frozen 2; have hi7 : i < fl7.length := (by rw [← h7.len, HR7.out.1]; exact HGI.out); obtain ⟨g, cf, efl, -, -, f0, f1, fr0, fr1⟩ := h7.file i hi7; have hgr : g ≠ r := (h7.ne.2.2.1 g (by rw [efl]; rfl)).1; obtain ⟨q, hq⟩ : ∃ q, fl7[i] = q := ⟨_, rfl⟩; rw [hq] at f0 f1; have HQM := Aside0.mk (show q ∈ fl7 from hq ▸ List.getElem_mem hi7); have HBY := Aside0.mk (show d.bytes i = q.2.1 ∧ d.firm i = q.2.2 from (by rw [← hq, ← rawBytes d i, ← rawFirm d i]; exact h7.bytes i hi7)); have HQI := Aside0.mk (show ∃ hi : i < fl7.length, fl7[i] = q from ⟨hi7, hq⟩); obtain ⟨bv, ub, sf⟩ := q; have hbb : ∃ A c, bv = .slice A (B ub).length c := own_slice (h7.each (bv, ub, sf) HQM.out); obtain ⟨Ab, cb, rfl⟩ := hbb; injection efl with efl _ e3; subst efl; subst e3; have hn7 : fl7.length ≤ 1000000 := (by rw [← h7.len, HR7.out.1]; have := HOK.out.many.2; have := HN.out; omega); clear h7; have hbl : (B ub).length ≤ 1000000 := (by rw [B_length]; have h9 := (bytes_le HOK.out i).1; rw [show d.bytes i = ub from HBY.out.1] at h9; have := HN.out; omega); have HBI := Aside0.mk (fun X (hX : Below W7.heap.size W7 X) => bytesReads ((HC7.out.each _ HQM.out).below hX)); have HUL := Aside0.mk hul; have HBL := Aside0.mk (show ub.length ≤ 1000000 from (by rw [← B_length]; exact hbl)); obtain ⟨m, hm⟩ : ∃ m, (B ub).length = m := ⟨_, rfl⟩; rw [hm] at f0; have HM := Aside0.mk (show m = ub.length from (by rw [← hm, B_length])); rw [hm] at hbl; clear hm; have HZ7 := Aside0.mk (Below.refl W7.heap.size W7); have ne1 : W7.heap.size ≠ r := World.new_ne W7 ⟨r, 2, none⟩ p2; have ne2 : W7.heap.size ≠ g := World.new_ne W7 ⟨g, i * 2, none⟩ f0; have hal2 : ∀ o : Obj, (W7.alloc o).cell? ⟨r, 2, none⟩ = some (.slice (some ⟨g, 0, none⟩) fl7.length cf7) := (fun o => (HC7.out.step (below_alloc (Below.refl _ _) o)).cells.2.2.1); have hal3 : ∀ o : Obj, (W7.alloc o).cell? ⟨g, i * 2, none⟩ = some (.slice Ab m cb) := (fun o => (World.cell?_alloc_some W7 _ o (by rw [f0]; rfl)).trans f0))
  refine wp_region_noPanic ?_
  refine wp_region_held_drew (S := (fun X => X.cell? ⟨r, 2, none⟩ = some (.slice (some ⟨g, 0, none⟩) fl7.length cf7))) (by kernel_rfl) ?_ (fun hHeld => ?_)
  · (try dsimp only); first | go_keep | assumption | exact hal2 _
  refine wpAnyH_take (i := 0) (v := ?_) rfl (by kernel_rfl) (by kernel_rfl) (by kernel_rfl) (fun _ _ _ h => h) (Or.inl ⟨by rfl, ?_⟩) (by assumption) ?_
  rotate_left
  · (intro w hSw; (try dsimp only at hSw); (go_simp <;> with_reducible rfl))
  try go_simp
  refine wpAnyH_take (i := 1) (v := ?_) rfl (by kernel_rfl) (by kernel_rfl) (by kernel_rfl) (fun _ _ _ h => h) (Or.inl ⟨by rfl, ?_⟩) (by assumption) ?_
  rotate_left
  · (intro w hSw; (try dsimp only at hSw); (go_simp <;> with_reducible rfl))
  try go_simp
  refine wpAnyH_take (i := 2) (v := ?_) rfl (by kernel_rfl) (by kernel_rfl) (by kernel_rfl) (fun _ _ _ h => h) (Or.inl ⟨by rfl, ?_⟩) (by assumption) ?_
  rotate_left
  · (intro w hSw; (try dsimp only at hSw); (go_simp <;> with_reducible rfl))
  try go_simp
  refine wpAnyH_take (i := 3) (v := ?_) rfl (by kernel_rfl) (by kernel_rfl) (by kernel_rfl) (fun _ _ _ h => h) (Or.inl ⟨by rfl, ?_⟩) (by assumption) ?_
  rotate_left
  · (intro w hSw; (try dsimp only at hSw); (go_simp <;> with_reducible rfl))
  try go_simp
  refine wpAnyH_take (i := 4) (v := ?_) rfl (by kernel_rfl) (by kernel_rfl) (by kernel_rfl) (fun _ _ _ h => h) (Or.inl ⟨by rfl, ?_⟩) (by assumption) ?_
  rotate_left
  · (intro w hSw; (try dsimp only at hSw); (go_simp <;> with_reducible rfl))
  try go_simp
  refine wpAnyH_take (i := 6) (v := ?_) rfl (by kernel_rfl) (by kernel_rfl) (by kernel_rfl) (fun _ _ _ h => h) (Or.inl ⟨by rfl, ?_⟩) (by assumption) ?_
  rotate_left
  · (intro w hSw; (try dsimp only at hSw); (go_simp <;> with_reducible rfl))
  try go_simp
  refine wpAnyH_take (i := 7) (v := ?_) rfl (by kernel_rfl) (by kernel_rfl) (by kernel_rfl) (fun _ _ _ h => h) (Or.inl ⟨by rfl, ?_⟩) (by assumption) ?_
  rotate_left
  · (intro w hSw; (try dsimp only at hSw); (go_simp <;> with_reducible rfl))
  try go_simp
  refine wpAnyH_take (i := 8) (v := ?_) rfl (by kernel_rfl) (by kernel_rfl) (by kernel_rfl) (fun _ _ _ h => h) (Or.inl ⟨by rfl, ?_⟩) (by assumption) ?_
  rotate_left
  · (intro w hSw; (try dsimp only at hSw); (go_simp <;> with_reducible rfl))
  try go_simp
  refine wpAnyH_take (i := 9) (v := ?_) rfl (by kernel_rfl) (by kernel_rfl) (by kernel_rfl) (fun _ _ _ h => h) (Or.inl ⟨by rfl, ?_⟩) (by assumption) ?_
  rotate_left
  · (intro w hSw; (try dsimp only at hSw); (go_simp <;> with_reducible rfl))
  try go_simp
  refine wpAnyH_take (i := 10) (v := ?_) rfl (by kernel_rfl) (by kernel_rfl) (by kernel_rfl) (fun _ _ _ h => h) (Or.inl ⟨by rfl, ?_⟩) (by assumption) ?_
  rotate_left
  · (intro w hSw; (try dsimp only at hSw); (go_simp <;> with_reducible rfl))
  try go_simp
  refine wpAnyH_take (i := 11) (v := ?_) rfl (by kernel_rfl) (by kernel_rfl) (by kernel_rfl) (fun _ _ _ h => h) (Or.inl ⟨by rfl, ?_⟩) (by assumption) ?_
  rotate_left
  · (intro w hSw; (try dsimp only at hSw); (go_simp <;> with_reducible rfl))
  try go_simp
  refine wpAnyH_take (i := 12) (v := ?_) rfl (by kernel_rfl) (by kernel_rfl) (by kernel_rfl) (fun _ _ _ h => h) (Or.inl ⟨by rfl, ?_⟩) (by assumption) ?_
  rotate_left
  · (intro w hSw; (try dsimp only at hSw); (go_simp <;> with_reducible rfl))
  try go_simp
  refine wpAnyH_take (i := 15) (v := ?_) rfl (by kernel_rfl) (by kernel_rfl) (by kernel_rfl) (fun _ _ _ h => h) (Or.inl ⟨by rfl, ?_⟩) (by assumption) ?_
  rotate_left
  · (intro w hSw; (try dsimp only at hSw); (go_simp <;> with_reducible rfl))
  try go_simp
  refine wpAnyH_ready (rs := [5, 13]) (by kernel_rfl) (by simp) ?_
  refine AllReadyH.cons rfl (fun K hK => ?_) ?_
  · skip
    go_simp
    refine hK.out _ _ ?_ (fun hHeld => ?_)
    · (try dsimp only); first | go_keep | assumption | exact hal2 _
    clear hK K
    try go_simp
    refine wpAnyH_ready (rs := [13]) (by kernel_rfl) (by simp) ?_
    refine AllReadyH.cons rfl (fun K hK => ?_) AllReadyH.nil
    go_simp
    refine hK.out _ _ ?_ (fun hHeld => ?_)
    · (try dsimp only); first | go_keep | assumption | exact hal2 _
    clear hK K
    try go_simp
    refine wpAnyH_ready (rs := [14]) (by kernel_rfl) (by simp) ?_
    refine AllReadyH.cons rfl (fun K hK => ?_) AllReadyH.nil
    refine stepW (Wb := W7) (s := []) (v := .slice (some ⟨_, 0, none⟩) 0 0) (by repeat (first | exact HZ7.out | apply below_drew1 | refine below_alloc ?_ _)) rfl (.tmp 113) (.tmp 121) rfl (by first | (simp [Act.eval, Act.put]; done) | (simp [Act.eval, Act.put]; rfl)) (bytesEmpty (by repeat (first | with_reducible exact at_new _ (by simp) | with_reducible apply at_drew | with_reducible refine at_old _ ?_)) (by simp)) ub (Nat.le_trans (Nat.le_of_eq (Nat.zero_add _)) (Nat.le_trans HBL.out (by omega))) Ab m cb (by first | (simp [Act.eval, Act.put]; done) | (simp [Act.eval, Act.put]; rfl)) HM.out (HBI.out _ (by repeat (first | exact HZ7.out | apply below_drew1 | refine below_alloc ?_ _))) ?_
    intro v1 w1 h1 g1
    have HB8 := Aside0.mk g1
    have HV1 := Aside0.mk h1
    obtain ⟨-, -, s1, -, -⟩ := (HC7.out.step HB8.out).after (Below.refl _ _) (World.grownBy.refl w1 none) (by simp)
    obtain ⟨A1, n1, c1, rfl⟩ := own_three h1
    clear h1 g1
    refine hK.out _ _ ?_ (fun hHeld => ?_)
    · (try dsimp only); first | go_keep | assumption | exact hal2 _
    clear hK K
    try go_simp
    refine wpAnyH_ready (rs := [16]) (by kernel_rfl) (by simp) ?_
    refine AllReadyH.cons rfl (fun K hK => ?_) AllReadyH.nil
    refine stepW (Wb := W7) HB8.out rfl (.tmp 122) (.tmp 123) rfl (by first | (simp [Act.eval, Act.put]; done) | (simp [Act.eval, Act.put]; rfl)) HV1.out u (by have := HBL.out; have := HUL.out; simp only [List.nil_append]; omega) A u.length cc (by first | (simp [Act.eval, Act.put]; done) | (simp [Act.eval, Act.put]; rfl)) rfl (HRD.out _ (HC7.out.below.trans (HB8.out.mono HC7.out.below.size))) ?_
    intro v2 w2 h2 g2
    have HB9 := Aside0.mk g2
    obtain ⟨-, -, s2, -, -⟩ := (HC7.out.step HB9.out).after (Below.refl _ _) (World.grownBy.refl w2 none) (by simp)
    obtain ⟨e1, e2⟩ := fileCell HC7.out HQI.out HB9.out
    have HE := Aside0.mk (appEnd (p := d.power.2) HC7.out i (_, ub, sf) HQI.out HB9.out h2)
    obtain ⟨A2, n2, c2, rfl⟩ := own_three h2
    clear h2 g2
    refine hK.out _ _ ?_ (fun hHeld => ?_)
    · (try dsimp only); first | go_keep | assumption | exact hal2 _
    clear hK K
    try go_simp
    refine wpAnyH_take (i := 17) (v := ?_) rfl (by kernel_rfl) (by kernel_rfl) (by kernel_rfl) (fun _ _ _ h => h) (Or.inl ⟨by rfl, ?_⟩) (by assumption) ?_
    rotate_left
    · (intro w hSw; (try dsimp only at hSw); (go_simp <;> with_reducible rfl))
    try go_simp
    refine wpAnyH_take (i := 18) (v := ?_) rfl (by kernel_rfl) (by kernel_rfl) (by kernel_rfl) (fun _ _ _ h => h) (Or.inl ⟨by rfl, ?_⟩) (by assumption) ?_
    rotate_left
    · (intro w hSw; (try dsimp only at hSw); (go_simp <;> with_reducible rfl))
    try go_simp
    refine wpAnyH_ready (rs := [19]) (by kernel_rfl) (by simp) ?_
    refine AllReadyH.cons rfl (fun K hK => ?_) AllReadyH.nil
    go_simp
    refine hK.out _ _ ?_ (fun hHeld => ?_)
    · (try dsimp only); first | go_keep | assumption | exact hal2 _
    clear hK K
    try go_simp
    refine wpAnyH_done (by kernel_rfl) ?_ _
    refine NoPanic.normal ?_
    go_wp2
    go_ret
    rw [show d.bytes i = ub from HBY.out.1, show d.firm i = sf from HBY.out.2]
    exact ⟨rfl, RTurn.trans HT7.out HE.out⟩
  refine AllReadyH.cons rfl (fun K hK => ?_) ?_
  · skip
    go_simp
    refine hK.out _ _ ?_ (fun hHeld => ?_)
    · (try dsimp only); first | go_keep | assumption | exact hal2 _
    clear hK K
    try go_simp
    refine wpAnyH_ready (rs := [5]) (by kernel_rfl) (by simp) ?_
    refine AllReadyH.cons rfl (fun K hK => ?_) AllReadyH.nil
    go_simp
    refine hK.out _ _ ?_ (fun hHeld => ?_)
    · (try dsimp only); first | go_keep | assumption | exact hal2 _
    clear hK K
    try go_simp
    refine wpAnyH_ready (rs := [14]) (by kernel_rfl) (by simp) ?_
    refine AllReadyH.cons rfl (fun K hK => ?_) AllReadyH.nil
    refine stepW (Wb := W7) (s := []) (v := .slice (some ⟨_, 0, none⟩) 0 0) (by repeat (first | exact HZ7.out | apply below_drew1 | refine below_alloc ?_ _)) rfl (.tmp 113) (.tmp 121) rfl (by first | (simp [Act.eval, Act.put]; done) | (simp [Act.eval, Act.put]; rfl)) (bytesEmpty (by repeat (first | with_reducible exact at_new _ (by simp) | with_reducible apply at_drew | with_reducible refine at_old _ ?_)) (by simp)) ub (Nat.le_trans (Nat.le_of_eq (Nat.zero_add _)) (Nat.le_trans HBL.out (by omega))) Ab m cb (by first | (simp [Act.eval, Act.put]; done) | (simp [Act.eval, Act.put]; rfl)) HM.out (HBI.out _ (by repeat (first | exact HZ7.out | apply below_drew1 | refine below_alloc ?_ _))) ?_
    intro v1 w1 h1 g1
    have HB8 := Aside0.mk g1
    have HV1 := Aside0.mk h1
    obtain ⟨-, -, s1, -, -⟩ := (HC7.out.step HB8.out).after (Below.refl _ _) (World.grownBy.refl w1 none) (by simp)
    obtain ⟨A1, n1, c1, rfl⟩ := own_three h1
    clear h1 g1
    refine hK.out _ _ ?_ (fun hHeld => ?_)
    · (try dsimp only); first | go_keep | assumption | exact hal2 _
    clear hK K
    try go_simp
    refine wpAnyH_ready (rs := [16]) (by kernel_rfl) (by simp) ?_
    refine AllReadyH.cons rfl (fun K hK => ?_) AllReadyH.nil
    refine stepW (Wb := W7) HB8.out rfl (.tmp 122) (.tmp 123) rfl (by first | (simp [Act.eval, Act.put]; done) | (simp [Act.eval, Act.put]; rfl)) HV1.out u (by have := HBL.out; have := HUL.out; simp only [List.nil_append]; omega) A u.length cc (by first | (simp [Act.eval, Act.put]; done) | (simp [Act.eval, Act.put]; rfl)) rfl (HRD.out _ (HC7.out.below.trans (HB8.out.mono HC7.out.below.size))) ?_
    intro v2 w2 h2 g2
    have HB9 := Aside0.mk g2
    obtain ⟨-, -, s2, -, -⟩ := (HC7.out.step HB9.out).after (Below.refl _ _) (World.grownBy.refl w2 none) (by simp)
    obtain ⟨e1, e2⟩ := fileCell HC7.out HQI.out HB9.out
    have HE := Aside0.mk (appEnd (p := d.power.2) HC7.out i (_, ub, sf) HQI.out HB9.out h2)
    obtain ⟨A2, n2, c2, rfl⟩ := own_three h2
    clear h2 g2
    refine hK.out _ _ ?_ (fun hHeld => ?_)
    · (try dsimp only); first | go_keep | assumption | exact hal2 _
    clear hK K
    try go_simp
    refine wpAnyH_take (i := 17) (v := ?_) rfl (by kernel_rfl) (by kernel_rfl) (by kernel_rfl) (fun _ _ _ h => h) (Or.inl ⟨by rfl, ?_⟩) (by assumption) ?_
    rotate_left
    · (intro w hSw; (try dsimp only at hSw); (go_simp <;> with_reducible rfl))
    try go_simp
    refine wpAnyH_take (i := 18) (v := ?_) rfl (by kernel_rfl) (by kernel_rfl) (by kernel_rfl) (fun _ _ _ h => h) (Or.inl ⟨by rfl, ?_⟩) (by assumption) ?_
    rotate_left
    · (intro w hSw; (try dsimp only at hSw); (go_simp <;> with_reducible rfl))
    try go_simp
    refine wpAnyH_ready (rs := [19]) (by kernel_rfl) (by simp) ?_
    refine AllReadyH.cons rfl (fun K hK => ?_) AllReadyH.nil
    go_simp
    refine hK.out _ _ ?_ (fun hHeld => ?_)
    · (try dsimp only); first | go_keep | assumption | exact hal2 _
    clear hK K
    try go_simp
    refine wpAnyH_done (by kernel_rfl) ?_ _
    refine NoPanic.normal ?_
    go_wp2
    go_ret
    rw [show d.bytes i = ub from HBY.out.1, show d.firm i = sf from HBY.out.2]
    exact ⟨rfl, RTurn.trans HT7.out HE.out⟩
  exact AllReadyH.nil
  -- END
end Go.Proofs.Ytibmgcihpbofdaa.Fs
namespace Go.Proofs.Ytibmgcihpbofdaa.Fs
open Go.RowKit Go.Proofs.Ytibmgcihpbofdaa Go.Proofs.Ytibmgcihpbofdaa.Plain Go.Proofs.YtibmgcihpbofdaaW.PrintWords Go.Maps
set_option linter.unusedVariables false
set_option linter.unusedSimpArgs false
theorem on_down {d : RDisk} {F : RDisk → RDisk} (h : d.power.1 = false) : d.on F = (2, d.power.2) := by unfold RDisk.on; rw [if_neg (by rw [h]; simp)]
theorem on_ok {d : RDisk} {F : RDisk → RDisk} (h : d.power.1 = true) : d.on F = (0, F d.power.2) := by unfold RDisk.on; rw [if_pos h]
theorem refDo6 {w0 W : World} {r : Nat} {d : RDisk} {R : Nat → Prop} {N : Nat} (h : RAt w0 r d R W) (hok : ROk d N) (hN : N ≤ 900000) (a b : Nm) (ha : a.length ≤ 140737488351232) (hb : b.length ≤ 140737488351232) (u : List UInt8) (A : Option Addr) (cc : Nat) (hrd : ReadsInt w0 .u8 A (B u).length (B u)) (hul : u.length ≤ 1000) :
    Calls Try.prog 29 #[.pointer (some ⟨r, 0, none⟩), .int .i64 6, .string (S a), .string (S b), .slice A u.length cc] W fun e W' => e = .returned (.int .i64 (if d.off = true then ((2 : Int), d) else d.on (·.firmed)).1) ∧ RTurn w0 r (if d.off = true then ((2 : Int), d) else d.on (·.firmed)).2 R W W' := by
  cases hoff : d.off with
  | true => rw [if_pos rfl]; exact do6off h hok hN a b ha hb u A cc hrd hul hoff
  | false =>
    rw [if_neg (by simp)]
    cases hp : d.power.1 with
    | false => rw [on_down hp]; exact do6down h hok hN a b ha hb u A cc hrd hul hoff hp
    | true => rw [on_ok hp]; exact do6ok h hok hN a b ha hb u A cc hrd hul hoff hp
theorem refDo {w0 W : World} {r : Nat} {d : RDisk} {R : Nat → Prop} {N : Nat} (h : RAt w0 r d R W) (hok : ROk d N) (hN : N ≤ 900000) (kind : Int) (hk : 1 ≤ kind ∧ kind ≤ 6) (a b : Nm) (ha : a.length ≤ 140737488351232) (hb : b.length ≤ 140737488351232) (u : List UInt8) (A : Option Addr) (cc : Nat) (hrd : ReadsInt w0 .u8 A (B u).length (B u)) (hul : u.length ≤ 1000) :
    Calls Try.prog 29 #[.pointer (some ⟨r, 0, none⟩), .int .i64 kind, .string (S a), .string (S b), .slice A u.length cc] W fun e W' => e = .returned (.int .i64 (d.act kind a b u).1) ∧ RTurn w0 r (d.act kind a b u).2 R W W' := by
  have h6 : kind = 1 ∨ kind = 2 ∨ kind = 3 ∨ kind = 4 ∨ kind = 5 ∨ kind = 6 := by omega
  cases hra : rightB a with
  | false =>
    rcases h6 with rfl | rfl | rfl | rfl | rfl | rfl
    · rw [show d.act 1 a b u = (1, d) by unfold RDisk.act; rw [if_pos (.inl ⟨by omega, hra⟩)]]; exact do1bad h hok hN a b ha hb u A cc hrd hul hra
    · rw [show d.act 2 a b u = (1, d) by unfold RDisk.act; rw [if_pos (.inl ⟨by omega, hra⟩)]]; exact do2bad h hok hN a b ha hb u A cc hrd hul hra
    · rw [show d.act 3 a b u = (1, d) by unfold RDisk.act; rw [if_pos (.inl ⟨by omega, hra⟩)]]; exact do3bad h hok hN a b ha hb u A cc hrd hul hra
    · rw [show d.act 4 a b u = (1, d) by unfold RDisk.act; rw [if_pos (.inl ⟨by omega, hra⟩)]]; exact do4bad h hok hN a b ha hb u A cc hrd hul hra
    · rw [show d.act 5 a b u = (1, d) by unfold RDisk.act; rw [if_pos (.inl ⟨by omega, hra⟩)]]; exact do5bad h hok hN a b ha hb u A cc hrd hul hra
    · have e : d.act 6 a b u = if d.off = true then (2, d) else d.on (·.firmed) := by unfold RDisk.act; rw [if_neg (by omega)]; simp
      rw [e]
      exact refDo6 h hok hN a b ha hb u A cc hrd hul
  | true =>
    by_cases hk6 : kind = 6
    · subst hk6
      have e : d.act 6 a b u = if d.off = true then (2, d) else d.on (·.firmed) := by unfold RDisk.act; rw [if_neg (by omega)]; simp
      rw [e]
      exact refDo6 h hok hN a b ha hb u A cc hrd hul
    by_cases hrb : kind = 4 ∧ rightB b = false
    · obtain ⟨rfl, hrb⟩ := hrb
      rw [show d.act 4 a b u = (1, d) by unfold RDisk.act; rw [if_pos (.inr ⟨rfl, hrb⟩)]]
      exact do4badb h hok hN a b ha hb u A cc hrd hul hra hrb
    have hrb' : kind = 4 → rightB b = true := fun e => by
      cases hq : rightB b with
      | true => rfl
      | false => exact absurd ⟨e, hq⟩ hrb
    have e0 : d.act kind a b u = if d.off = true then (2, d) else if kind = 1 then (if (get d.dir a).isSome then (5, d) else if d.dir.length ≥ 256 then (3, d) else d.on (·.born a)) else match get d.dir a with
      | none => (4, d)
      | some i =>
        if kind = 2 then (if (u.length : Int) > d.room - (d.used : Int) then (3, d) else d.on (·.write i (d.bytes i ++ u) (d.firm i)))
        else if kind = 3 then d.on (·.write i (d.bytes i) (d.bytes i).length)
        else if kind = 4 then d.on (fun x => if a = b then x else x.push ⟨2, a, b, 0⟩)
        else d.on (·.push ⟨3, a, [], 0⟩) := by
      unfold RDisk.act
      rw [if_neg (fun h => h.elim (fun h2 => by rw [hra] at h2; cases h2.2) hrb)]
      simp only [if_neg hk6]
      rfl
    rw [e0]
    cases hoff : d.off with
    | true =>
      rw [if_pos rfl]
      rcases h6 with rfl | rfl | rfl | rfl | rfl | rfl
      · exact do1off h hok hN a b ha hb u A cc hrd hul hra hoff
      · exact do2off h hok hN a b ha hb u A cc hrd hul hra hoff
      · exact do3off h hok hN a b ha hb u A cc hrd hul hra hoff
      · exact do4off h hok hN a b ha hb u A cc hrd hul hra (hrb' rfl) hoff
      · exact do5off h hok hN a b ha hb u A cc hrd hul hra hoff
      · exact absurd rfl hk6
    | false =>
      rw [if_neg (by simp)]
      by_cases hk1 : kind = 1
      · subst hk1
        rw [if_pos rfl]
        cases hg : get d.dir a with
        | some i => rw [if_pos (by rfl)]; exact do1there h hok hN a b ha hb u A cc hrd hul hra hoff i hg
        | none =>
          rw [if_neg (by simp)]
          by_cases hf : d.dir.length ≥ 256
          · rw [if_pos hf]; exact do1full h hok hN a b ha hb u A cc hrd hul hra hoff hg hf
          · rw [if_neg hf]
            cases hp : d.power.1 with
            | false => rw [on_down hp]; exact do1down h hok hN a b ha hb u A cc hrd hul hra hoff hg hf hp
            | true => rw [on_ok hp]; exact do1ok h hok hN a b ha hb u A cc hrd hul hra hoff hg hf hp
      · rw [if_neg hk1]
        cases hg : get d.dir a with
        | none =>
          rcases h6 with rfl | rfl | rfl | rfl | rfl | rfl
          · exact absurd rfl hk1
          · exact do2none h hok hN a b ha hb u A cc hrd hul hra hoff hg
          · exact do3none h hok hN a b ha hb u A cc hrd hul hra hoff hg
          · exact do4none h hok hN a b ha hb u A cc hrd hul hra (hrb' rfl) hoff hg
          · exact do5none h hok hN a b ha hb u A cc hrd hul hra hoff hg
          · exact absurd rfl hk6
        | some i =>
          simp only []
          by_cases hk2 : kind = 2
          · subst hk2
            rw [if_pos rfl]
            by_cases hf : (u.length : Int) > d.room - (d.used : Int)
            · rw [if_pos hf]; exact do2full h hok hN a b ha hb u A cc hrd hul hra hoff i hg hf
            · rw [if_neg hf]
              cases hp : d.power.1 with
              | false => rw [on_down hp]; exact do2down h hok hN a b ha hb u A cc hrd hul hra hoff i hg hf hp
              | true => rw [on_ok hp]; exact do2ok h hok hN a b ha hb u A cc hrd hul hra hoff i hg hf hp
          · rw [if_neg hk2]
            by_cases hk3 : kind = 3
            · subst hk3
              rw [if_pos rfl]
              cases hp : d.power.1 with
              | false => rw [on_down hp]; exact do3down h hok hN a b ha hb u A cc hrd hul hra hoff i hg hp
              | true => rw [on_ok hp]; exact do3ok h hok hN a b ha hb u A cc hrd hul hra hoff i hg hp
            · rw [if_neg hk3]
              by_cases hk4 : kind = 4
              · subst hk4
                rw [if_pos rfl]
                cases hp : d.power.1 with
                | false => rw [on_down hp]; exact do4down h hok hN a b ha hb u A cc hrd hul hra (hrb' rfl) hoff i hg hp
                | true =>
                  rw [on_ok hp]
                  by_cases hab : a = b
                  · simp only [if_pos hab]; exact do4same h hok hN a b ha hb u A cc hrd hul hra (hrb' rfl) hoff i hg hp (by simpa using hab)
                  · simp only [if_neg hab]; exact do4ok h hok hN a b ha hb u A cc hrd hul hra (hrb' rfl) hoff i hg hp (by simpa using hab)
              · obtain rfl : kind = 5 := by omega
                rw [if_neg hk4]
                cases hp : d.power.1 with
                | false => rw [on_down hp]; exact do5down h hok hN a b ha hb u A cc hrd hul hra hoff i hg hp
                | true => rw [on_ok hp]; exact do5ok h hok hN a b ha hb u A cc hrd hul hra hoff i hg hp
end Go.Proofs.Ytibmgcihpbofdaa.Fs
