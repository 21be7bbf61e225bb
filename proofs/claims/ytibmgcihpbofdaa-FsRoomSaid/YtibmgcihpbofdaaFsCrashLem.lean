/- fs: Crash: what its walk leans on. -/
import Derived.Test.YtibmgcihpbofdaaFsFiles
namespace Go.Proofs.Ytibmgcihpbofdaa.Fs
open Go.RowKit Go.Proofs.Ytibmgcihpbofdaa Go.Proofs.Ytibmgcihpbofdaa.Plain Go.Proofs.YtibmgcihpbofdaaW.PrintWords Go.Proofs.YtibmgcihpbofdaaW.PrintMore Go.Maps
set_option linter.unusedVariables false
set_option linter.unusedSimpArgs false
attribute [local go_sem] max2_int min2_int
theorem intMax (n : Int) : (if n < 0 then (0 : Int) else n) = max n 0 := by split <;> omega
theorem crashK (n : Int) (L : Nat) : ∃ k : Nat, k ≤ L ∧ (if (L : Int) < (if n < 0 then (0 : Int) else n) then (L : Int) else (if n < 0 then (0 : Int) else n)) = k ∧ (min (max n 0) (L : Int)).toNat = k := by
  refine ⟨(min (max n 0) (L : Int)).toNat, by omega, ?_, rfl⟩
  split <;> split <;> omega
theorem apps_take_succ (s : Dir) (l : List Chg) (i : Nat) (hi : i < l.length) : apps s (l.take (i + 1)) = l[i].app (apps s (l.take i)) := by
  rw [List.take_add_one, List.getElem?_eq_getElem hi]
  exact apps_snoc _ _ _
theorem own_cap {w : World} {base n cp : Nat} {A : Option Addr} {e : TypeId} {xs : List Value} (h : w.ownsRow base e 1 (.slice A n cp) n xs) : n ≤ cp := by
  rcases h.2 with ⟨e, rfl⟩ | ⟨g, cap, cur, e, _, _, h1, _⟩
  · omega
  · injection e with _ _ e3
    omega
theorem rowCell {w : World} {base n cp : Nat} {A : Option Addr} {e : TypeId} {xs : List Value} (h : w.ownsRow base e 1 (.slice A n cp) n xs) (j : Nat) (hj : j < n) {v : Value} (hv : xs[j]? = some v) : ∃ g, A = some ⟨g, 0, none⟩ ∧ w.cell? ⟨g, j, none⟩ = some v ∧ (Value.slice A n cp).ownBlock = some g := by
  rcases h.2 with ⟨e, rfl⟩ | ⟨g, cap, cur, e, _⟩
  · omega
  · injection e with e1 e2 e3
    subst e1 e3
    exact ⟨g, rfl, (h.cellAt j (by omega)).trans hv, rfl⟩
theorem oks_at {s : Dir} {l : List Chg} (h : oks s l) (i : Nat) (hi : i < l.length) : l[i].ok (apps s (l.take i)) := by
  have := oks_take h (i + 1)
  rw [List.take_add_one, List.getElem?_eq_getElem hi] at this
  exact (oks_snoc.1 this).2
structure Half (s : Dir) (d : Disk) (m : Int) (left : Lit → Bool) (bb : Nat → List UInt8) (ff : Nat → Nat) : Prop where
  all : ∀ x, InD s x → (bb x = d.bytes x ∧ ff x = d.firm x) ∨ (bb x = (d.bytes x).take (d.kept m x) ∧ ff x = d.kept m x)
  seen : ∀ p ∈ s, left (.string p.1) = false → bb p.2 = (d.bytes p.2).take (d.kept m p.2) ∧ ff p.2 = d.kept m p.2
theorem Disk.kept_le {d : Disk} {m : Int} {x : Nat} (h : d.firm x ≤ (d.bytes x).length) : d.kept m x ≤ (d.bytes x).length := by
  unfold Disk.kept
  omega
theorem Half.step {s : Dir} {d : Disk} {m : Int} {left : Lit → Bool} {bb : Nat → List UInt8} {ff : Nat → Nat} (h : Half s d m left bb ff) (hk : Keys s) {n : Nm} {x : Nat} (hg : get s n = some x) (hf : d.firm x ≤ (d.bytes x).length) {M m' : Nat} (hM : max m 0 = (M : Int)) (hm : m' = ff x + min M ((bb x).length - ff x)) :
    m' ≤ (bb x).length ∧ Half s d m (fun z => left z && !z.sameKey (.string n)) (setAt bb x ((bb x).take m')) (setAt ff x m') := by
  have hin : InD s x := ⟨n, get_mem hg⟩
  have hkl := Disk.kept_le (m := m) hf
  have hkk : d.kept m x = d.firm x + min M ((d.bytes x).length - d.firm x) := by unfold Disk.kept; rw [hM]; rfl
  have key : m' ≤ (bb x).length ∧ (bb x).take m' = (d.bytes x).take (d.kept m x) ∧ m' = d.kept m x := by
    rcases h.all x hin with ⟨e1, e2⟩ | ⟨e1, e2⟩
    · rw [e1, e2] at hm
      have e : m' = d.kept m x := by rw [hkk]; exact hm
      rw [e1, e]
      exact ⟨hkl, rfl, rfl⟩
    · have hl : (bb x).length = d.kept m x := by rw [e1, List.length_take]; omega
      rw [hl, e2] at hm
      have e : m' = d.kept m x := by omega
      rw [e, hl, e1, List.take_take]
      refine ⟨Nat.le_refl _, ?_, rfl⟩
      congr 1
      omega
  obtain ⟨k1, k2, k3⟩ := key
  refine ⟨k1, ⟨fun y hy => ?_, fun p hp hl => ?_⟩⟩
  · by_cases e : y = x
    · subst e
      simp only [setAt_same]
      exact .inr ⟨k2, k3⟩
    · simp only [setAt_other _ _ e]
      exact h.all y hy
  · by_cases e : p.2 = x
    · rw [e]
      simp only [setAt_same]
      exact ⟨k2, k3⟩
    · simp only [setAt_other _ _ e]
      refine h.seen p hp ?_
      simp only [Bool.and_eq_false_iff, Bool.not_eq_false'] at hl
      rcases hl with hl | hl
      · exact hl
      · exfalso
        have e2 : p.1 = n := by simpa [Lit.sameKey] using hl
        have := keys_nodup hk hp (get_mem hg) e2
        exact e (by rw [this])
theorem has_take {d : Disk} {i : Nat} {x : Nat} (h : InD (apps d.sure (d.loose.take i)) x) : d.has x := by
  obtain ⟨n, h⟩ := h
  rcases has_of_apps _ _ _ h with ⟨k, h⟩ | ⟨k, h⟩
  · exact .inl ⟨k, h⟩
  · exact .inr ⟨k, List.mem_of_mem_take h⟩
theorem Files.setA {w0 W X : World} {s : Dir} {bb : Nat → List UInt8} {ff : Nat → Nat} {N : Nat} {T : Nat → Prop} {vb : Nat → Value} (h : Files w0 W s bb ff N T vb) {b : Nat} (hb : InD s b) {v z : Value} (hX : X.heap = (W.setCell ⟨b, 1, none⟩ z).heap) (hc : W.cell? ⟨b, 0, none⟩ = some v) : X.cell? ⟨b, 0, none⟩ = some v := by
  have e := (h.file b hb).1
  have e2 : vb b = v := by simp [World.cell?, e] at hc; exact hc
  rw [World.cell?, hX]
  simp [World.setCell, Array.getElem?_modify, e, e2]
theorem Files.setB {w0 W X : World} {s : Dir} {bb : Nat → List UInt8} {ff : Nat → Nat} {N : Nat} {T : Nat → Prop} {vb : Nat → Value} (h : Files w0 W s bb ff N T vb) {b : Nat} (hb : InD s b) {z : Value} (hX : X.heap = (W.setCell ⟨b, 1, none⟩ z).heap) : X.cell? ⟨b, 1, none⟩ = some z := by
  have e := (h.file b hb).1
  rw [World.cell?, hX]
  simp [World.setCell, Array.getElem?_modify, e]
theorem Files.setF {w0 W X : World} {s : Dir} {bb : Nat → List UInt8} {ff : Nat → Nat} {N : Nat} {T : Nat → Prop} {vb : Nat → Value} (h : Files w0 W s bb ff N T vb) {b : Nat} (hb : InD s b) {z : Value} (hX : X.heap = (W.setCell ⟨b, 1, none⟩ z).heap) (o : Nat) : X.frozen? ⟨b, o, none⟩ = false := by
  have e := (h.file b hb).1
  rw [World.frozen?, hX]
  simp [World.setCell, Array.getElem?_modify, e]
def Held (fr : Act) (R : World → Prop) : Exit → Act → World → Prop := fun e a w => match e with
  | .normal => a = fr ∧ R w
  | _ => False
theorem wp_held {P : Program} {c : Code} {Q : Exit → Act → World → Prop} {a : Act} {w : World} (fr : Act) (R : World → Prop) (hreg : c.wp P (Held fr R) a w) (hnext : ∀ w', R w' → Q .normal fr w') : c.wp P Q a w := by
  refine Code.wp_mono (fun e a' w' h => ?_) hreg
  cases e with
  | normal => obtain ⟨rfl, h⟩ := h; exact hnext _ h
  | _ => exact h.elim
theorem own_base {w : World} {base n size : Nat} {e : TypeId} {v : Value} {xs : List Value} (h : w.ownsRow base e size v n xs) {g : Nat} (hg : v.ownBlock = some g) : base ≤ g := by
  rcases h.2 with ⟨rfl, _⟩ | ⟨g', cap, cur, rfl, hb, _⟩
  · simp [Value.ownBlock] at hg
  · have : g' = g := by simpa [Value.ownBlock] using hg
    omega
theorem crashCells {w2 X : World} {b : Nat} {v : Value} (hc : w2.cell? ⟨b, 0, none⟩ = some v) (hf : w2.frozen? ⟨b, 0, none⟩ = false) (hX : Below w2.heap.size w2 X) : X.cell? ⟨b, 0, none⟩ = some v ∧ X.frozen? ⟨b, 0, none⟩ = false := by
  have hlt : b < w2.heap.size := World.block_lt_of_cell? _ _ hc
  refine ⟨(World.cell?_of_block (hX.block b hlt)).trans hc, ?_⟩
  have := hX.block b hlt
  unfold World.frozen? at hf ⊢
  rw [this]
  exact hf
/-- one file, crashed -/
theorem crashBody {w0 W w1 w2 w3 X : World} {s : Dir} {bb : Nat → List UInt8} {ff : Nat → Nat} {N : Nat} {T T2 : Nat → Prop} {vb : Nat → Value} {b f m1 r bs n cnt c2 : Nat} {E : DataW Unit} {left : Lit → Bool} {A2 : Option Addr}
    (hF : Files w0 w1 s bb ff N T2 vb) (hb : InD s b) (hml : m1 ≤ (bb b).length) (h2 : w2.heap = (w1.setCell ⟨b, 1, none⟩ (.int .i64 (m1 : Int))).heap) (h3 : Below w2.heap.size w2 w3) (hown : w3.ownsRow w2.heap.size 5 1 (.slice A2 (B ((bb b).take m1)).length c2) (B ((bb b).take m1)).length (nums .u8 (B ((bb b).take m1))))
    (hX : X.heap = (w3.setCell ⟨b, 0, none⟩ (.slice A2 (B ((bb b).take m1)).length c2)).heap) (hbX : Below w0.heap.size w1 X) (hr : w1.ranges Try.prog 9 ptrElem bs r n E left cnt) (hf : T2 f) (hff : w1.heap[f]? = W.heap[f]?) (hfb : f ≠ b) (hT : Turn T W T2 w1) (hTr : ¬ T2 r) (hbs : bs ≠ b) :
    X.ranges Try.prog 9 ptrElem bs r n E left cnt ∧ Files w0 X s (setAt bb b ((bb b).take m1)) (setAt ff b m1) N (Wide T2 w1 X) (setAt vb b (.slice A2 (B ((bb b).take m1)).length c2)) ∧ X.heap[f]? = W.heap[f]? ∧ Turn T W (Wide T2 w1 X) X ∧ ¬ Wide T2 w1 X r := by
  have s2 : w2.heap.size = w1.heap.size := by rw [h2]; simp [World.setCell]
  have lb : b < w1.heap.size := (hF.mine b (hF.inX b hb).1).2
  have k2 : ∀ k, k ≠ b → w2.heap[k]? = w1.heap[k]? := fun k hk => by rw [h2]; exact Below.heap_setCell _ ⟨b, 1, none⟩ _ k hk
  have k3 : ∀ k, k < w1.heap.size → w3.heap[k]? = w2.heap[k]? := fun k hk => h3.block k (by omega)
  have kX : ∀ k, k ≠ b → X.heap[k]? = w3.heap[k]? := fun k hk => by rw [hX]; exact Below.heap_setCell _ ⟨b, 0, none⟩ _ k hk
  have kk : ∀ k, k < w1.heap.size → k ≠ b → X.heap[k]? = w1.heap[k]? := fun k hk hkb => (kX k hkb).trans ((k3 k hk).trans (k2 k hkb))
  have hsX : w1.heap.size ≤ X.heap.size := hbX.size
  have hgr : w1.grownBy X (some b) := ⟨hbX.os, hbX.tape, hbX.output, hsX, fun k hk hkb => kk k hk (fun e => hkb (by rw [e]))⟩
  have hrlt := hr.lt
  have hb2 : w2.heap[b]? = some (.cells #[vb b, .int .i64 (m1 : Int)] 69 (0, 0)) := by
    rw [h2]
    simp [World.setCell, Array.getElem?_modify, (hF.file b hb).1]
  have hb4 : X.heap[b]? = some (.cells #[.slice A2 (B ((bb b).take m1)).length c2, .int .i64 (m1 : Int)] 69 (0, 0)) := by
    rw [hX]
    simp [World.setCell, Array.getElem?_modify, k3 b lb, hb2]
  have hrow : X.ownsRow w0.heap.size 5 1 (.slice A2 (B ((bb b).take m1)).length c2) (B ((bb b).take m1)).length (nums .u8 (B ((bb b).take m1))) := by
    refine own_move (own_weaken hown (Nat.le_trans hF.below.size (Nat.le_of_eq s2.symm))) (fun k hk => kX k (fun e => ?_))
    have := own_base hown hk
    omega
  refine ⟨hr.kept hgr (fun e => hbs (Option.some.inj e)) (fun e => hTr (by rw [Option.some.inj e]; exact (hF.inX b hb).1)), hF.setFile hb kk hsX (hF.below.trans (hbX.mono (Nat.le_refl _))) hb4 hrow (by rw [List.length_take]; omega) (fun g hg => by have := own_base hown hg; omega) (by have := hF.small b hb; rw [List.length_take]; omega), (kk f (hF.mine f hf).2 hfb).trans hff, ?_, ?_⟩
  · refine ⟨fun k hk => hk.elim (fun h => hT.1 k h) (fun h => .inr (Nat.le_trans hT.2.2.2 h.1)), fun k h => .inl (hT.2.1 k h), fun k hk hkT => ?_, Nat.le_trans hT.2.2.2 hsX⟩
    refine (kk k (Nat.lt_of_lt_of_le hk hT.2.2.2) (fun e => ?_)).trans (hT.2.2.1 k hk hkT)
    subst e
    exact (hT.1 k (hF.inX k hb).1).elim hkT (fun h => by omega)
  · rintro (h | h)
    · exact hTr h
    · omega
theorem Files.takeReads {w0 w1 w2 : World} {s : Dir} {bb : Nat → List UInt8} {ff : Nat → Nat} {N : Nat} {T : Nat → Prop} {vb : Nat → Value} (h : Files w0 w1 s bb ff N T vb) {b : Nat} (hb : InD s b) {A1 : Option Addr} {n k1 m1 : Nat} {z : Value} (hv : vb b = .slice A1 n k1) (h2 : w2.heap = (w1.setCell ⟨b, 1, none⟩ z).heap) (hm : m1 ≤ (bb b).length) : ReadsInt w2 .u8 A1 (B ((bb b).take m1)).length (B ((bb b).take m1)) := by
  obtain ⟨q1, q2, q3⟩ := h.file b hb
  have q4 : w2.ownsRow w0.heap.size 5 1 (vb b) (B (bb b)).length (nums .u8 (B (bb b))) := by
    refine own_move q2 (fun k hk => ?_)
    have hne : k ≠ b := by
      obtain ⟨c, hc⟩ := own_cells q2 hk
      exact ne_of_obj hc q1 (by simp)
    rw [h2]
    exact Below.heap_setCell _ ⟨b, 1, none⟩ _ k hne
  obtain ⟨A', c', hv'⟩ := own_slice q4
  rw [hv'] at q4
  have hA : A' = A1 := by rw [hv] at hv'; injection hv' with e; exact e.symm
  subst hA
  have hr := own_reads' q4
  refine ⟨rfl, by rw [B_length, List.length_take]; have := hr.2.1; rw [B_length] at this; omega, fun hn => ?_⟩
  have hl : (B ((bb b).take m1)).length = m1 := by rw [B_length, List.length_take]; omega
  rw [hl] at hn ⊢
  obtain ⟨ad, e, hc⟩ := hr.2.2 (by rw [B_length]; omega)
  refine ⟨ad, e, fun j hj => ?_⟩
  have h1 := hc j (by rw [B_length]; omega)
  rw [h1]
  congr 2
  simp only [B, List.map_take, List.getD_eq_getElem?_getD]
  rw [List.getElem?_take_of_lt hj]
/-- what stands while the sure map turns -/
theorem Core.turned {w0 W X : World} {f : Nat} {d : Disk} {N : Nat} {T : Nat → Prop} {bn bs : Nat} {vl : Value} {fs : List Value} {vb : Nat → Value} (h : Core w0 W f d N T bn bs vl fs vb) (hg : W.grownBy X (some bs)) :
    X.heap[f]? = W.heap[f]? ∧ (∀ g, vl.ownBlock = some g → X.heap[g]? = W.heap[g]?) ∧ Clos X T d.loose fs := by
  obtain ⟨es, c, hs⟩ := map_obj h.sure
  refine ⟨hg.block f (h.mine f h.inF).2 (fun e => h.f_ne.2.1 (Option.some.inj e).symm), fun g hg' => ?_, h.clo.move (fun k hT hB => ?_) (fun _ h => h)⟩
  · obtain ⟨cur, hc⟩ := own_cells h.row hg'
    exact hg.block g (h.mine g (h.inL g hg')).2 (fun e => ne_of_obj hc hs (by simp) (Option.some.inj e))
  · obtain ⟨c', hc | hc⟩ := hB
    · exact hg.block k (h.mine k hT).2 (fun e => ne_of_obj hc hs (by simp) (Option.some.inj e))
    · exact hg.block k (h.mine k hT).2 (fun e => ne_of_obj hc hs (by simp) (Option.some.inj e))
/-- one change, done to what is sure -/
theorem Core.crashStep {w0 W X : World} {f : Nat} {d : Disk} {N : Nat} {T : Nat → Prop} {bn bs L cp : Nat} {A : Option Addr} {fs : List Value} {vb : Nat → Value} (h : Core w0 W f d N T bn bs (.slice A L cp) fs vb) (hL : d.loose.length = L) (hN : N ≤ 1000000) (hg : W.grownBy X (some bs)) (i : Nat) (hi : i < L) (hd : OwnDir X bs (apps d.sure (d.loose.take i))) :
    ∃ g v, A = some ⟨g, 0, none⟩ ∧ X.cell? ⟨g, i, none⟩ = some v ∧ X.cell? ⟨f, 1, none⟩ = some (.map (some bs)) ∧ CloIs X T (d.loose[i]'(by omega)) v ∧ ∃ fn cap, v = .func (.func fn) #[] cap ∧ Calls Try.prog fn (#[.map (some bs)] ++ cap) X fun e W' => e = .returned (.tuple #[]) ∧ OwnDir W' bs (apps d.sure (d.loose.take (i + 1))) ∧ W.grownBy W' (some bs) := by
  subst hL
  obtain ⟨t1, t2, t3⟩ := h.turned hg
  obtain ⟨v, h1, h2⟩ := t3.get i hi
  obtain ⟨g, e, hc, ho⟩ := rowCell h.row i hi h1
  have hlen : (apps d.sure (d.loose.take i)).length ≤ 2000000 := by
    have h3 := length_apps_le (d.loose.take i) d.sure
    have h4 := h.small.1
    rw [List.length_take] at h3
    omega
  obtain ⟨fn, cap, e2, hcall⟩ := applyFn h2 hd (oks_at h.ok i hi) hlen
  refine ⟨g, v, e, (World.cell?_of_block (t2 g ho)).trans hc, ?_, h2, fn, cap, e2, hcall.mono ?_⟩
  · simp [World.cell?, t1, h.head]
  · rintro e W' ⟨q1, q2, q3⟩
    rw [apps_take_succ _ _ _ hi]
    exact ⟨q1, q2, hg.trans q3⟩
/-- .. as the loop's relation has it -/
theorem crashRel {w0 W w1 w2 w3 X : World} {s : Dir} {d : Disk} {m : Int} {bb : Nat → List UInt8} {ff : Nat → Nat} {N : Nat} {T T2 : Nat → Prop} {vb : Nat → Value} {b f m1 r bs n cnt c2 ln : Nat} {E : DataW Unit} {left : Lit → Bool} {A2 : Option Addr}
    (hF : Files w0 w1 s bb ff N T2 vb) (hb : InD s b) (hml : m1 ≤ (bb b).length) (h2 : w2.heap = (w1.setCell ⟨b, 1, none⟩ (.int .i64 (m1 : Int))).heap) (h3 : Below w2.heap.size w2 w3) (hown : w3.ownsRow w2.heap.size 5 1 (.slice A2 (B ((bb b).take m1)).length c2) (B ((bb b).take m1)).length (nums .u8 (B ((bb b).take m1))))
    (hln : ln = (B ((bb b).take m1)).length) (hX : X.heap = (w3.setCell ⟨b, 0, none⟩ (.slice A2 ln c2)).heap) (hbX : Below w0.heap.size w1 X) (hr : w1.ranges Try.prog 9 ptrElem bs r n E left cnt) (hf : T2 f) (hff : w1.heap[f]? = W.heap[f]?) (hfb : f ≠ b) (hT : Turn T W T2 w1) (hTr : ¬ T2 r) (hbs : bs ≠ b) (hH : Half s d m left (setAt bb b ((bb b).take m1)) (setAt ff b m1)) :
    ∃ (left : Lit → Bool) (cnt : Nat) (bb : Nat → List UInt8) (ff : Nat → Nat) (vb2 : Nat → Value) (T2 : Nat → Prop), Aside0 (X.ranges Try.prog 9 ptrElem bs r n E left cnt) ∧ Aside0 (Files w0 X s bb ff N T2 vb2) ∧ Aside0 (Half s d m left bb ff) ∧ Aside0 (X.heap[f]? = W.heap[f]?) ∧ Aside0 (Turn T W T2 X) ∧ Aside0 (¬ T2 r) := by
  subst hln
  obtain ⟨q1, q2, q3, q4, q5⟩ := crashBody hF hb hml h2 h3 hown hX hbX hr hf hff hfb hT hTr hbs
  exact ⟨_, _, _, _, _, _, ⟨q1⟩, ⟨q2⟩, ⟨hH⟩, ⟨q3⟩, ⟨q4⟩, ⟨q5⟩⟩
theorem crashMeasure {w0 w1 w2 w3 X : World} {bb : Nat → List UInt8} {ff : Nat → Nat} {s : Dir} {N : Nat} {T2 : Nat → Prop} {vb : Nat → Value} {b m1 r bs n cnt c2 ln : Nat} {E : DataW Unit} {left : Lit → Bool} {A2 : Option Addr}
    (hF : Files w0 w1 s bb ff N T2 vb) (hb : InD s b) (h2 : w2.heap = (w1.setCell ⟨b, 1, none⟩ (.int .i64 (m1 : Int))).heap) (h3 : Below w2.heap.size w2 w3)
    (hX : X.heap = (w3.setCell ⟨b, 0, none⟩ (.slice A2 ln c2)).heap) (hbX : Below w0.heap.size w1 X) (hr : w1.ranges Try.prog 9 ptrElem bs r n E left cnt) (hTr : ¬ T2 r) (hbs : bs ≠ b) : X.rangeLeft bs r = cnt := by
  have s2 : w2.heap.size = w1.heap.size := by rw [h2]; simp [World.setCell]
  have hgr : w1.grownBy X (some b) := ⟨hbX.os, hbX.tape, hbX.output, hbX.size, fun k hk hkb => by
    have hne : k ≠ b := fun e => hkb (by rw [e])
    have e1 : X.heap[k]? = w3.heap[k]? := by rw [hX]; exact Below.heap_setCell _ ⟨b, 0, none⟩ _ k hne
    have e2 : w2.heap[k]? = w1.heap[k]? := by rw [h2]; exact Below.heap_setCell _ ⟨b, 1, none⟩ _ k hne
    exact e1.trans ((h3.block k (by omega)).trans e2)⟩
  exact (hr.kept hgr (fun e => hbs (Option.some.inj e)) (fun e => hTr (by rw [Option.some.inj e]; exact (hF.inX b hb).1))).left_eq
theorem headCells {W X : World} {f : Nat} {a b c d e g : Value} (h : W.heap[f]? = some (.cells #[a, b, c, d, e, g] 64 (0, 0))) (hX : Below W.heap.size W X) :
    X.cell? ⟨f, 0, none⟩ = some a ∧ X.cell? ⟨f, 1, none⟩ = some b ∧ X.cell? ⟨f, 2, none⟩ = some c ∧ X.cell? ⟨f, 3, none⟩ = some d ∧ X.cell? ⟨f, 4, none⟩ = some e ∧ X.cell? ⟨f, 5, none⟩ = some g ∧ ∀ o, X.frozen? ⟨f, o, none⟩ = false := by
  have e' := (hX.block f (Array.getElem?_eq_some_iff.1 h).1).trans h
  simp [World.cell?, World.frozen?, e']
theorem crashNat {d : Disk} {n : Int} {k : Nat} (hk : min (max n 0) (d.loose.length : Int) = (k : Int)) : (min (max n 0) (d.loose.length : Int)).toNat = k := by omega
theorem anyD {s : Dir} {x : Nat} (h : InD s x) : (s.any (fun p => p.2 == x)) = true := by
  obtain ⟨n, hn⟩ := h
  exact List.any_eq_true.2 ⟨(n, x), hn, by simp⟩
theorem left_none {s : Dir} {d : Disk} {m : Int} {left : Lit → Bool} {bb : Nat → List UInt8} {ff : Nat → Nat} (h : Half s d m left bb ff) (hl : ∀ kl, left kl = false) {x : Nat} (hx : InD s x) : bb x = (d.bytes x).take (d.kept m x) ∧ ff x = d.kept m x := by
  obtain ⟨n, hn⟩ := hx
  exact h.seen (n, x) hn (hl _)
/-- the end: the disk behind a crash -/
theorem crashEnd {w0 W wr W3 X : World} {f : Nat} {d : Disk} {N : Nat} {T T2 : Nat → Prop} {bn bs k : Nat} {vl : Value} {fs : List Value} {vb vb2 : Nat → Value} {n m : Int} {s : Dir} {bb : Nat → List UInt8} {ff : Nat → Nat} {left : Lit → Bool} {L : Nat} (h : Core w0 W f d N T bn bs vl fs vb)
    (hk : min (max n 0) (L : Int) = (k : Int)) (hs : apps d.sure (d.loose.take k) = s) (hF : Files w0 wr s bb ff N T2 vb2) (hH : Half s d m left bb ff) (hl : ∀ kl, left kl = false) (hhe : wr.heap[f]? = W.heap[f]?) (hT : Turn T W T2 wr) (hown : OwnDir wr bs s) (hd3 : OwnDir W3 wr.heap.size s) (hb3 : Below wr.heap.size wr W3) (hL : d.loose.length = L)
    (hXf : X.heap[f]? = some (.cells #[.map (some wr.heap.size), .map (some bs), .slice none 0 0, .int .i64 d.room, .int .i64 (-1), .bool false] 64 (0, 0))) (hX : ∀ j, j ≠ f → X.heap[j]? = W3.heap[j]?) (hsz : X.heap.size = W3.heap.size) (hbX : Below w0.heap.size w0 X) :
    ∃ T', FsAt w0 f (d.crash n m) N T' X ∧ Turn T W T' X := by
  subst hL
  have hfT2 : T2 f := hT.2.1 f h.inF
  have hlen : wr.heap.size < W3.heap.size := by
    obtain ⟨es, c, hm⟩ := map_obj hd3
    exact (Array.getElem?_eq_some_iff.1 hm).1
  have hkk : ∀ j, T2 j → j ≠ f → X.heap[j]? = wr.heap[j]? := fun j hj hjf => (hX j hjf).trans (hb3.block j (hF.mine j hj).2)
  have hfs : ∀ x, InD s x → x ≠ f ∧ ∀ g, (vb2 x).ownBlock = some g → g ≠ f := fun x hx => ⟨ne_of_obj (hF.file x hx).1 (hhe.trans h.head) (by simp), fun g hg => by
    obtain ⟨c, hc⟩ := own_cells (hF.file x hx).2.1 hg
    exact ne_of_obj hc (hhe.trans h.head) (by simp)⟩
  have hbsf : bs ≠ f := by
    obtain ⟨es, c, hm⟩ := map_obj hown
    exact ne_of_obj hm (hhe.trans h.head) (by simp)
  have hwf : wr.heap.size ≠ f := by have := (hF.mine f hfT2).2; omega
  have hsure : (d.crash n m).sure = s := by
    show apps d.sure (d.loose.take _) = s
    rw [crashNat hk, hs]
  have hbytes : ∀ x, InD s x → (d.crash n m).bytes x = bb x ∧ (d.crash n m).firm x = ff x := fun x hx => by
    have e := anyD hx
    obtain ⟨q1, q2⟩ := left_none hH hl hx
    have e2 : (apps d.sure (d.loose.take (min (max n 0) (d.loose.length : Int)).toNat)).any (fun p => p.2 == x) = true := by rw [crashNat hk, hs]; exact e
    refine ⟨?_, ?_⟩
    · show (if _ then _ else _) = _
      rw [if_pos e2, q1]
    · show (if _ then _ else _) = _
      rw [if_pos e2, q2]
  have hhas : ∀ x, (d.crash n m).has x → InD s x := fun x hx => by
    rcases hx with hx | ⟨q, hq⟩
    · rw [hsure] at hx; exact hx
    · cases hq
  have hnow : (d.crash n m).now = s := by
    show apps (d.crash n m).sure [] = s
    rw [hsure]; rfl
  refine ⟨Wide T2 wr X, ⟨wr.heap.size, bs, .slice none 0 0, [], vb2, ?_⟩, ?_⟩
  · exact {
      head := hXf
      now := by rw [hnow]; exact ownsMap_move hd3 (hX _ hwf)
      sure := by rw [hsure]; exact ownsMap_move hown (hkk bs (hT.2.1 bs h.inS) hbsf)
      ne := by have := (hF.mine bs (hT.2.1 bs h.inS)).2; omega
      row := own_nil _ _ _ _
      clo := .nil
      file := fun x hx => by
        have hi := hhas x hx
        obtain ⟨q1, q2, q3⟩ := hF.file x hi
        obtain ⟨r1, r2⟩ := hbytes x hi
        rw [r1, r2]
        exact ⟨(hkk x (hF.inX x hi).1 (hfs x hi).1).trans q1, own_move q2 (fun j hj => hkk j ((hF.inX x hi).2 j hj) ((hfs x hi).2 j hj)), q3⟩
      apart := fun x y hx hy => hF.apart x y (hhas x hx) (hhas y hy)
      inF := .inl hfT2
      inN := .inr ⟨Nat.le_refl _, by omega⟩
      inS := .inl (hT.2.1 bs h.inS)
      inL := fun g hg => by simp [Value.ownBlock] at hg
      inX := fun x hx => ⟨.inl (hF.inX x (hhas x hx)).1, fun g hg => .inl ((hF.inX x (hhas x hx)).2 g hg)⟩
      mine := by
        rintro j (hj | ⟨j1, j2⟩)
        · exact ⟨(hF.mine j hj).1, by have := (hF.mine j hj).2; omega⟩
        · exact ⟨Nat.le_trans hF.below.size j1, j2⟩
      ok := trivial
      room := h.room
      fuse := by show -1 ≤ (-1 : Int) ∧ (-1 : Int) ≤ 9223372036854775807; decide
      small := ⟨by
        have h1 := length_apps_le (d.loose.take k) d.sure
        have h2 := h.small.1
        rw [hs, List.length_take] at h1
        rw [hsure]
        show s.length + 0 ≤ N
        have : k ≤ d.loose.length := by omega
        omega, fun x hx => by rw [(hbytes x (hhas x hx)).1]; exact hF.small x (hhas x hx)⟩
      below := hbX }
  · refine ⟨?_, fun j hj => .inl (hT.2.1 j hj), fun j hj hjT => ?_, by have := hT.2.2.2; omega⟩
    · rintro j (hj | ⟨j1, j2⟩)
      · exact hT.1 j hj
      · exact .inr (Nat.le_trans hT.2.2.2 j1)
    · exact (hX j (fun e => hjT (e ▸ h.inF))).trans ((hb3.block j (Nat.lt_of_lt_of_le hj hT.2.2.2)).trans (hT.2.2.1 j hj hjT))
end Go.Proofs.Ytibmgcihpbofdaa.Fs
