/- law23: the small functions: Clamp, Dec, bounced. -/
import Derived.Test.YthdjeikfbbdehaaDoorDsnOpen
import Derived.Test.YthdjeikfbbdehaaDoorConv
namespace Go.Proofs.YthdjeikfbbdehaaDoor.Fs
open Go.RowKit Go.Proofs.YthdjeikfbbdehaaDoor Go.Proofs.YthdjeikfbbdehaaDoor.Plain Go.Proofs.YthdjeikfbbdehaaDoorW.PrintWords Go.Maps
set_option linter.unusedVariables false
set_option linter.unusedSimpArgs false
def clampI (n : Int) : Int := if n < 0 then 0 else if n > 1099511627776 then 1099511627776 else n
theorem refClamp (n : Int) (w : World) : Calls Tryd.prog 20 #[.int .i64 n] w fun e w' => e = .returned (.int .i64 (clampI n)) ∧ w' = w := by
  by_cases h0 : n < 0
  · have e : clampI n = 0 := by unfold clampI; rw [if_pos h0]
    rw [e]
    clear e
    go_enter Tryd.func20, Tryd.ntmps20
    go_wp2
    go_ret
    exact ⟨rfl, rfl⟩
  · by_cases h1 : n > 1099511627776
    · have e : clampI n = 1099511627776 := by unfold clampI; rw [if_neg h0, if_pos h1]
      rw [e]
      clear e
      go_enter Tryd.func20, Tryd.ntmps20
      go_wp2
      go_ret
      exact ⟨rfl, rfl⟩
    · have e : clampI n = n := by unfold clampI; rw [if_neg h0, if_neg h1]
      rw [e]
      clear e
      go_enter Tryd.func20, Tryd.ntmps20
      go_wp2
      go_ret
      exact ⟨rfl, rfl⟩
theorem satClamp (n : Int) (w : World) : Calls Tryd.prog 26 #[.int .i64 n] w fun e w' => e = .returned (.int .i64 (clampI n)) ∧ w' = w := by
  by_cases h0 : n < 0
  · have e : clampI n = 0 := by unfold clampI; rw [if_pos h0]
    rw [e]
    clear e
    go_enter Tryd.func26, Tryd.ntmps26
    go_wp2
    go_ret
    exact ⟨rfl, rfl⟩
  · by_cases h1 : n > 1099511627776
    · have e : clampI n = 1099511627776 := by unfold clampI; rw [if_neg h0, if_pos h1]
      rw [e]
      clear e
      go_enter Tryd.func26, Tryd.ntmps26
      go_wp2
      go_ret
      exact ⟨rfl, rfl⟩
    · have e : clampI n = n := by unfold clampI; rw [if_neg h0, if_neg h1]
      rw [e]
      clear e
      go_enter Tryd.func26, Tryd.ntmps26
      go_wp2
      go_ret
      exact ⟨rfl, rfl⟩
theorem fateCells {w W : World} {ad : Addr} {i : Nat} {c0 c1 c2 c3 c4 : Value} (h : ∀ k, k < 5 → w.cell? (ad.add (i * 5 + k)) = (#[c0, c1, c2, c3, c4] : Array Value)[k]?) (hb : Below w.heap.size w W) :
    W.cell? (ad.add (i * 5)) = some c0 ∧ W.cell? ⟨(ad.add (i * 5)).block, (ad.add (i * 5)).off + 1, none⟩ = some c1 ∧ W.cell? ⟨(ad.add (i * 5)).block, (ad.add (i * 5)).off + 2, none⟩ = some c2 ∧ W.cell? ⟨(ad.add (i * 5)).block, (ad.add (i * 5)).off + 3, none⟩ = some c3 ∧ W.cell? ⟨(ad.add (i * 5)).block, (ad.add (i * 5)).off + 4, none⟩ = some c4 := by
  have key : ∀ k v, k < 5 → (#[c0, c1, c2, c3, c4] : Array Value)[k]? = some v → W.cell? ((ad.add (i * 5)).add k) = some v := fun k v hk hv => by
    have h1 := (h k hk).trans hv
    rw [← Addr.add_add] at h1
    exact (World.cell?_of_block (hb.block _ (World.block_lt_of_cell? _ _ h1))).trans h1
  refine ⟨?_, key 1 c1 (by omega) rfl, key 2 c2 (by omega) rfl, key 3 c3 (by omega) rfl, key 4 c4 (by omega) rfl⟩
  have := key 0 c0 (by omega) rfl
  simpa [Addr.add] using this
theorem bounced (s a b c : Int) (o : Bool) (w : World) : Calls Tryd.prog 25 #[.agg #[.int .i64 s, .int .i64 a, .int .i64 b, .int .i64 c, .bool o]] w fun e w' => e = .returned (.bool (s == 2)) ∧ Below w.heap.size w w' := by
  have hb := below_alloc (Below.refl w.heap.size w) (.cells #[.int .i64 s, .int .i64 a, .int .i64 b, .int .i64 c, .bool o] 45)
  have HB := Aside0.mk hb
  clear hb
  go_enter Tryd.func25, Tryd.ntmps25
  go_wp2
  go_ret
  exact ⟨rfl, HB.out⟩
set_option maxHeartbeats 1000000 in
theorem indexFates (A : Option Addr) (c : Nat) (l : List Int) (w : World) (h : FatesAt w A l) (hn : l.length ≤ 100) :
    Calls Tryd.prog 33 #[.slice A l.length c, .func (.func 25) #[] #[]] w fun e w' => ∃ r : Int, e = .returned (.int .i64 r) ∧ (0 ≤ r ↔ l.any (fun s => s == 2) = true) ∧ Below w.heap.size w w' := by
  have HN := Aside0.mk h
  clear h
  go_enter Tryd.func33, Tryd.ntmps33
  go_wp2
  go_loopw [5, 8] (fun v5 v8 wr => ∃ i : Nat, i ≤ l.length ∧ v8 = .int .i64 i ∧ Aside0 (∀ j (hj : j < l.length), j < i → (l[j] == 2) = false) ∧ Aside0 (Below w.heap.size w wr)) (fun _ v8 _ => l.length - (intOf v8).toNat)
  case atStart => exact ⟨0, by omega, rfl, ⟨fun j hj h => by omega⟩, ⟨Below.refl _ _⟩⟩
  case round =>
    obtain ⟨i, hi, rfl, HI, HB⟩ := hrel
    by_cases hlt : i < l.length
    · obtain ⟨ad, x, y, z, o, rfl, hc⟩ := HN.out i hlt
      obtain ⟨s, hs⟩ : ∃ s, l[i] = s := ⟨_, rfl⟩
      rw [hs] at hc
      obtain ⟨d0, d1, d2, d3, d4⟩ := fateCells hc HB.out
      have X := bounced s x y z o wr
      have HS := Aside0.mk hs
      clear hc hs
      obtain ⟨r, hr⟩ : ∃ r, (s == 2) = r := ⟨_, rfl⟩
      rw [hr] at X
      have HR := Aside0.mk hr
      clear hr
      cases r with
      | false =>
        go_wp2_with (go_at_call 25; refine X.mono ?_; rintro e W ⟨rfl, hb⟩; have HB2 := Aside0.mk (HB.out.trans (hb.mono HB.out.size)); clear hb X)
        go_roundw
        case rel =>
          refine ⟨i + 1, by omega, by go_num, ⟨fun j hj h => ?_⟩, HB2⟩
          by_cases e : j = i
          · subst e; rw [HS.out]; exact HR.out
          · exact HI.out j hj (by omega)
        case measure => simp [intOf]; omega
      | true =>
        go_wp2_with (go_at_call 25; refine X.mono ?_; rintro e W ⟨rfl, hb⟩; have HB2 := Aside0.mk (HB.out.trans (hb.mono HB.out.size)); clear hb X)
        go_ret
        refine ⟨(i : Int), rfl, ⟨fun _ => ?_, fun _ => by omega⟩, HB2.out⟩
        rw [List.any_eq_true]
        exact ⟨l[i], List.getElem_mem hlt, by rw [HS.out]; exact HR.out⟩
    · go_wp2
      go_ret
      refine ⟨-1, rfl, ⟨fun h => by omega, fun h => ?_⟩, HB.out⟩
      rw [List.any_eq_true] at h
      obtain ⟨x, hx, hx2⟩ := h
      obtain ⟨j, hj, rfl⟩ := List.getElem_of_mem hx
      rw [HI.out j hj (by omega)] at hx2
      cases hx2
theorem containsFates (A : Option Addr) (c : Nat) (l : List Int) (w : World) (h : FatesAt w A l) (hn : l.length ≤ 100) :
    Calls Tryd.prog 24 #[.slice A l.length c, .func (.func 25) #[] #[]] w fun e w' => e = .returned (.bool (l.any fun s => s == 2)) ∧ Below w.heap.size w w' := by
  have X := indexFates A c l w h hn
  obtain ⟨b, hb⟩ : ∃ b, (l.any fun s => s == 2) = b := ⟨_, rfl⟩
  rw [hb] at X ⊢
  clear h hb
  go_enter Tryd.func24, Tryd.ntmps24
  go_wp2_with (go_at_call 33; refine X.mono ?_; rintro e W ⟨r, rfl, hr, hB⟩)
  go_ret
  refine ⟨?_, hB⟩
  cases b with
  | true => have : 0 ≤ r := hr.2 rfl; simp [this]
  | false => have : ¬ 0 ≤ r := fun h => by cases hr.1 h
             simp [this]
end Go.Proofs.YthdjeikfbbdehaaDoor.Fs
