/- Texts: are two lists of strings the same? -/
import Derived.Test.YthdjeikfbbdehaaDoorStrList
import Derived.Test.YthdjeikfbbdehaaDoorFsRight
namespace Go.Proofs.YthdjeikfbbdehaaDoor.Fs
open Go.RowKit Go.Proofs.YthdjeikfbbdehaaDoor Go.Proofs.YthdjeikfbbdehaaDoor.Plain Go.Proofs.YthdjeikfbbdehaaDoorW.PrintWords Go.Maps
set_option linter.unusedVariables false
set_option linter.unusedSimpArgs false
set_option maxHeartbeats 1000000 in
set_option maxRecDepth 100000 in
theorem textsIs {W : World} {A A' : Option Addr} {c c' : Nat} {l r : List Nm} (h : NamesAt W A l) (h' : NamesAt W A' r) {n m : Nat} (hn : n = l.length) (hm : m = r.length) (hl : n ≤ 1000000) (hr : m ≤ 1000000) :
    Calls Tryd.prog 29 #[.slice A n c, .slice A' m c'] W fun e W' => e = .returned (.bool (l == r)) ∧ Below W.heap.size W W' := by
  subst hn hm
  have HL := Aside0.mk h
  have HR := Aside0.mk h'
  clear h h'
  by_cases hlen : l.length = r.length
  · have hlen' : ((l.length : Int) == (r.length : Int)) = true := by simp [hlen]
    have HLEN := Aside0.mk hlen
    have hls : (l.length : Int) ≤ 1000000 := by omega
    clear hlen
    go_enter Tryd.func29, Tryd.ntmps29
    go_wp2
    go_loopw [5] (fun v5 wr => ∃ i : Nat, i ≤ l.length ∧ v5 = .int .i64 i ∧ Aside0 (Below W.heap.size W wr) ∧ Aside0 (∀ j (hj : j < i), l[j]? = r[j]?)) (fun v5 _ => l.length - (intOf v5).toNat)
    case atStart => exact ⟨0, by omega, rfl, ⟨Below.refl _ _⟩, ⟨fun j hj => by omega⟩⟩
    case round =>
      obtain ⟨i, hi, rfl, HB, HI⟩ := hrel
      by_cases hlt : i < l.length
      · have hlt2 : i < r.length := by have := HLEN.out; omega
        obtain ⟨ad, hA, hcell, -⟩ := (HL.out.below HB.out) i hlt
        obtain ⟨ad', hA', hcell', -⟩ := (HR.out.below HB.out) i hlt2
        subst hA hA'
        have HX := Aside0.mk (List.getElem?_eq_getElem hlt)
        have HY := Aside0.mk (List.getElem?_eq_getElem hlt2)
        obtain ⟨x, hx⟩ : ∃ x, l[i] = x := ⟨_, rfl⟩
        obtain ⟨y, hy⟩ : ∃ y, r[i] = y := ⟨_, rfl⟩
        rw [hx] at hcell HX
        rw [hy] at hcell' HY
        clear hx hy
        by_cases hxy : x = y
        · subst hxy
          go_wp2
          go_quiet (fail)
          go_wp2
          go_roundw
          case rel => exact ⟨i + 1, by omega, by go_num, ⟨pw_below_drewN HB.out _⟩, ⟨fun j hj => by
            rcases Nat.lt_or_ge j i with h | h
            · exact HI.out j h
            · obtain rfl : j = i := by omega
              rw [HX.out, HY.out]⟩⟩
          case measure => simp [intOf]; omega
        · have hne : (x == y) = false := by simpa using hxy
          have HN := Aside0.mk hxy
          clear hxy
          go_wp2
          go_quiet (fail)
          go_wp2
          go_ret
          have e : (l == r) = false := by
            simp only [beq_eq_false_iff_ne, ne_eq]
            intro e
            have h1 := HX.out
            rw [e, HY.out] at h1
            exact HN.out (Option.some.inj h1).symm
          rw [e]
          exact ⟨rfl, pw_below_drewN HB.out _⟩
      · go_wp2
        go_ret
        have e : (l == r) = true := by
          simp only [beq_iff_eq]
          refine List.ext_getElem? fun j => ?_
          rcases Nat.lt_or_ge j i with h | h
          · exact HI.out j h
          · rw [List.getElem?_eq_none (by omega), List.getElem?_eq_none (by have := HLEN.out; omega)]
        rw [e]
        exact ⟨rfl, HB.out⟩
  · have hlen' : ((l.length : Int) == (r.length : Int)) = false := by simp; omega
    have hne : (l == r) = false := by simpa using fun e => hlen (by rw [e])
    have HNE := Aside0.mk hne
    clear hlen hne
    go_enter Tryd.func29, Tryd.ntmps29
    go_wp2
    go_ret
    rw [HNE.out]
    exact ⟨rfl, Below.refl _ _⟩
end Go.Proofs.YthdjeikfbbdehaaDoor.Fs
