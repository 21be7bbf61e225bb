/- law23: ref10.box. -/
import Derived.Test.YthdjeikfbbdehaaDoorDsnBoxPure
import Derived.Test.YthdjeikfbbdehaaDoorDsnBody
namespace Go.Proofs.YthdjeikfbbdehaaDoor.Fs
open Go.RowKit Go.Proofs.YthdjeikfbbdehaaDoor Go.Proofs.YthdjeikfbbdehaaDoor.Plain Go.Proofs.YthdjeikfbbdehaaDoorW.PrintWords Go.Maps Go.Proofs.YthdjeikfbbdehaaDoor.Pure
set_option linter.unusedVariables false
set_option linter.unusedSimpArgs false
def boxB (u : List UInt8) : Bool := (toParse (partsB u)).2 && (S u).toList == (toParse (partsB u)).1.toList
theorem boxIs (u : List UInt8) (hu : u.length ≤ 140737488351232) (w : World) : Calls Tryd.prog 31 #[.string (S u)] w fun e w' => e = .returned (.bool (boxB u)) ∧ Below w.heap.size w w' := by
  obtain ⟨k, hk⟩ := refParse_f u (by omega)
  have hk := hk k (Nat.le_refl k)
  refine PBOX.pillarboxref10_box.calls k (S u) (boxB u) w (Glob.of w) ?_
  unfold PBOX.pillarboxref10_box.f
  have hk2 : PBOX.pillarboxref05_Parse.f k (S u) = some (toParse (partsB u)) := hk
  rw [hk2, Option.bind_some]
  unfold boxB
  cases h : (toParse (partsB u)).2 with
  | true => rw [if_pos rfl, Bool.true_and]
  | false => rw [if_neg (by simp), Bool.false_and]
theorem boxB_some {u : List UInt8} (h : boxB u = true) : u.length ≤ 64 ∧ ∀ c ∈ u, c ≠ 13 := by
  unfold boxB at h
  cases hp : partsB u with
  | none => rw [hp] at h; simp [toParse] at h
  | some p =>
    obtain ⟨n, d⟩ := p
    obtain ⟨b, h1, h2, h3, h4, h5, h6⟩ := parts_some hp
    refine ⟨h5, fun c hc e => ?_⟩
    subst e
    rw [h2] at hc
    rcases List.mem_append.1 hc with hc | hc
    · unfold localB at h3
      simp only [Bool.and_eq_true] at h3
      have := List.all_eq_true.1 h3.2.1 13 hc
      revert this
      decide
    · rcases List.mem_cons.1 hc with hc | hc
      · revert hc
        decide
      · unfold domB at h4
        simp only [Bool.and_eq_true] at h4
        rcases dom_bytes b h4.1 13 hc with hx | hx
        · revert hx
          decide
        · revert hx
          decide
end Go.Proofs.YthdjeikfbbdehaaDoor.Fs
