/- AddrPaths: the pure statement. -/
import Derived.Test.YthhhaacoiknbpaaDoorAddrParts
namespace Go.Proofs.YthhhaacoiknbpaaDoor.Pure
open Go.RowKit Go.Proofs.YthhhaacoiknbpaaDoor.PALL Go.Proofs.YthhhaacoiknbpaaDoor.Plain Go.Proofs.YthhhaacoiknbpaaDoorW.PrintWords
set_option linter.unusedVariables false
set_option linter.unusedSimpArgs false

/-- what stands between < and > -/
def pathB (u : List UInt8) : ByteArray × Bool :=
  if (u.head? == some 60) = true then (if ((u.drop 1).getLast? == some 62) = true then (if (u.drop 1).dropLast = [] then (S [], true) else toParse (partsB (u.drop 1).dropLast)) else (S [], false)) else (S [], false)
theorem cutPrefix_f (u : List UInt8) (c : UInt8) : strings_CutPrefix.f (S u) (S [c]) = some (if (u.head? == some c) = true then (S (u.drop 1), true) else (S u, false)) := by
  have h := hasPrefix_f u c
  unfold strings_HasPrefix.f at h
  unfold strings_CutPrefix.f stringslite_CutPrefix.f
  cases hp : stringslite_HasPrefix.f (S u) (S [c]) with
  | none => rw [hp] at h; cases h
  | some t =>
    rw [hp, Option.bind_some, Option.some.injEq] at h
    subst h
    rw [Option.bind_some]
    cases hb : (u.head? == some c)
    · rfl
    · have hl : 1 ≤ u.length := by
        cases u with
        | nil => cases hb
        | cons b u => simp
      rw [if_pos rfl, if_pos rfl, S_size, S_size, List.length_singleton, if_pos (by omega), if_pos (by omega), S_extract, List.take_length]
      rfl
theorem cutSuffix_f (u : List UInt8) (c : UInt8) (hz : u.length ≤ 1000000) : strings_CutSuffix.f (S u) (S [c]) = some (if (u.getLast? == some c) = true then (S u.dropLast, true) else (S u, false)) := by
  have h := hasSuffix_f u c hz
  unfold strings_HasSuffix.f at h
  unfold strings_CutSuffix.f stringslite_CutSuffix.f
  cases hp : stringslite_HasSuffix.f (S u) (S [c]) with
  | none => rw [hp] at h; cases h
  | some t =>
    rw [hp, Option.bind_some, Option.some.injEq] at h
    subst h
    rw [Option.bind_some]
    cases hb : (u.getLast? == some c)
    · rfl
    · have hl : 1 ≤ u.length := by
        cases u with
        | nil => cases hb
        | cons b u => simp
      have hw : wrap64 ((u.length : Int) - ((1 : Nat) : Int)) = ((u.length - 1 : Nat) : Int) := by rw [wrap_in (by omega) (by omega)]; omega
      rw [if_pos rfl, if_pos rfl, S_size, S_size, List.length_singleton, hw, if_pos (by omega), if_pos (by omega), S_extract, Int.toNat_natCast, List.drop_zero, List.dropLast_eq_take]
      rfl
theorem addrPath_f (u : List UInt8) (hz : u.length ≤ 500000) : Ev (fun k => addr_Path.f k (S u)) (pathB u) := by
  obtain ⟨K, hK⟩ := addrParse_f (u.drop 1).dropLast (by simp; omega)
  dsimp only at hK
  refine ⟨K + 1, fun k hk => ?_⟩
  obtain ⟨k, rfl⟩ : ∃ m, k = m + 1 := ⟨k - 1, by omega⟩
  dsimp only
  unfold addr_Path.f pathB
  rw [show (⟨#[60]⟩ : ByteArray) = S [60] from rfl, cutPrefix_f, Option.bind_some]
  cases h1 : (u.head? == some 60)
  · rw [if_neg (by simp), if_neg (by simp)]
    simp only [addr_Path.j0]
    rfl
  · rw [if_pos rfl, if_pos rfl, show (⟨#[62]⟩ : ByteArray) = S [62] from rfl, cutSuffix_f _ _ (by simp; omega), Option.bind_some]
    cases h2 : ((u.drop 1).getLast? == some 62)
    · simp only [addr_Path.j0]
      rfl
    · simp only [addr_Path.j0, if_true, S_toList]
      by_cases h3 : (u.drop 1).dropLast = []
      · rw [if_pos h3, if_pos h3]
        rfl
      · rw [if_neg h3, if_neg h3, hK k (by omega)]
        rfl
theorem refPath_f (u : List UInt8) (hz : u.length ≤ 500000) : Ev (fun k => pillarboxref05_Path.f k (S u)) (pathB u) := by
  have hbad : ∀ k x0, pillarboxref05_Path.j0 (k + 1) x0 true = some (S [], false) := fun k x0 => by rw [pillarboxref05_Path.j0, if_pos rfl]; rfl
  cases u with
  | nil =>
    refine Ev.succ ⟨0, fun k _ => ?_⟩
    unfold pillarboxref05_Path.f
    rw [S_size, if_pos (by simp), hbad]
    rfl
  | cons b v =>
    rcases List.eq_nil_or_concat v with rfl | ⟨x, c, rfl⟩
    · refine Ev.succ ⟨0, fun k _ => ?_⟩
      unfold pillarboxref05_Path.f
      rw [S_size, if_pos (by simp), hbad]
      simp [pathB]
    · rw [List.concat_eq_append] at hz ⊢
      have hl : (b :: (x ++ [c])).length = x.length + 2 := by simp
      obtain ⟨K, hK⟩ := refParse_f x (by omega)
      dsimp only at hK
      refine Ev.succ ⟨K + 1, fun k hk => ?_⟩
      obtain ⟨k, rfl⟩ : ∃ m, k = m + 1 := ⟨k - 1, by omega⟩
      unfold pillarboxref05_Path.f
      have h0 : bt (S (b :: (x ++ [c]))) 0 = (b.toNat : Int) := bt_S (i := 0) (by omega)
      have hw : wrap64 (((b :: (x ++ [c])).length : Int) - 1) = ((x.length + 1 : Nat) : Int) := by rw [wrap_in (by omega) (by omega)]; omega
      have hlast : bt (S (b :: (x ++ [c]))) ((x.length + 1 : Nat) : Int) = (c.toNat : Int) := by
        rw [bt_S (by omega)]
        simp
      have hpath : pathB (b :: (x ++ [c])) = if b = 60 then (if c = 62 then (if x = [] then (S [], true) else toParse (partsB x)) else (S [], false)) else (S [], false) := by
        unfold pathB
        simp
      rw [S_size, if_neg (by omega), if_pos (by omega), h0, hw, hlast, hpath]
      by_cases h1 : b = 60
      · rw [if_pos ((u8_is (n := 60) 60 rfl).2 h1), if_pos (by omega), if_pos (by omega), if_pos h1]
        by_cases h2 : c = 62
        · have e : (((c.toNat : Int)) != 62) = false := by rw [bne_eq_false_iff_eq]; exact (u8_is (n := 62) 62 rfl).2 h2
          rw [e, if_pos h2, pillarboxref05_Path.j0, if_neg (by simp), S_size]
          by_cases h3 : x = []
          · rw [if_pos (by rw [hl, h3]; rfl), if_pos h3]
            rfl
          · have : x.length ≠ 0 := fun e => h3 (List.length_eq_zero_iff.1 e)
            have hx : (S (b :: (x ++ [c]))).extract 1 (x.length + 1) = S x := by
              rw [S_extract]
              simp
            rw [if_neg (by omega), if_neg h3, hw, if_pos (by omega), if_pos (by omega), Int.toNat_natCast, hx, hK (k + 1) (by omega)]
            rfl
        · have e : (((c.toNat : Int)) != 62) = true := by rw [bne_iff_ne]; exact fun e => h2 ((u8_is (n := 62) 62 rfl).1 e)
          rw [e, hbad, if_neg h2]
      · rw [if_neg (fun e => h1 ((u8_is (n := 60) 60 rfl).1 e)), hbad, if_neg h1]
theorem AddrPaths : ∀ (a0 : ByteArray), a0.size ≤ 140737488351232 → ∃ k, pillarboxlaw05_AddrPaths.f k a0 = some true := by
  intro s hs
  obtain ⟨u, rfl⟩ := exS s
  rw [S_size] at hs
  obtain ⟨KA, hA⟩ := answers_f
  dsimp only at hA
  by_cases h5 : u.length > 500
  · refine ⟨KA, ?_⟩
    unfold pillarboxlaw05_AddrPaths.f
    rw [S_size, if_pos (by omega), hA _ (Nat.le_refl _)]
    rfl
  · obtain ⟨K1, h1⟩ := addrPath_f u (by omega)
    obtain ⟨K2, h2⟩ := refPath_f u (by omega)
    obtain ⟨K3, h3⟩ := addrPath_f ([60] ++ u ++ [62]) (by simp; omega)
    obtain ⟨K4, h4⟩ := refPath_f ([60] ++ u ++ [62]) (by simp; omega)
    dsimp only at h1 h2 h3 h4
    refine ⟨KA + K1 + K2 + K3 + K4, ?_⟩
    unfold pillarboxlaw05_AddrPaths.f
    rw [S_size, if_neg (by omega), hA _ (by omega), h1 _ (by omega), h2 _ (by omega), show (⟨#[60]⟩ : ByteArray) = S [60] from rfl, show (⟨#[62]⟩ : ByteArray) = S [62] from rfl, S_append, S_append, h3 _ (by omega), h4 _ (by omega)]
    simp only [Option.bind_some]
    rw [if_pos (by omega), if_pos (by omega)]
    simp
end Go.Proofs.YthhhaacoiknbpaaDoor.Pure
