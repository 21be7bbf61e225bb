/- script: unhex. -/
import Derived.Test.YtkcdlfkicopmoaaDoorScrNums
namespace Go.Proofs.YtkcdlfkicopmoaaDoor.Fs
open Go.RowKit Go.Proofs.YtkcdlfkicopmoaaDoor Go.Proofs.YtkcdlfkicopmoaaDoor.Plain Go.Proofs.YtkcdlfkicopmoaaDoorW.PrintWords Go.Maps
set_option linter.unusedVariables false
set_option linter.unusedSimpArgs false
def hexi (c : UInt8) : Int := if hexv c < 16 then (hexv c : Int) else -1
theorem indexHex (c : UInt8) : Lib.indexByte sixteen c = hexi c := by
  have key : ∀ m : Fin 256, Lib.indexByte sixteen (UInt8.ofNat m) = hexi (UInt8.ofNat m) := by decide +kernel
  have := key ⟨c.toNat, c.toNat_lt⟩
  simpa using this
theorem indexByteIs (c : UInt8) (W : World) : Calls Tryd.prog 48 #[.string ⟨#[48, 49, 50, 51, 52, 53, 54, 55, 56, 57, 97, 98, 99, 100, 101, 102]⟩, .int .u8 (c.toNat : Int)] W fun e w' => e = .returned (.int .i64 (hexi c)) ∧ w' = W := by
  have h := Tryd.strings_IndexByte ⟨#[48, 49, 50, 51, 52, 53, 54, 55, 56, 57, 97, 98, 99, 100, 101, 102]⟩ (c.toNat : Int) W
  have e : ((c.toNat : Int).toNat.toUInt8) = c := by simp
  rw [e, show (⟨#[48, 49, 50, 51, 52, 53, 54, 55, 56, 57, 97, 98, 99, 100, 101, 102]⟩ : ByteArray).data.toList = sixteen from rfl, indexHex] at h
  exact h
theorem cutPrefixIs (u : Nm) (W : World) : Calls Tryd.prog 47 #[.string (S u), .string ⟨#[120]⟩] W fun e w' => e = .returned (.tuple #[.string (S (if [120] <+: u then u.drop 1 else u)), .bool (decide ([120] <+: u))]) ∧ w' = W := by
  have h := Tryd.strings_CutPrefix (S u) ⟨#[120]⟩ W
  have e1 : Lib.hasPrefix u [120] = decide ([120] <+: u) := by
    unfold Lib.hasPrefix
    rw [Bool.eq_iff_iff]
    simp [List.isPrefixOf_iff_prefix]
  have e2 : Lib.trimPrefix u [120] = if [120] <+: u then u.drop 1 else u := by
    unfold Lib.trimPrefix
    rw [e1]
    by_cases hp : [120] <+: u <;> simp [hp]
  rw [show (S u).data.toList = u from rfl, show (⟨#[120]⟩ : ByteArray).data.toList = [120] from rfl, e1, e2] at h
  exact h
theorem pairs_two (a b : UInt8) (r : Nm) : pairs (a :: b :: r) = if hexv a < 16 ∧ hexv b < 16 then (pairs r).map (UInt8.ofNat (hexv a * 16 + hexv b) :: ·) else none := by rw [pairs]
theorem pairs_odd : ∀ (l : Nm), l.length % 2 = 1 → pairs l = none
  | [], h => by cases h
  | [_], _ => rfl
  | a :: b :: r, h => by
    rw [pairs_two, pairs_odd r (by simp only [List.length_cons] at h; omega)]
    simp
def unhexT (u : Nm) : Nm := (unhexB u).getD []
def unhexO (u : Nm) : Bool := (unhexB u).isSome
theorem unhexB_not {u : Nm} (h : ¬ [120] <+: u) : unhexB u = none := by
  unfold unhexB
  split
  · exact absurd ⟨_, rfl⟩ h
  · rfl
theorem or16 (p q : Nat) (hp : p < 16) (hq : q < 16) : bits BinOp.or IntKind.i64 ((p * 16 : Nat) : Int) (q : Int) = ((p * 16 + q : Nat) : Int) := by
  have key : ∀ (a b : Fin 16), bits BinOp.or IntKind.i64 (((a : Nat) * 16 : Nat) : Int) ((b : Nat) : Int) = (((a : Nat) * 16 + (b : Nat) : Nat) : Int) := by decide +kernel
  exact key ⟨p, hp⟩ ⟨q, hq⟩
set_option maxHeartbeats 1000000 in
set_option maxRecDepth 100000 in
theorem unhexIs (u : Nm) (hu : u.length ≤ 2147483649) (w : World) : Calls Tryd.prog 32 #[.string (S u)] w fun e W' => e = .returned (.tuple #[.string (S (unhexT u)), .bool (unhexO u)]) ∧ Below w.heap.size w W' := by
  have XC := cutPrefixIs u w
  by_cases hp : [120] <+: u
  · obtain ⟨r, hr⟩ : ∃ r, u.drop 1 = r := ⟨_, rfl⟩
    have hur : u = 120 :: r := by
      obtain ⟨t, ht⟩ := hp
      rw [← ht] at hr ⊢
      simp at hr
      rw [← hr]
      rfl
    have e1 : (if [120] <+: u then u.drop 1 else u) = r := by rw [if_pos hp, hr]
    rw [e1, decide_eq_true hp] at XC
    have hl : r.length ≤ 2147483648 := by rw [hur] at hu; simp at hu; omega
    have HU := Aside0.mk (show unhexB u = pairs r by rw [hur]; rfl)
    clear e1 hr hp hur hu
    by_cases hodd : r.length % 2 = 1
    · have e : unhexB u = none := by rw [HU.out]; exact pairs_odd r hodd
      have et : unhexT u = [] := by unfold unhexT; rw [e]; rfl
      have eo : unhexO u = false := by unfold unhexO; rw [e]; rfl
      rw [et, eo]
      have hrem : (r.length : Int).tmod 2 = 1 := by rw [Int.tmod_eq_emod_of_nonneg (by omega)]; omega
      clear e et eo
      go_enter Tryd.func32, Tryd.ntmps32
      go_wp2_with (go_at_call 47; refine XC.mono ?_; rintro e W1 ⟨rfl, rfl⟩)
      go_ret2
      exact ⟨rfl, Below.refl _ _⟩
    · have hev : r.length % 2 = 0 := by omega
      have hev2 : ((r.length : Int) % 2 == 1) = false := by simp only [beq_eq_false_iff_ne, ne_eq]; omega
      go_enter Tryd.func32, Tryd.ntmps32
      go_wp2_with (go_at_call 47; refine XC.mono ?_; rintro e W1 ⟨rfl, rfl⟩)
      go_loopw [5, 6, 7, 8] (fun v5 v6 v7 v8 wr => ∃ (i : Nat) (T : Nm), i ≤ r.length ∧ i % 2 = 0 ∧ T.length ≤ i ∧ v6 = .int .i64 i ∧ Aside0 (pairs r = (pairs (r.drop i)).map (T ++ ·)) ∧ Aside0 (BRow W1 v5 T wr)) (fun _ v6 _ _ _ => r.length - (intOf v6).toNat)
      case atStart => exact ⟨0, [], by omega, rfl, by simp, rfl, ⟨by simp⟩, ⟨BRow.nil (Below.refl _ _)⟩⟩
      case round =>
        obtain ⟨i, T, hi, hi2, hTi, rfl, HP, HR⟩ := hrel
        by_cases hlt : i < r.length
        · have hlt2 : i + 1 < r.length := by omega
          obtain ⟨a, ha⟩ : ∃ a, r[i] = a := ⟨_, rfl⟩
          obtain ⟨b, hb⟩ : ∃ b, r[i + 1] = b := ⟨_, rfl⟩
          have hga : ∀ pf, (S r)[i]'pf = a := fun _ => ha
          have hgb : ∀ pf, (S r)[i + 1]'pf = b := fun _ => hb
          have hdr : r.drop i = a :: b :: r.drop (i + 2) := by
            rw [List.drop_eq_getElem_cons hlt, List.drop_eq_getElem_cons hlt2, ha, hb]
          have hp2 := HP.out
          rw [hdr, pairs_two] at hp2
          have HP2 := Aside0.mk hp2
          have hw : IntKind.i64.wrap ((i : Int) + 1) = ((i + 1 : Nat) : Int) := by rw [IntWalk.i64_in _ (by omega)]; omega
          clear hdr hp2 ha hb HP
          go_wp2
          go_quiet ((go_at_call 48; go_must (exact Calls.quiet_of_same (indexByteIs _ _))))
          by_cases ha16 : hexv a < 16
          · by_cases hb16 : hexv b < 16
            · have hp3 := HP2.out
              rw [if_pos ⟨ha16, hb16⟩] at hp3
              obtain ⟨p, hpp⟩ : ∃ p, hexv a = p := ⟨_, rfl⟩
              obtain ⟨q, hqq⟩ : ∃ q, hexv b = q := ⟨_, rfl⟩
              have hxa : hexi a = (p : Int) := by unfold hexi; rw [if_pos ha16, hpp]
              have hxb : hexi b = (q : Int) := by unfold hexi; rw [if_pos hb16, hqq]
              rw [hpp, hqq] at hp3
              have HP3 := Aside0.mk hp3
              have hp16 : p < 16 := by omega
              have hq16 : q < 16 := by omega
              rw [hxa, hxb]
              obtain ⟨z, hz⟩ : ∃ z : UInt8, UInt8.ofNat (p * 16 + q) = z := ⟨_, rfl⟩
              have hzn : z.toNat = p * 16 + q := by rw [← hz, UInt8.toNat_ofNat']; omega
              have hor : bits BinOp.or IntKind.i64 ((p : Int) * 16) (q : Int) = (z.toNat : Int) := by
                have := or16 p q hp16 hq16
                rw [← hzn] at this
                simpa using this
              have hz256 : (z.toNat : Int) % 256 = (z.toNat : Int) := by omega
              rw [hz] at HP3
              have HLE := Aside0.mk (show T.length + ([z] : Nm).length ≤ 140737488355328 by simp only [List.length_cons, List.length_nil]; omega)
              have HNX := Aside0.mk (show pairs r = (pairs (r.drop (i + 2))).map ((T ++ [z]) ++ ·) by rw [HP3.out, Option.map_map]; congr 1; funext x; simp)
              clear hp3 hpp hqq hxa hxb ha16 hb16 HP2 hga hgb hz hzn HP3
              go_wp2_with (at_builtin; refine appendB (HR.out.step (by repeat (first | exact Below.refl _ _ | apply pw_below_drewN | refine below_alloc ?_ _))) [z] HLE.out rfl _ _ rfl rfl _ 1 1 rfl rfl (cell_one_new _ _ _) ?_; rintro v1 W4 h; have HR4 := Aside0.mk h; clear h)
              go_roundw
              case rel => exact ⟨i + 2, T ++ [z], by omega, by omega, by simp; omega, by go_num, HNX, HR4⟩
              case measure => simp [intOf]; omega
            · have hp3 := HP2.out
              rw [if_neg (fun h => hb16 h.2), Option.map_none] at hp3
              have e : unhexB u = none := by rw [HU.out]; exact hp3
              have et : unhexT u = [] := by unfold unhexT; rw [e]; rfl
              have eo : unhexO u = false := by unfold unhexO; rw [e]; rfl
              have hxa : hexi a = (hexv a : Int) := by unfold hexi; rw [if_pos ha16]
              have hxb : hexi b = -1 := by unfold hexi; rw [if_neg hb16]
              obtain ⟨p, hpp⟩ : ∃ p, hexv a = p := ⟨_, rfl⟩
              rw [hpp] at hxa
              rw [hxa, hxb]
              have HET := Aside0.mk et
              have HEO := Aside0.mk eo
              clear hp3 hpp hxa hxb ha16 hb16 HP2 hga hgb e et eo
              go_wp2
              go_ret2
              rw [HET.out, HEO.out]
              exact ⟨rfl, pw_below_drewN HR.out.below _⟩
          · have hp3 := HP2.out
            rw [if_neg (fun h => ha16 h.1), Option.map_none] at hp3
            have e : unhexB u = none := by rw [HU.out]; exact hp3
            have et : unhexT u = [] := by unfold unhexT; rw [e]; rfl
            have eo : unhexO u = false := by unfold unhexO; rw [e]; rfl
            have hxa : hexi a = -1 := by unfold hexi; rw [if_neg ha16]
            rw [hxa]
            have HET := Aside0.mk et
            have HEO := Aside0.mk eo
            clear hp3 hxa ha16 HP2 hga hgb e et eo
            go_wp2
            go_ret2
            rw [HET.out, HEO.out]
            exact ⟨rfl, pw_below_drewN HR.out.below _⟩
        · obtain rfl : i = r.length := by omega
          have hp2 := HP.out
          rw [List.drop_length, show pairs [] = some [] from rfl, Option.map_some, List.append_nil] at hp2
          have e : unhexB u = some T := by rw [HU.out]; exact hp2
          have et : unhexT u = T := by unfold unhexT; rw [e]; rfl
          have eo : unhexO u = true := by unfold unhexO; rw [e]; rfl
          have HET := Aside0.mk et
          have HEO := Aside0.mk eo
          obtain ⟨A3, c3, hv3⟩ := HR.out.slice
          have HR2 := HR.out
          subst hv3
          have hcv := convB (c := c3) (HR2.reads (by omega)).1 rfl
          have HX := Aside0.mk HR2
          clear HR2 HR hp2 e et eo HP
          go_wp2
          go_ret2
          rw [HET.out, HEO.out]
          exact ⟨rfl, HX.out.below⟩
  · have e1 : (if [120] <+: u then u.drop 1 else u) = u := if_neg hp
    rw [e1, decide_eq_false hp] at XC
    have e := unhexB_not hp
    have et : unhexT u = [] := by unfold unhexT; rw [e]; rfl
    have eo : unhexO u = false := by unfold unhexO; rw [e]; rfl
    rw [et, eo]
    clear e1 e et eo hp
    go_enter Tryd.func32, Tryd.ntmps32
    go_wp2_with (go_at_call 47; refine XC.mono ?_; rintro e W1 ⟨rfl, rfl⟩)
    go_ret2
    exact ⟨rfl, Below.refl _ _⟩
end Go.Proofs.YtkcdlfkicopmoaaDoor.Fs
