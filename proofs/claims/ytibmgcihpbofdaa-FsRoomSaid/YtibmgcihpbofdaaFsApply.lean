/- fs: the three changes of a directory, as function values: what each does to a map. -/
import Derived.Test.YtibmgcihpbofdaaFsCalls
namespace Go.Proofs.Ytibmgcihpbofdaa.Fs
open Go.RowKit Go.Proofs.Ytibmgcihpbofdaa Go.Proofs.Ytibmgcihpbofdaa.Plain Go.Proofs.YtibmgcihpbofdaaW.PrintWords Go.Maps
set_option linter.unusedVariables false
set_option linter.unusedSimpArgs false
abbrev OwnDir (W : World) (b : Nat) (d : Dir) : Prop := W.ownsMap Try.prog 9 ptrElem b d.length (D d)
theorem box_cell {W : World} {a t : Nat} {v : Value} (h : W.heap[a]? = some (.cells #[v] t (0, 0))) : W.cell? ⟨a, 0, none⟩ = some v ∧ W.frozen? ⟨a, 0, none⟩ = false := by
  simp [World.cell?, World.frozen?, h]
theorem map_ne_box {W : World} {a b t : Nat} {c : Array Value} {d : Dir} (h : W.heap[a]? = some (.cells c t (0, 0))) (hm : OwnDir W b d) : some a ≠ some b := by
  obtain ⟨es, c', h1⟩ := map_obj hm
  intro e
  cases e
  rw [h] at h1
  cases h1
theorem own_put {W : World} {b n : Nat} {d : Dir} {m : Nm} {x : Nat} (h : W.ownsMap Try.prog 9 ptrElem b n ((D d).put (.string m) (.lit (.int .i64 (x : Int))))) : OwnDir W b (put d m x) := by
  rw [D_put] at h
  exact ownsMap_tight h
theorem own_del {W : World} {b n : Nat} {d : Dir} {m : Nm} (h : W.ownsMap Try.prog 9 ptrElem b n ((D d).del (.string m))) : OwnDir W b (del d m) := by
  rw [D_del] at h
  exact ownsMap_tight h
set_option maxHeartbeats 1000000 in
theorem unlinkFn {W : World} {a b : Nat} {n : Nm} {d : Dir} (hn : n.length ≤ 80) (ha : W.heap[a]? = some (.cells #[.string (S n)] 9 (0, 0))) (hd : OwnDir W b d) :
    Calls Try.prog 40 #[.map (some b), .pointer (some ⟨a, 0, none⟩)] W fun e W' => e = .returned (.tuple #[]) ∧ OwnDir W' b (del d n) ∧ W.grownBy W' (some b) := by
  obtain ⟨hc, hf⟩ := box_cell ha
  have HK := Aside0.mk (keyS n (by omega))
  have HD := Aside0.mk hd
  clear ha hd hn
  go_enter Try.func40, Try.ntmps40
  go_wp2_with (at_delete; refine wpList_delete_own _ rfl _ _ 61 9 rfl 66 keyed Try.underlying61 ptrElem b d.length (D d) rfl HD.out (.string (S n)) (.string n) rfl HK.out ?_; intro W1 h1 h2; have H1 := Aside0.mk (own_del h1); have H2 := Aside0.mk h2.grown; clear h1 h2)
  go_end0
  exact ⟨rfl, H1.out, H2.out⟩
set_option maxHeartbeats 1000000 in
theorem createFn {W : World} {a a' b x : Nat} {n : Nm} {d : Dir} (hn : n.length ≤ 80) (hx : W.heap[a]? = some (.cells #[.pointer (some ⟨x, 0, none⟩)] 66 (0, 0))) (ha : W.heap[a']? = some (.cells #[.string (S n)] 9 (0, 0))) (hd : OwnDir W b d) (hl : d.length ≤ 2000000) :
    Calls Try.prog 35 #[.map (some b), .pointer (some ⟨a, 0, none⟩), .pointer (some ⟨a', 0, none⟩)] W fun e W' => e = .returned (.tuple #[]) ∧ OwnDir W' b (put d n x) ∧ W.grownBy W' (some b) := by
  obtain ⟨hc, hf⟩ := box_cell ha
  obtain ⟨hc2, hf2⟩ := box_cell hx
  have HK := Aside0.mk (keyS n (by omega))
  have HD := Aside0.mk hd
  have HM := Aside0.mk (show d.length < maxLen by simp only [maxLen]; omega)
  clear ha hd hn hx hl
  go_enter Try.func35, Try.ntmps35
  go_wp2_with (at_mapUpdate; refine wpList_mapUpdate_in _ rfl _ _ _ 61 rfl 9 66 keyed Try.underlying61 ptrElem b d.length (D d) rfl HD.out HM.out (.string (S n)) (.pointer (some ⟨x, 0, none⟩)) (.string n) rfl rfl HK.out (.lit (.int .i64 (x : Int))) [] rfl ?_; intro W1 h1 h2; have H1 := Aside0.mk (own_put h1); have H2 := Aside0.mk h2.grown; clear h1 h2)
  go_end0
  exact ⟨rfl, H1.out, H2.out⟩
set_option maxHeartbeats 1000000 in
theorem renameFn {W : World} {a a' b x : Nat} {n m : Nm} {d : Dir} (hn : n.length ≤ 80) (hm : m.length ≤ 80) (ha : W.heap[a]? = some (.cells #[.string (S n)] 9 (0, 0))) (ha' : W.heap[a']? = some (.cells #[.string (S m)] 9 (0, 0))) (hd : OwnDir W b d) (hx : get d n = some x) (hl : d.length ≤ 2000000) :
    Calls Try.prog 41 #[.map (some b), .pointer (some ⟨a, 0, none⟩), .pointer (some ⟨a', 0, none⟩)] W fun e W' => e = .returned (.tuple #[]) ∧ OwnDir W' b (del (put d m x) n) ∧ W.grownBy W' (some b) := by
  obtain ⟨hc, hf⟩ := box_cell ha
  obtain ⟨hc2, hf2⟩ := box_cell ha'
  have HK := Aside0.mk (keyS n (by omega))
  have HK2 := Aside0.mk (keyS m (by omega))
  have HD := Aside0.mk hd
  have HA := Aside0.mk ha
  have HM := Aside0.mk (show d.length < maxLen by simp only [maxLen]; omega)
  have hlk : (Instr.lookup 61 (.map (some b)) (.string (S n)) false).run Try.prog W = .ok (.pointer (some ⟨x, 0, none⟩)) W := by
    obtain ⟨v, ps, hrun, hv⟩ := World.ownsMap.lookup hd keyed Try.underlying61 (zeroPtr W) (zd := .nil) (zp := []) rfl (keyS n (by omega))
    rw [D_at, hx] at hv
    rcases ptrElem_inv hv with ⟨b', rfl, e⟩ | ⟨rfl, e⟩
    · have : x = b' := by simp at e; omega
      subst this
      exact hrun
    · simp at e
  clear ha ha' hd hn hm hx hl
  go_enter Try.func41, Try.ntmps41
  go_wp2_with (first
    | (at_mapUpdate; refine wpList_mapUpdate_in _ rfl _ _ _ 61 rfl 9 66 keyed Try.underlying61 ptrElem b d.length (D d) rfl HD.out HM.out (.string (S m)) (.pointer (some ⟨x, 0, none⟩)) (.string m) rfl rfl HK2.out (.lit (.int .i64 (x : Int))) [] rfl ?_; intro W1 h1 h2; have H1 := Aside0.mk (own_put h1); have H2 := Aside0.mk h2.grown; have hc3 := (box_cell ((H2.out.block a (Array.getElem?_eq_some_iff.1 HA.out).1 (map_ne_box HA.out HD.out)).trans HA.out)).1; clear h1 h2)
    | (at_delete; refine wpList_delete_own _ rfl _ _ 61 9 rfl 66 keyed Try.underlying61 ptrElem b (put d m x).length (D (put d m x)) rfl H1.out (.string (S n)) (.string n) rfl HK.out ?_; intro W2 h1 h2; have H3 := Aside0.mk (own_del h1); have H4 := Aside0.mk h2.grown; clear h1 h2))
  go_end0
  exact ⟨rfl, H3.out, H2.out.trans H4.out⟩
end Go.Proofs.Ytibmgcihpbofdaa.Fs
