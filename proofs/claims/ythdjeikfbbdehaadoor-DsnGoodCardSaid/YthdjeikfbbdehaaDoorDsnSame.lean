/- law23: Same; good; what the laws ask of a program that does something ('answers'). -/
import Derived.Test.YthdjeikfbbdehaaDoorDsnMake
import Derived.Test.YthdjeikfbbdehaaDoorTexts
namespace Go.Proofs.YthdjeikfbbdehaaDoor.Fs
open Go.RowKit Go.Proofs.YthdjeikfbbdehaaDoor Go.Proofs.YthdjeikfbbdehaaDoor.Plain Go.Proofs.YthdjeikfbbdehaaDoorW.PrintWords Go.Maps
set_option linter.unusedVariables false
set_option linter.unusedSimpArgs false
set_option maxHeartbeats 1000000 in
set_option maxRecDepth 100000 in
/-- two mails that read alike are the same -/
theorem sameIs {W : World} {v v' : Value} (m : MailD) (h : MailAt W v m) (h' : MailAt W v' m) (hn : m.rcpts.length ≤ 1000000) (hb : m.body.length ≤ 1000000) :
    Calls Tryd.prog 19 #[v, v'] W fun e W' => e = .returned (.bool true) ∧ Below W.heap.size W W' := by
  obtain ⟨A, c, Q, q, rfl, hs, hr, hN, hB⟩ := h
  obtain ⟨A', c', Q', q', rfl, hs', hr', hN', hB'⟩ := h'
  have HB0 := Aside0.mk (Below.refl W.heap.size W)
  have HT := Aside0.mk (fun X (hX : Below W.heap.size W X) => textsIs (W := X) (c := c) (c' := c') (hN.below hX) (hN'.below hX) rfl rfl hn hn)
  have HC := Aside0.mk (fun X (hX : Below W.heap.size W X) => convAny (w := X) (c := q) (readsBelow hB hX) rfl)
  have HC' := Aside0.mk (fun X (hX : Below W.heap.size W X) => convAny (w := X) (c := q') (readsBelow hB' hX) rfl)
  clear hN hN' hB hB'
  go_enter Tryd.func19, Tryd.ntmps19
  go_wp2_with (go_at_call 29; refine (HT.out _ (below_alloc (below_alloc HB0.out _) _)).mono ?_; rintro e W3 ⟨rfl, hb⟩; rw [show (m.rcpts == m.rcpts) = true by simp]; have hb3 := chain' (below_alloc (below_alloc HB0.out _) _) hb; have hc1 := HC.out W3 hb3; have hc2 := HC'.out W3 hb3; have HB3 := Aside0.mk hb3; obtain ⟨⟨-, -, -, -, -, hk⟩, ⟨-, -, -, -, -, hk'⟩, -⟩ := bothCells hb (Below.refl _ _); clear hb hb3)
  go_ret
  exact ⟨rfl, HB3.out⟩
end Go.Proofs.YthdjeikfbbdehaaDoor.Fs
