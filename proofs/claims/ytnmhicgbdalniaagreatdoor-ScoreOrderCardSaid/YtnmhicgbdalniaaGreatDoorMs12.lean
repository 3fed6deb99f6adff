import Derived.Test.YtnmhicgbdalniaaGreatDoorMs11
import Derived.Deep.RegionHeld3
import Derived.Deep.DeepCutAuto
import Derived.Deep.CutBlock
import Derived.RegionDies
namespace Go.Proofs.YtnmhicgbdalniaaGreatDoor
open Go.RowKit

def inDom (s : St) (node key dom : ByteArray) : Bool := (domV s node key).2 && decide ((domV s node key).1 = dom)
/-- It tells, or breaks off. -/
def StopUnless (c : Bool) (n : Int) (w : World) (e : Ending) (w' : World) : Prop :=
  Below w.heap.size w w' ∧ ((c = true ∧ e = .returned (.tuple #[])) ∨ (c = false ∧ e = .panicked [{ v := stopV n, recovered := false }]))
set_option maxHeartbeats 2000000 in
set_option maxRecDepth 100000 in
theorem count1_calls (b3 b9 b4 b5 : Nat) (s : St) (node key dom : ByteArray) (cs : List Value) (w : World) (h3 : w.heap[b3]? = some (.cells cs.toArray 26 (0, 0))) (hk : Kd.state.K (vw w []) s cs)
    (h9 : w.cell? ⟨b9, 9, none⟩ = some (.string node)) (h4 : w.cell? ⟨b4, 7, none⟩ = some (.string key)) (h5 : w.cell? ⟨b5, 0, none⟩ = some (.string dom)) :
    Calls Tryz.prog 256 #[.pointer (some ⟨b3, 0, none⟩), .pointer (some ⟨b9, 0, none⟩), .pointer (some ⟨b4, 0, none⟩), .pointer (some ⟨b5, 0, none⟩)] w (StopUnless (inDom s node key dom) 10 w) := by
  have hv : Kd.state.V (vw w []) (.agg cs.toArray) s := ⟨cs, rfl, hk⟩
  obtain ⟨A1, c1, A2, c2, A3, c3, rfl, -⟩ := hk
  obtain ⟨z, zf⟩ := blk_all h3
  have HV : Hid (Kd.state.V (vw w.drew []) (.agg #[.slice A1 s.nodes.length c1, .slice A2 s.pods.length c2, .slice A3 s.budgets.length c3]) s) := hv
  have l5 := World.block_lt_of_cell? w _ h5
  have l3 := blk_lt h3
  have q0 : w.cell? ⟨b3, 0, none⟩ = some (.slice A1 s.nodes.length c1) := z 0
  have q1 : w.cell? ⟨b3, 1, none⟩ = some (.slice A2 s.pods.length c2) := z 1
  have q2 : w.cell? ⟨b3, 2, none⟩ = some (.slice A3 s.budgets.length c3) := z 2
  clear hv h3 z
  obtain ⟨d, ok, hd⟩ : ∃ d ok, domV s node key = (d, ok) := ⟨_, _, rfl⟩
  have HD := Lib.hid hd
  have hin : inDom s node key dom = (ok && decide (d = dom)) := by unfold inDom; rw [hd]
  rw [hin]
  clear hin hd
  cases ok with
  | false =>
    go_enter Tryz.func256, Tryz.ntmps256
    go_wp2
    go_region_dies
    all_goals
      refine (domain_calls _ s node key _ (by exact HV.out)).mono ?_
      unfold DomDone
      rw [HD.out]
      rintro e w1 ⟨hb, ⟨h, -⟩ | ⟨-, rfl⟩⟩
      · cases h
      · exact ⟨rfl, Below.then (drewN_below _ 1) hb, .inr ⟨rfl, rfl⟩⟩
  | true =>
    have hbd : (!d.toList == dom.toList) = !decide (d = dom) := by
      by_cases h : d = dom
      · rw [str_beq h, decide_eq_true h]
      · rw [str_nbeq h, decide_eq_false h]
    simp only [Bool.true_and]
    generalize decide (d = dom) = c at hbd ⊢
    go_enter Tryz.func256, Tryz.ntmps256
    go_wp2
    have h5' : w.drew.cell? ⟨b5, 0, none⟩ = some (.string dom) := h5
    go_region_held3 (fun w' => w'.cell? ⟨b3, 0, none⟩ = some (.slice A1 s.nodes.length c1) ∧ w'.cell? ⟨b3, 1, none⟩ = some (.slice A2 s.pods.length c2) ∧ w'.cell? ⟨b3, 2, none⟩ = some (.slice A3 s.budgets.length c3) ∧ w'.cell? ⟨b5, 0, none⟩ = some (.string dom) ∧ w'.cell? ⟨b9, 9, none⟩ = some (.string node) ∧ w'.cell? ⟨b4, 7, none⟩ = some (.string key)) (first | go_keep | exact ⟨g0, g1, g2, g5, g9, g4⟩ | exact ⟨q0, q1, q2, h5, h9, h4⟩)
      (first | (go_at_call 177; refine (domain_calls _ s node key _ (by exact HV.out)).mono ?_; unfold DomDone; rw [HD.out]; rintro e w1 ⟨hb, h⟩; obtain ⟨-, rfl⟩ := h.resolve_right (by rintro ⟨h, -⟩; cases h); have g0 := (hb.cell (p := ⟨b3, 0, none⟩) l3).trans q0; have g1 := (hb.cell (p := ⟨b3, 1, none⟩) l3).trans q1; have g2 := (hb.cell (p := ⟨b3, 2, none⟩) l3).trans q2; have g5 := (hb.cell (p := ⟨b5, 0, none⟩) l5).trans h5; have g9 := (hb.cell (p := ⟨b9, 9, none⟩) (World.block_lt_of_cell? w _ h9)).trans h9; have g4 := (hb.cell (p := ⟨b4, 7, none⟩) (World.block_lt_of_cell? w _ h4)).trans h4; have HB1 : Hid (Below w.heap.size w w1) := Below.then (drewN_below _ 1) hb; clear hb h))
    cases c with
    | true =>
      go_wp2
      go_end0
      exact ⟨HB1.out, .inl ⟨rfl, rfl⟩⟩
    | false =>
      go_wp2_with (go_at_call 151; refine (stop_bad _ _ (by omega)).mono ?_; rintro e w' ⟨rfl, rfl⟩)
      exact ⟨rfl, HB1.out, .inr ⟨rfl, rfl⟩⟩
end Go.Proofs.YtnmhicgbdalniaaGreatDoor
