import Derived.Test.YtfbmfjmnpfidoaaSkewR
import Derived.Deep.RegionHeld3
import Derived.Deep.DeepCutAuto
import Derived.Deep.CutBlock
import Derived.RegionDies
namespace Go.Proofs.Ytfbmfjmnpfidoaa
open Go.RowKit Go.Sort

/-- The closure tells by a variable that is not its own, or breaks off. -/
def SkewTold (s : St) (p : Pd) (name : ByteArray) (b : Nat) (w : World) (e : Ending) (w' : World) : Prop :=
  ((domV s name p.key).2 = true ∧ e = .returned (.tuple #[]) ∧ ∃ w1, Below w.heap.size w w1 ∧ w' = w1.setCell ⟨b, 0, none⟩ (.int .i64 ((hereV s p (domV s name p.key).1 : Int) - leastV s p (domV s name p.key).1 (hereV s p (domV s name p.key).1) (domsV s.nodes p.key))))
  ∨ ((domV s name p.key).2 = false ∧ e = .panicked [{ v := stopV 10, recovered := false }] ∧ Below w.heap.size w w')
set_option maxHeartbeats 4000000 in
set_option maxRecDepth 100000 in
theorem skew1_stops (b0 b1 b2 b3 : Nat) (s : St) (p : Pd) (name : ByteArray) (cs cp : List Value) (w : World) (h0 : w.heap[b0]? = some (.cells cs.toArray 26 (0, 0))) (hks : Kd.state.K (vw w []) s cs)
    (h1 : w.cell? ⟨b1, 0, none⟩ = some (.string name)) (h2 : w.cell? ⟨b2, 7, none⟩ = some (.string p.key)) (hd : (domV s name p.key).2 = false) :
    Calls Try.prog 47 #[.pointer (some ⟨b0, 0, none⟩), .pointer (some ⟨b1, 0, none⟩), .pointer (some ⟨b2, 0, none⟩), .pointer (some ⟨b3, 0, none⟩)] w (SkewTold s p name b3 w) := by
  have hv : Kd.state.V (vw w []) (.agg cs.toArray) s := ⟨cs, rfl, hks⟩
  obtain ⟨A1, c1, A2, c2, A3, c3, rfl, -⟩ := hks
  obtain ⟨z, zf⟩ := blk_all h0
  have HV : Hid (Kd.state.V (vw w []) (.agg #[.slice A1 s.nodes.length c1, .slice A2 s.pods.length c2, .slice A3 s.budgets.length c3]) s) := hv
  have q0 : w.cell? ⟨b0, 0, none⟩ = some (.slice A1 s.nodes.length c1) := z 0
  have q1 : w.cell? ⟨b0, 1, none⟩ = some (.slice A2 s.pods.length c2) := z 1
  have q2 : w.cell? ⟨b0, 2, none⟩ = some (.slice A3 s.budgets.length c3) := z 2
  clear hv h0 z
  have HD := Lib.hid hd
  clear hd
  go_enter Try.func47, Try.ntmps47
  go_wp2_with fail
  refine (domain_calls _ s name p.key _ (by exact HV.out)).mono ?_
  rintro e w1 ⟨hb, ⟨h, -⟩ | ⟨-, rfl⟩⟩
  · rw [HD.out] at h; cases h
  · exact ⟨rfl, .inr ⟨HD.out, rfl, hb⟩⟩
end Go.Proofs.Ytfbmfjmnpfidoaa
