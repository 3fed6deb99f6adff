import Derived.Test.YtfbmfjmnpfidoaaProg
import Derived.Test.YtfbmfjmnpfidoaaKinds
namespace Go.Proofs.Ytfbmfjmnpfidoaa
open Go.RowKit

/-! The program's data, out of what an argument's cells read as. -/
theorem o_str : Kd.str.Opens Try.prog 9 := Kd.opens_str (by kernel_rfl) Try.underlying9
theorem o_bool : Kd.bool.Opens Try.prog 4 := Kd.opens_bool (by kernel_rfl) Try.underlying4
theorem o_int : (Kd.int .i64).Opens Try.prog 3 := Kd.opens_int (by kernel_rfl) Try.underlying3
theorem o_int64 : (Kd.int .i64).Opens Try.prog 2 := Kd.opens_int (by kernel_rfl) Try.underlying2
theorem opens_amt : Kd.amt.Opens Try.prog 114 :=
  (Kd.opens_struct (d := Kd.cons Kd.str (Kd.cons (Kd.int .i64) Kd.unit)) (by kernel_rfl) Try.underlying114 (Kd.opensFs_cons rfl o_str (Kd.opensFs_cons rfl o_int64 Kd.opensFs_nil))).conv rfl (by
    rintro k ⟨a, b, _⟩ cs ⟨c1, r1, rfl, ⟨rfl, h1⟩, c2, r2, rfl, ⟨rfl, h2⟩, rfl⟩
    exact ⟨⟨a, b⟩, rfl, h1, wf_i64 h2⟩)
theorem opens_pair : Kd.pair.Opens Try.prog 109 :=
  (Kd.opens_struct (d := Kd.cons Kd.str (Kd.cons Kd.str Kd.unit)) (by kernel_rfl) Try.underlying109 (Kd.opensFs_cons rfl o_str (Kd.opensFs_cons rfl o_str Kd.opensFs_nil))).conv rfl (by
    rintro k ⟨a, b, _⟩ cs ⟨c1, r1, rfl, ⟨rfl, h1⟩, c2, r2, rfl, ⟨rfl, h2⟩, rfl⟩
    exact ⟨⟨a, b⟩, rfl, h1, h2⟩)
theorem opens_term : Kd.term.Opens Try.prog 125 :=
  (Kd.opens_struct (d := Kd.cons (Kd.int .i64) (Kd.cons Kd.str (Kd.cons Kd.str Kd.unit))) (by kernel_rfl) Try.underlying125 (Kd.opensFs_cons rfl o_int (Kd.opensFs_cons rfl o_str (Kd.opensFs_cons rfl o_str Kd.opensFs_nil)))).conv rfl (by
    rintro k ⟨a, b, c, _⟩ cs ⟨c1, r1, rfl, ⟨rfl, h1⟩, c2, r2, rfl, ⟨rfl, h2⟩, c3, r3, rfl, ⟨rfl, h3⟩, rfl⟩
    exact ⟨⟨a, b, c⟩, rfl, wf_i64 h1, h2, h3⟩)
theorem opens_taint : Kd.tnt.Opens Try.prog 164 :=
  (Kd.opens_struct (d := Kd.cons Kd.str (Kd.cons Kd.str (Kd.cons Kd.bool Kd.unit))) (by kernel_rfl) Try.underlying164 (Kd.opensFs_cons rfl o_str (Kd.opensFs_cons rfl o_str (Kd.opensFs_cons rfl o_bool Kd.opensFs_nil)))).conv rfl (by
    rintro k ⟨a, b, c, _⟩ cs ⟨c1, r1, rfl, ⟨rfl, h1⟩, c2, r2, rfl, ⟨rfl, h2⟩, c3, r3, rfl, ⟨rfl, h3⟩, rfl⟩
    exact ⟨⟨a, b, c⟩, rfl, h1, h2⟩)
theorem opens_tol : Kd.tnt.Opens Try.prog 127 :=
  (Kd.opens_struct (d := Kd.cons Kd.str (Kd.cons Kd.str (Kd.cons Kd.bool Kd.unit))) (by kernel_rfl) Try.underlying127 (Kd.opensFs_cons rfl o_str (Kd.opensFs_cons rfl o_str (Kd.opensFs_cons rfl o_bool Kd.opensFs_nil)))).conv rfl (by
    rintro k ⟨a, b, c, _⟩ cs ⟨c1, r1, rfl, ⟨rfl, h1⟩, c2, r2, rfl, ⟨rfl, h2⟩, c3, r3, rfl, ⟨rfl, h3⟩, rfl⟩
    exact ⟨⟨a, b, c⟩, rfl, h1, h2⟩)
theorem opens_vec : (Kd.slice Kd.amt).Opens Try.prog 28 := Kd.opens_slice (by kernel_rfl) Try.underlying28 (by decide) (of_decide_eq_true (by kernel_rfl)) opens_amt
theorem opens_set : (Kd.slice Kd.pair).Opens Try.prog 30 := Kd.opens_slice (by kernel_rfl) Try.underlying30 (by decide) (of_decide_eq_true (by kernel_rfl)) opens_pair
theorem opens_sel : (Kd.slice Kd.term).Opens Try.prog 32 := Kd.opens_slice (by kernel_rfl) Try.underlying32 (by decide) (of_decide_eq_true (by kernel_rfl)) opens_term
theorem opens_taints : (Kd.slice Kd.tnt).Opens Try.prog 66 := Kd.opens_slice (by kernel_rfl) Try.underlying66 (by decide) (of_decide_eq_true (by kernel_rfl)) opens_taint
theorem opens_tols : (Kd.slice Kd.tnt).Opens Try.prog 33 := Kd.opens_slice (by kernel_rfl) Try.underlying33 (by decide) (of_decide_eq_true (by kernel_rfl)) opens_tol
theorem opens_node : Kd.node.Opens Try.prog 68 :=
  (Kd.opens_struct (d := Kd.cons Kd.str (Kd.cons (Kd.slice Kd.amt) (Kd.cons (Kd.slice Kd.pair) (Kd.cons (Kd.slice Kd.tnt) (Kd.cons Kd.bool Kd.unit))))) (by kernel_rfl) Try.underlying68
    (Kd.opensFs_cons rfl o_str (Kd.opensFs_cons rfl opens_vec (Kd.opensFs_cons rfl opens_set (Kd.opensFs_cons rfl opens_taints (Kd.opensFs_cons rfl o_bool Kd.opensFs_nil)))))).conv rfl (by
    rintro k ⟨a, b, c, d, e, _⟩ cs ⟨c1, r1, rfl, ⟨rfl, h1⟩, c2, r2, rfl, ⟨v2, rfl, h2⟩, c3, r3, rfl, ⟨v3, rfl, h3⟩, c4, r4, rfl, ⟨v4, rfl, h4⟩, c5, r5, rfl, ⟨rfl, -⟩, rfl⟩
    obtain ⟨A2, d2, rfl, h2⟩ := h2.val
    obtain ⟨A3, d3, rfl, h3⟩ := h3.val
    obtain ⟨A4, d4, rfl, h4⟩ := h4.val
    exact ⟨⟨a, b, c, d, e⟩, A2, d2, A3, d3, A4, d4, rfl, h1, h2, h3, h4⟩)
theorem opens_pod : Kd.pod.Opens Try.prog 35 :=
  (Kd.opens_struct (d := Kd.cons Kd.str (Kd.cons Kd.str (Kd.cons (Kd.int .i64) (Kd.cons (Kd.slice Kd.amt) (Kd.cons (Kd.slice Kd.pair) (Kd.cons (Kd.slice Kd.term) (Kd.cons (Kd.slice Kd.tnt) (Kd.cons Kd.str (Kd.cons (Kd.int .i64) (Kd.cons Kd.str (Kd.cons Kd.bool Kd.unit))))))))))) (by kernel_rfl) Try.underlying35
    (Kd.opensFs_cons rfl o_str (Kd.opensFs_cons rfl o_str (Kd.opensFs_cons rfl o_int (Kd.opensFs_cons rfl opens_vec (Kd.opensFs_cons rfl opens_set (Kd.opensFs_cons rfl opens_sel (Kd.opensFs_cons rfl opens_tols (Kd.opensFs_cons rfl o_str (Kd.opensFs_cons rfl o_int (Kd.opensFs_cons rfl o_str (Kd.opensFs_cons rfl o_bool Kd.opensFs_nil)))))))))))).conv rfl (by
    rintro k ⟨a1, a2, a3, a4, a5, a6, a7, a8, a9, a10, a11, _⟩ cs ⟨c1, r1, rfl, ⟨rfl, h1⟩, c2, r2, rfl, ⟨rfl, h2⟩, c3, r3, rfl, ⟨rfl, h3⟩, c4, r4, rfl, ⟨v4, rfl, h4⟩, c5, r5, rfl, ⟨v5, rfl, h5⟩, c6, r6, rfl, ⟨v6, rfl, h6⟩, c7, r7, rfl, ⟨v7, rfl, h7⟩, c8, r8, rfl, ⟨rfl, h8⟩, c9, r9, rfl, ⟨rfl, h9⟩, c10, r10, rfl, ⟨rfl, h10⟩, c11, r11, rfl, ⟨rfl, -⟩, rfl⟩
    obtain ⟨A4, d4, rfl, h4⟩ := h4.val
    obtain ⟨A5, d5, rfl, h5⟩ := h5.val
    obtain ⟨A6, d6, rfl, h6⟩ := h6.val
    obtain ⟨A7, d7, rfl, h7⟩ := h7.val
    exact ⟨⟨a1, a2, a3, a4, a5, a6, a7, a8, a9, a10, a11⟩, A4, d4, A5, d5, A6, d6, A7, d7, rfl, ⟨⟨h1, h2, wf_i64 h3⟩, h8, wf_i64 h9, h10⟩, h4, h5, h6, h7⟩)
theorem opens_budget : Kd.budget.Opens Try.prog 136 :=
  (Kd.opens_struct (d := Kd.cons Kd.str (Kd.cons (Kd.slice Kd.term) (Kd.cons (Kd.int .i64) Kd.unit))) (by kernel_rfl) Try.underlying136
    (Kd.opensFs_cons rfl o_str (Kd.opensFs_cons rfl opens_sel (Kd.opensFs_cons rfl o_int Kd.opensFs_nil)))).conv rfl (by
    rintro k ⟨a, b, c, _⟩ cs ⟨c1, r1, rfl, ⟨rfl, h1⟩, c2, r2, rfl, ⟨v2, rfl, h2⟩, c3, r3, rfl, ⟨rfl, h3⟩, rfl⟩
    obtain ⟨A2, d2, rfl, h2⟩ := h2.val
    exact ⟨⟨a, b, c⟩, A2, d2, rfl, ⟨h1, wf_i64 h3⟩, h2⟩)
theorem opens_nodes : (Kd.slice Kd.node).Opens Try.prog 22 := Kd.opens_slice (by kernel_rfl) Try.underlying22 (by decide) (of_decide_eq_true (by kernel_rfl)) opens_node
theorem opens_pods : (Kd.slice Kd.pod).Opens Try.prog 23 := Kd.opens_slice (by kernel_rfl) Try.underlying23 (by decide) (of_decide_eq_true (by kernel_rfl)) opens_pod
theorem opens_budgets : (Kd.slice Kd.budget).Opens Try.prog 24 := Kd.opens_slice (by kernel_rfl) Try.underlying24 (by decide) (of_decide_eq_true (by kernel_rfl)) opens_budget
theorem opens_state : Kd.state.Opens Try.prog 26 :=
  (Kd.opens_struct (d := Kd.cons (Kd.slice Kd.node) (Kd.cons (Kd.slice Kd.pod) (Kd.cons (Kd.slice Kd.budget) Kd.unit))) (by kernel_rfl) Try.underlying26
    (Kd.opensFs_cons rfl opens_nodes (Kd.opensFs_cons rfl opens_pods (Kd.opensFs_cons rfl opens_budgets Kd.opensFs_nil)))).conv rfl (by
    rintro k ⟨a, b, c, _⟩ cs ⟨c1, r1, rfl, ⟨v1, rfl, h1⟩, c2, r2, rfl, ⟨v2, rfl, h2⟩, c3, r3, rfl, ⟨v3, rfl, h3⟩, rfl⟩
    obtain ⟨A1, d1, rfl, h1⟩ := h1.val
    obtain ⟨A2, d2, rfl, h2⟩ := h2.val
    obtain ⟨A3, d3, rfl, h3⟩ := h3.val
    exact ⟨⟨a, b, c⟩, A1, d1, A2, d2, A3, d3, rfl, h1, h2, h3⟩)
theorem Kd.open_agg_arg {α : Type} {P : Program} {d : Kd α} {t : TypeId} (ho : d.Opens P t) {cs : Array Value} {H : Type} {enc : TypeId × Value → H} {w : World} {base : Nat} {sp : Nat → Bool} {held : Bool} {fuel : Nat} {x : DataW H × List MemPlace}
    (h : DataW.trod enc P w base sp held fuel t (Value.agg cs).cells.toList = some x) (hw : ∀ n ∈ x.1.weights P t, n ≤ reachBytes) : ∃ a, d.V (vw w []) (.agg cs) a := by
  obtain ⟨a, ha⟩ := ho.2 h hw
  exact ⟨a, cs.toList, by simp, ha⟩
end Go.Proofs.Ytfbmfjmnpfidoaa
