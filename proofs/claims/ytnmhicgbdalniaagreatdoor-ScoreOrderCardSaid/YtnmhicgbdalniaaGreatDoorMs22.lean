import Derived.Test.YtnmhicgbdalniaaGreatDoorProg
import Derived.Test.YtnmhicgbdalniaaGreatDoorMs2
import Derived.Test.YtnmhicgbdalniaaGreatDoorMs4
import Derived.Test.YtnmhicgbdalniaaGreatDoorMs20
import Derived.Test.YtnmhicgbdalniaaGreatDoorMs21
import Derived.Deep.DeepMust
import Derived.Shelf.SlicesQ.IndexFunc
import Derived.Shelf.SlSortCmp.NoneTotal
import Derived.WalkSmall
import Derived.Deep.RegionHeld3
import Derived.Deep.DeepCutAuto
namespace Go.Proofs.YtnmhicgbdalniaaGreatDoor
open Go.RowKit

/-! The program's data, out of what an argument's cells read as. -/
theorem o_str : Kd.str.Opens Tryz.prog 9 := Kd.opens_str (by kernel_rfl) Tryz.underlying9
theorem o_bool : Kd.bool.Opens Tryz.prog 4 := Kd.opens_bool (by kernel_rfl) Tryz.underlying4
theorem o_int : (Kd.int .i64).Opens Tryz.prog 3 := Kd.opens_int (by kernel_rfl) Tryz.underlying3
theorem o_int64 : (Kd.int .i64).Opens Tryz.prog 2 := Kd.opens_int (by kernel_rfl) Tryz.underlying2
theorem opens_amt : Kd.amt.Opens Tryz.prog 187 :=
  (Kd.opens_struct (d := Kd.cons Kd.str (Kd.cons (Kd.int .i64) Kd.unit)) (by kernel_rfl) Tryz.underlying187 (Kd.opensFs_cons rfl o_str (Kd.opensFs_cons rfl o_int64 Kd.opensFs_nil))).conv rfl (by
    rintro k ⟨a, b, _⟩ cs ⟨c1, r1, rfl, ⟨rfl, h1⟩, c2, r2, rfl, ⟨rfl, h2⟩, rfl⟩
    exact ⟨⟨a, b⟩, rfl, h1, wf_i64 h2⟩)
theorem opens_pair : Kd.pair.Opens Tryz.prog 232 :=
  (Kd.opens_struct (d := Kd.cons Kd.str (Kd.cons Kd.str Kd.unit)) (by kernel_rfl) Tryz.underlying232 (Kd.opensFs_cons rfl o_str (Kd.opensFs_cons rfl o_str Kd.opensFs_nil))).conv rfl (by
    rintro k ⟨a, b, _⟩ cs ⟨c1, r1, rfl, ⟨rfl, h1⟩, c2, r2, rfl, ⟨rfl, h2⟩, rfl⟩
    exact ⟨⟨a, b⟩, rfl, h1, h2⟩)
theorem opens_term : Kd.term.Opens Tryz.prog 234 :=
  (Kd.opens_struct (d := Kd.cons (Kd.int .i64) (Kd.cons Kd.str (Kd.cons Kd.str Kd.unit))) (by kernel_rfl) Tryz.underlying234 (Kd.opensFs_cons rfl o_int (Kd.opensFs_cons rfl o_str (Kd.opensFs_cons rfl o_str Kd.opensFs_nil)))).conv rfl (by
    rintro k ⟨a, b, c, _⟩ cs ⟨c1, r1, rfl, ⟨rfl, h1⟩, c2, r2, rfl, ⟨rfl, h2⟩, c3, r3, rfl, ⟨rfl, h3⟩, rfl⟩
    exact ⟨⟨a, b, c⟩, rfl, wf_i64 h1, h2, h3⟩)
theorem opens_taint : Kd.tnt.Opens Tryz.prog 163 :=
  (Kd.opens_struct (d := Kd.cons Kd.str (Kd.cons Kd.str (Kd.cons Kd.bool Kd.unit))) (by kernel_rfl) Tryz.underlying163 (Kd.opensFs_cons rfl o_str (Kd.opensFs_cons rfl o_str (Kd.opensFs_cons rfl o_bool Kd.opensFs_nil)))).conv rfl (by
    rintro k ⟨a, b, c, _⟩ cs ⟨c1, r1, rfl, ⟨rfl, h1⟩, c2, r2, rfl, ⟨rfl, h2⟩, c3, r3, rfl, ⟨rfl, h3⟩, rfl⟩
    exact ⟨⟨a, b, c⟩, rfl, h1, h2⟩)
theorem opens_tol : Kd.tnt.Opens Tryz.prog 236 :=
  (Kd.opens_struct (d := Kd.cons Kd.str (Kd.cons Kd.str (Kd.cons Kd.bool Kd.unit))) (by kernel_rfl) Tryz.underlying236 (Kd.opensFs_cons rfl o_str (Kd.opensFs_cons rfl o_str (Kd.opensFs_cons rfl o_bool Kd.opensFs_nil)))).conv rfl (by
    rintro k ⟨a, b, c, _⟩ cs ⟨c1, r1, rfl, ⟨rfl, h1⟩, c2, r2, rfl, ⟨rfl, h2⟩, c3, r3, rfl, ⟨rfl, h3⟩, rfl⟩
    exact ⟨⟨a, b, c⟩, rfl, h1, h2⟩)
theorem opens_vec : (Kd.slice Kd.amt).Opens Tryz.prog 28 := Kd.opens_slice (by kernel_rfl) Tryz.underlying28 (by decide) (of_decide_eq_true (by kernel_rfl)) opens_amt
theorem opens_set : (Kd.slice Kd.pair).Opens Tryz.prog 30 := Kd.opens_slice (by kernel_rfl) Tryz.underlying30 (by decide) (of_decide_eq_true (by kernel_rfl)) opens_pair
theorem opens_sel : (Kd.slice Kd.term).Opens Tryz.prog 32 := Kd.opens_slice (by kernel_rfl) Tryz.underlying32 (by decide) (of_decide_eq_true (by kernel_rfl)) opens_term
theorem opens_taints : (Kd.slice Kd.tnt).Opens Tryz.prog 92 := Kd.opens_slice (by kernel_rfl) Tryz.underlying92 (by decide) (of_decide_eq_true (by kernel_rfl)) opens_taint
theorem opens_tols : (Kd.slice Kd.tnt).Opens Tryz.prog 33 := Kd.opens_slice (by kernel_rfl) Tryz.underlying33 (by decide) (of_decide_eq_true (by kernel_rfl)) opens_tol
theorem opens_node : Kd.node.Opens Tryz.prog 94 :=
  (Kd.opens_struct (d := Kd.cons Kd.str (Kd.cons (Kd.slice Kd.amt) (Kd.cons (Kd.slice Kd.pair) (Kd.cons (Kd.slice Kd.tnt) (Kd.cons Kd.bool Kd.unit))))) (by kernel_rfl) Tryz.underlying94
    (Kd.opensFs_cons rfl o_str (Kd.opensFs_cons rfl opens_vec (Kd.opensFs_cons rfl opens_set (Kd.opensFs_cons rfl opens_taints (Kd.opensFs_cons rfl o_bool Kd.opensFs_nil)))))).conv rfl (by
    rintro k ⟨a, b, c, d, e, _⟩ cs ⟨c1, r1, rfl, ⟨rfl, h1⟩, c2, r2, rfl, ⟨v2, rfl, h2⟩, c3, r3, rfl, ⟨v3, rfl, h3⟩, c4, r4, rfl, ⟨v4, rfl, h4⟩, c5, r5, rfl, ⟨rfl, -⟩, rfl⟩
    obtain ⟨A2, d2, rfl, h2⟩ := h2.val
    obtain ⟨A3, d3, rfl, h3⟩ := h3.val
    obtain ⟨A4, d4, rfl, h4⟩ := h4.val
    exact ⟨⟨a, b, c, d, e⟩, A2, d2, A3, d3, A4, d4, rfl, h1, h2, h3, h4⟩)
theorem opens_pod : Kd.pod.Opens Tryz.prog 35 :=
  (Kd.opens_struct (d := Kd.cons Kd.str (Kd.cons Kd.str (Kd.cons (Kd.int .i64) (Kd.cons (Kd.slice Kd.amt) (Kd.cons (Kd.slice Kd.pair) (Kd.cons (Kd.slice Kd.term) (Kd.cons (Kd.slice Kd.tnt) (Kd.cons Kd.str (Kd.cons (Kd.int .i64) (Kd.cons Kd.str (Kd.cons Kd.bool Kd.unit))))))))))) (by kernel_rfl) Tryz.underlying35
    (Kd.opensFs_cons rfl o_str (Kd.opensFs_cons rfl o_str (Kd.opensFs_cons rfl o_int (Kd.opensFs_cons rfl opens_vec (Kd.opensFs_cons rfl opens_set (Kd.opensFs_cons rfl opens_sel (Kd.opensFs_cons rfl opens_tols (Kd.opensFs_cons rfl o_str (Kd.opensFs_cons rfl o_int (Kd.opensFs_cons rfl o_str (Kd.opensFs_cons rfl o_bool Kd.opensFs_nil)))))))))))).conv rfl (by
    rintro k ⟨a1, a2, a3, a4, a5, a6, a7, a8, a9, a10, a11, _⟩ cs ⟨c1, r1, rfl, ⟨rfl, h1⟩, c2, r2, rfl, ⟨rfl, h2⟩, c3, r3, rfl, ⟨rfl, h3⟩, c4, r4, rfl, ⟨v4, rfl, h4⟩, c5, r5, rfl, ⟨v5, rfl, h5⟩, c6, r6, rfl, ⟨v6, rfl, h6⟩, c7, r7, rfl, ⟨v7, rfl, h7⟩, c8, r8, rfl, ⟨rfl, h8⟩, c9, r9, rfl, ⟨rfl, h9⟩, c10, r10, rfl, ⟨rfl, h10⟩, c11, r11, rfl, ⟨rfl, -⟩, rfl⟩
    obtain ⟨A4, d4, rfl, h4⟩ := h4.val
    obtain ⟨A5, d5, rfl, h5⟩ := h5.val
    obtain ⟨A6, d6, rfl, h6⟩ := h6.val
    obtain ⟨A7, d7, rfl, h7⟩ := h7.val
    exact ⟨⟨a1, a2, a3, a4, a5, a6, a7, a8, a9, a10, a11⟩, A4, d4, A5, d5, A6, d6, A7, d7, rfl, ⟨⟨h1, h2, wf_i64 h3⟩, h8, wf_i64 h9, h10⟩, h4, h5, h6, h7⟩)
theorem opens_budget : Kd.budget.Opens Tryz.prog 245 :=
  (Kd.opens_struct (d := Kd.cons Kd.str (Kd.cons (Kd.slice Kd.term) (Kd.cons (Kd.int .i64) Kd.unit))) (by kernel_rfl) Tryz.underlying245
    (Kd.opensFs_cons rfl o_str (Kd.opensFs_cons rfl opens_sel (Kd.opensFs_cons rfl o_int Kd.opensFs_nil)))).conv rfl (by
    rintro k ⟨a, b, c, _⟩ cs ⟨c1, r1, rfl, ⟨rfl, h1⟩, c2, r2, rfl, ⟨v2, rfl, h2⟩, c3, r3, rfl, ⟨rfl, h3⟩, rfl⟩
    obtain ⟨A2, d2, rfl, h2⟩ := h2.val
    exact ⟨⟨a, b, c⟩, A2, d2, rfl, ⟨h1, wf_i64 h3⟩, h2⟩)
theorem opens_nodes : (Kd.slice Kd.node).Opens Tryz.prog 22 := Kd.opens_slice (by kernel_rfl) Tryz.underlying22 (by decide) (of_decide_eq_true (by kernel_rfl)) opens_node
theorem opens_pods : (Kd.slice Kd.pod).Opens Tryz.prog 23 := Kd.opens_slice (by kernel_rfl) Tryz.underlying23 (by decide) (of_decide_eq_true (by kernel_rfl)) opens_pod
theorem opens_budgets : (Kd.slice Kd.budget).Opens Tryz.prog 24 := Kd.opens_slice (by kernel_rfl) Tryz.underlying24 (by decide) (of_decide_eq_true (by kernel_rfl)) opens_budget
theorem opens_state : Kd.state.Opens Tryz.prog 26 :=
  (Kd.opens_struct (d := Kd.cons (Kd.slice Kd.node) (Kd.cons (Kd.slice Kd.pod) (Kd.cons (Kd.slice Kd.budget) Kd.unit))) (by kernel_rfl) Tryz.underlying26
    (Kd.opensFs_cons rfl opens_nodes (Kd.opensFs_cons rfl opens_pods (Kd.opensFs_cons rfl opens_budgets Kd.opensFs_nil)))).conv rfl (by
    rintro k ⟨a, b, c, _⟩ cs ⟨c1, r1, rfl, ⟨v1, rfl, h1⟩, c2, r2, rfl, ⟨v2, rfl, h2⟩, c3, r3, rfl, ⟨v3, rfl, h3⟩, rfl⟩
    obtain ⟨A1, d1, rfl, h1⟩ := h1.val
    obtain ⟨A2, d2, rfl, h2⟩ := h2.val
    obtain ⟨A3, d3, rfl, h3⟩ := h3.val
    exact ⟨⟨a, b, c⟩, A1, d1, A2, d2, A3, d3, rfl, h1, h2, h3⟩)
theorem Kd.open_agg_arg {α : Type} {P : Program} {d : Kd α} {t : TypeId} (ho : d.Opens P t) {cs : Array Value} {H : Type} {enc : TypeId × Value → H} {w : World} {base : Nat} {sp : Nat → Bool} {held : Bool} {fuel : Nat} {x : DataW H × List MemPlace}
    (h : DataW.trod enc P w base sp held fuel t (Value.agg cs).cells.toList = some x) (hw : ∀ n ∈ x.1.weights P t, n ≤ reachBytes) : ∃ a, d.V (vw w []) (.agg cs) a := by
  obtain ⟨a, ha⟩ := ho.2 h hw
  exact ⟨a, cs.toList, by simp, ha⟩
end Go.Proofs.YtnmhicgbdalniaaGreatDoor
namespace Go.Proofs.YtnmhicgbdalniaaGreatDoor
open Go.RowKit

/-! append of one struct onto a row of the call's own; a row beside other memory. -/
namespace Kd
variable {α : Type}
theorem Own.kept {d : Kd α} {w w' : World} {base : Nat} {e : TypeId} {lo : Nat} {v : Value} {xs : List α} (h : d.Own w base e lo v xs) {row : Option Nat} (hg : w.grownBy w' row) (hr : ∀ q, row = some q → q < lo ∧ q < base) : d.Own w' base e lo v xs := by
  obtain ⟨css, h1, h2, h3⟩ := h
  refine ⟨css, h1, fun j x hx => ?_, h3.kept hg ?_⟩
  · obtain ⟨cs, a, b⟩ := h2 j x hx
    refine ⟨cs, a, d.mono (fun k o hk => ?_) b⟩
    obtain ⟨q1, q2, q3⟩ := nx_eq hk
    exact nx_mk (by omega) q2 ((hg.block k (blk_lt q3) (fun e => q1 (hr k e.symm).1)).trans q3)
  · cases hv : v.ownBlock with
    | none => exact .inl rfl
    | some g =>
      refine .inr fun e => ?_
      have := (hr g e.symm).2
      have := (h3.lt g hv).1
      omega
theorem Own.setCell {d : Kd α} {w : World} {base : Nat} {e : TypeId} {lo : Nat} {v : Value} {xs : List α} (h : d.Own w base e lo v xs) {p : Addr} (h1 : p.block < lo) (h2 : p.block < base) (u : Value) : d.Own (w.setCell p u) base e lo v xs := by
  obtain ⟨css, k1, k2, k3⟩ := h
  refine ⟨css, k1, fun j x hx => ?_, ownsRow_setCell_below k3 h2 u⟩
  obtain ⟨cs, a, b⟩ := k2 j x hx
  refine ⟨cs, a, d.mono (fun k o hk => ?_) b⟩
  obtain ⟨q1, q2, q3⟩ := nx_eq hk
  exact nx_mk (by omega) q2 ((Below.heap_setCell w p u k (by omega)).trans q3)
theorem Own.form {d : Kd α} {w : World} {base : Nat} {e : TypeId} {lo : Nat} {v : Value} {xs : List α} (h : d.Own w base e lo v xs) : ∃ A c, v = .slice A xs.length c := by
  obtain ⟨_, hr⟩ := h.row
  rcases hr.2 with ⟨rfl, h0⟩ | ⟨g, cap, cur, rfl, _⟩
  · exact ⟨none, 0, by rw [h0]⟩
  · exact ⟨_, _, rfl⟩
end Kd
section
variable {α : Type} {d : Kd α} {P : Program} (w : World) (base lo : Nat) (t e : TypeId) (i : TypeInfo) (z : Value) (bytes : Nat) (ht : P.underlying t = some (.slice e)) (hi : P.info? e = some i) (hz : i.zero = some z)
  (hsize : i.size = d.sz) (hby : i.bytes = bytes) (hzs : z.cells.size = d.sz) (hsz : 0 < d.sz) (v : Value) (xs : List α) (x : α) (cs : List Value) (hown : d.Own w base e lo v xs) (hk : d.K (nx w lo v.ownBlock) x cs)
  (g c : Nat) (T : TypeId) (hg : w.heap[g]? = some (.cells cs.toArray T (0, 0))) (h1 : ∀ u ∈ cs, u.oneCell' = true) (h63 : xs.length + 1 ≤ maxLen) (hbytes : (xs.length + 1) * bytes ≤ 140737488355328) (hbase : base ≤ w.heap.size)
  {o : Oper} {a : Act} {Q : Exit → Act → World → Prop} (s y : Operand) (ho : o.op = .call { callee := .builtin .append, args := #[s, y], argTypes := #[t, t] }) (hs : a.eval s = v) (hx : a.eval y = .slice (some ⟨g, 0, none⟩) 1 c) (hgd : o.guard = none)
include ht hi hz hsize hby hzs hsz hown hk hg h1 h63 hbytes hbase ho hs hx hgd
theorem wpList_own {ops : Array Oper} {rest : List Oper} (h : ∀ v' w', d.Own w' base e lo v' (xs ++ [x]) → w.grownBy w' v.ownBlock → wpList P ops Q rest (a.put o.dst v') w') : wpList P ops Q (o :: rest) a w := by
  obtain ⟨css, k1, k2, k3⟩ := hown
  exact wpList_app w base t e i z d.sz bytes ht hi hz hsize hby hzs hsz v xs.length css.flatten k3 (some ⟨g, 0, none⟩) 1 c cs (by rw [d.len hk]; omega) (fun e => by cases e) (fun ad had j u hu => by
      cases had
      have := World.news_of_block hg j u
      exact this (by simpa using hu)) h1 h63 hbytes hbase s y ho hs hx hgd fun v' w' ho' hg' hv' => h v' w' (Kd.Own.snoc k1 k2 hk (Below.refl _ _) ho' hg' hv') hg'
end
end Go.Proofs.YtnmhicgbdalniaaGreatDoor
namespace Go.Proofs.YtnmhicgbdalniaaGreatDoor
open Go.RowKit

/-! 'x, y := f(..), g(..)' of structs, the calls in any order, the variables in memory of their own. -/
/-- What there is, whatever has been done of it: c: called, a: the variable made, t: written. -/
def PairJ {α β : Type} (d1 : Kd α) (x : α) (T1 : TypeId) (d2 : Kd β) (y : β) (T2 : TypeId) (w : World) (c1 c2 a1 a2 t1 t2 : Bool) (v1 v2 p1 p2 : Value) (W : World) : Prop :=
  Below w.heap.size w W ∧ ∃ (M : List Nat) (b1 b2 : Nat), (∀ k, k ∈ M → k < W.heap.size) ∧
    (c1 = true → ∃ cs : List Value, v1 = .agg cs.toArray ∧ d1.K (vw W M) x cs) ∧
    (c2 = true → ∃ cs : List Value, v2 = .agg cs.toArray ∧ d2.K (vw W M) y cs) ∧
    (a1 = true → p1 = .pointer (some ⟨b1, 0, none⟩) ∧ w.heap.size ≤ b1 ∧ b1 ∈ M ∧ ∃ old : List Value, old.length = d1.sz ∧ W.heap[b1]? = some (.cells old.toArray T1 (0, 0))) ∧
    (a2 = true → p2 = .pointer (some ⟨b2, 0, none⟩) ∧ w.heap.size ≤ b2 ∧ b2 ∈ M ∧ ∃ old : List Value, old.length = d2.sz ∧ W.heap[b2]? = some (.cells old.toArray T2 (0, 0))) ∧
    (a1 = true → a2 = true → b1 ≠ b2) ∧
    (t1 = true → ∃ cs : List Value, v1 = .agg cs.toArray ∧ W.heap[b1]? = some (.cells cs.toArray T1 (0, 0))) ∧
    (t2 = true → ∃ cs : List Value, v2 = .agg cs.toArray ∧ W.heap[b2]? = some (.cells cs.toArray T2 (0, 0)))
section
variable {α β : Type} {d1 : Kd α} {x : α} {T1 : TypeId} {d2 : Kd β} {y : β} {T2 : TypeId} {w W : World} {c1 c2 a1 a2 t1 t2 : Bool} {v1 v2 p1 p2 : Value}
theorem PairJ.start (h : Below w.heap.size w W) : PairJ d1 x T1 d2 y T2 w false false false false false false v1 v2 p1 p2 W :=
  ⟨h, [], 0, 0, (fun k hk => by simp at hk), (fun e => by cases e), (fun e => by cases e), (fun e => by cases e), (fun e => by cases e), (fun e => by cases e), (fun e => by cases e), (fun e => by cases e)⟩
theorem PairJ.bel (h : PairJ d1 x T1 d2 y T2 w c1 c2 a1 a2 t1 t2 v1 v2 p1 p2 W) : Below w.heap.size w W := h.1
theorem PairJ.call1 (h : PairJ d1 x T1 d2 y T2 w c1 c2 a1 a2 t1 t2 v1 v2 p1 p2 W) (ht : t1 = false) {W' : World} (hb : Below W.heap.size W W') {cs : List Value} (hk : d1.K (nx W' W.heap.size none) x cs) :
    PairJ d1 x T1 d2 y T2 w true c2 a1 a2 t1 t2 (.agg cs.toArray) v2 p1 p2 W' := by
  subst ht
  obtain ⟨h0, M, b1, b2, hM, -, k2, l1, l2, ne, -, s2⟩ := h
  refine ⟨Below.then h0 hb, M, b1, b2, fun k hk => Nat.lt_of_lt_of_le (hM k hk) hb.size, fun _ => ⟨cs, rfl, d1.mono (nx_vw (fun k hk => .inl (hM k hk))) hk⟩, fun e => ?_, fun e => ?_, fun e => ?_, ne, (fun e => by cases e), fun e => ?_⟩
  · obtain ⟨c, e1, e2⟩ := k2 e
    exact ⟨c, e1, d2.mono (vw_below hb) e2⟩
  · obtain ⟨e1, e2, e3, old, e4, e5⟩ := l1 e
    exact ⟨e1, e2, e3, old, e4, (hb.block _ (hM _ e3)).trans e5⟩
  · obtain ⟨e1, e2, e3, old, e4, e5⟩ := l2 e
    exact ⟨e1, e2, e3, old, e4, (hb.block _ (hM _ e3)).trans e5⟩
  · obtain ⟨c, e1, e2⟩ := s2 e
    exact ⟨c, e1, (hb.block _ (blk_lt e2)).trans e2⟩
theorem PairJ.swap (h : PairJ d1 x T1 d2 y T2 w c1 c2 a1 a2 t1 t2 v1 v2 p1 p2 W) : PairJ d2 y T2 d1 x T1 w c2 c1 a2 a1 t2 t1 v2 v1 p2 p1 W := by
  obtain ⟨h0, M, b1, b2, hM, k1, k2, l1, l2, ne, s1, s2⟩ := h
  exact ⟨h0, M, b2, b1, hM, k2, k1, l2, l1, fun e1 e2 => Ne.symm (ne e2 e1), s2, s1⟩
theorem PairJ.call2 (h : PairJ d1 x T1 d2 y T2 w c1 c2 a1 a2 t1 t2 v1 v2 p1 p2 W) (ht : t2 = false) {W' : World} (hb : Below W.heap.size W W') {cs : List Value} (hk : d2.K (nx W' W.heap.size none) y cs) :
    PairJ d1 x T1 d2 y T2 w c1 true a1 a2 t1 t2 v1 (.agg cs.toArray) p1 p2 W' := (h.swap.call1 ht hb hk).swap
theorem PairJ.alloc1 (h : PairJ d1 x T1 d2 y T2 w c1 c2 a1 a2 t1 t2 v1 v2 p1 p2 W) (ha : a1 = false) (ht : t1 = false) {old : List Value} (ho : old.length = d1.sz) :
    PairJ d1 x T1 d2 y T2 w c1 c2 true a2 t1 t2 v1 v2 (.pointer (some ⟨W.heap.size, 0, none⟩)) p2 (W.alloc (.cells old.toArray T1)) := by
  subst ha ht
  obtain ⟨h0, M, b1, b2, hM, k1, k2, -, l2, -, -, s2⟩ := h
  have hb := alloc_below W (.cells old.toArray T1)
  have hv : (vw W M).le (vw (W.alloc (.cells old.toArray T1)) (W.heap.size :: M)) := vw_grow hb (fun b e => by
    rcases List.mem_cons.1 e with rfl | e
    · exact .inr (Nat.le_refl _)
    · exact .inl e)
  refine ⟨Below.then h0 hb, W.heap.size :: M, W.heap.size, b2, fun k hk => ?_, fun e => ?_, fun e => ?_, fun _ => ⟨rfl, h0.size, List.mem_cons_self .., old, ho, blk_last _ _⟩, fun e => ?_, fun _ e => ?_, (fun e => by cases e), fun e => ?_⟩
  · have hsz : (W.alloc (.cells old.toArray T1)).heap.size = W.heap.size + 1 := by simp
    rcases List.mem_cons.1 hk with rfl | hk
    · omega
    · have := hM k hk
      omega
  · obtain ⟨c, e1, e2⟩ := k1 e
    exact ⟨c, e1, d1.mono hv e2⟩
  · obtain ⟨c, e1, e2⟩ := k2 e
    exact ⟨c, e1, d2.mono hv e2⟩
  · obtain ⟨e1, e2, e3, o2, e4, e5⟩ := l2 e
    exact ⟨e1, e2, List.mem_cons_of_mem _ e3, o2, e4, (hb.block _ (hM _ e3)).trans e5⟩
  · have := hM _ (l2 e).2.2.1
    omega
  · obtain ⟨c, e1, e2⟩ := s2 e
    exact ⟨c, e1, (hb.block _ (blk_lt e2)).trans e2⟩
theorem PairJ.alloc2 (h : PairJ d1 x T1 d2 y T2 w c1 c2 a1 a2 t1 t2 v1 v2 p1 p2 W) (ha : a2 = false) (ht : t2 = false) {old : List Value} (ho : old.length = d2.sz) :
    PairJ d1 x T1 d2 y T2 w c1 c2 a1 true t1 t2 v1 v2 p1 (.pointer (some ⟨W.heap.size, 0, none⟩)) (W.alloc (.cells old.toArray T2)) := (h.swap.alloc1 ha ht ho).swap
/-- The first variable is written: what is at hand, and what comes of it. -/
theorem PairJ.store1 (h : PairJ d1 x T1 d2 y T2 w c1 c2 a1 a2 t1 t2 v1 v2 p1 p2 W) (hc : c1 = true) (ha : a1 = true) (h2 : t2 = true → a2 = true) :
    ∃ (b : Nat) (cs : List Value), v1 = .agg cs.toArray ∧ p1 = .pointer (some ⟨b, 0, none⟩) ∧ cs.length = d1.sz ∧ W.there b 0 cs.length ∧ (∃ k, d1.K k x cs) ∧ PairJ d1 x T1 d2 y T2 w c1 c2 a1 a2 true t2 v1 v2 p1 p2 (W.setCells b 0 cs) := by
  subst hc ha
  obtain ⟨h0, M, b1, b2, hM, k1, k2, l1, l2, ne, -, s2⟩ := h
  obtain ⟨cs, rfl, hk⟩ := k1 rfl
  obtain ⟨rfl, hw, hm, old, ho, hq⟩ := l1 rfl
  have hl := d1.len hk
  have hset := setCells_all (cs := cs) hq (by omega)
  have hsz := setCells_size b1 cs 0 W
  have hv : (vw W M).le (vw (W.setCells b1 0 cs) M) := fun k o hk => by
    obtain ⟨q1, q2⟩ := vw_eq hk
    exact vw_mk q1 ((setCells_far b1 cs 0 W k (fun e => q1 (e ▸ hm))).trans q2)
  refine ⟨b1, cs, rfl, rfl, hl, there_block hq _ (by omega), ⟨_, hk⟩, Below.setCells h0 hw cs 0, M, b1, b2, fun k hk => by rw [hsz]; exact hM k hk, fun _ => ⟨cs, rfl, d1.mono hv hk⟩, fun e => ?_, fun _ => ⟨rfl, hw, hm, cs, hl, hset⟩, fun e => ?_, ne, fun _ => ⟨cs, rfl, hset⟩, fun e => ?_⟩
  · obtain ⟨c, e1, e2⟩ := k2 e
    exact ⟨c, e1, d2.mono hv e2⟩
  · obtain ⟨e1, e2, e3, o2, e4, e5⟩ := l2 e
    exact ⟨e1, e2, e3, o2, e4, (setCells_far b1 cs 0 W b2 (Ne.symm (ne rfl e))).trans e5⟩
  · obtain ⟨c, e1, e2⟩ := s2 e
    exact ⟨c, e1, (setCells_far b1 cs 0 W b2 (Ne.symm (ne rfl (h2 e)))).trans e2⟩
theorem PairJ.store2 (h : PairJ d1 x T1 d2 y T2 w c1 c2 a1 a2 t1 t2 v1 v2 p1 p2 W) (hc : c2 = true) (ha : a2 = true) (h1 : t1 = true → a1 = true) :
    ∃ (b : Nat) (cs : List Value), v2 = .agg cs.toArray ∧ p2 = .pointer (some ⟨b, 0, none⟩) ∧ cs.length = d2.sz ∧ W.there b 0 cs.length ∧ (∃ k, d2.K k y cs) ∧ PairJ d1 x T1 d2 y T2 w c1 c2 a1 a2 t1 true v1 v2 p1 p2 (W.setCells b 0 cs) := by
  obtain ⟨b, cs, e1, e2, e3, e4, e5, e6⟩ := h.swap.store1 hc ha h1
  exact ⟨b, cs, e1, e2, e3, e4, e5, e6.swap⟩
/-- All done. -/
theorem PairJ.done (h : PairJ d1 x T1 d2 y T2 w true true true true true true v1 v2 p1 p2 W) :
    ∃ (b1 b2 : Nat) (cs1 cs2 : List Value), p1 = .pointer (some ⟨b1, 0, none⟩) ∧ p2 = .pointer (some ⟨b2, 0, none⟩) ∧ W.heap[b1]? = some (.cells cs1.toArray T1 (0, 0)) ∧ W.heap[b2]? = some (.cells cs2.toArray T2 (0, 0)) ∧
      d1.K (vw W []) x cs1 ∧ d2.K (vw W []) y cs2 ∧ w.heap.size ≤ b1 ∧ w.heap.size ≤ b2 ∧ b1 ≠ b2 ∧ Below w.heap.size w W := by
  obtain ⟨h0, M, b1, b2, hM, k1, k2, l1, l2, ne, s1, s2⟩ := h
  obtain ⟨cs1, rfl, hk1⟩ := k1 rfl
  obtain ⟨cs2, rfl, hk2⟩ := k2 rfl
  obtain ⟨c1', e1, q1⟩ := s1 rfl
  obtain ⟨c2', e2, q2⟩ := s2 rfl
  injection e1 with e1
  injection e2 with e2
  rw [← e1] at q1
  rw [← e2] at q2
  exact ⟨b1, b2, cs1, cs2, (l1 rfl).1, (l2 rfl).1, q1, q2, d1.mono (vw_sub (by simp)) hk1, d2.mono (vw_sub (by simp)) hk2, (l1 rfl).2.1, (l2 rfl).2.1, ne rfl rfl, h0⟩
end
end Go.Proofs.YtnmhicgbdalniaaGreatDoor
namespace Go.Proofs.YtnmhicgbdalniaaGreatDoor
open Go.RowKit


theorem info_OfAll6 : (Tryz.prog.info? 150).map (fun i => (i.zero, i.size, i.bytes)) = some (some (.agg #[.string ⟨#[]⟩, .slice none 0 0, .slice none 0 0, .slice none 0 0, .bool false]), 5, 96) := by kernel_rfl
set_option maxHeartbeats 2000000 in
set_option maxRecDepth 100000 in
theorem OfAll6_calls (v : Value) (l : List Nd) (w : World) (hs : Kd.node.S (vw w []) v l) (hl : l.length ≤ 1000) (hf : ∀ x ∈ l, x.Few) : Calls Tryz.prog 83 #[v] w (OfDone Kd.node l w) := by
  obtain ⟨i0, hi, hz0, hz1, hz2⟩ := info_parts info_OfAll6
  obtain ⟨A, cap, rfl, hs⟩ := hs.val
  have HS := Lib.hid hs
  have HF := Lib.hid hf
  clear hs hf
  go_enter Tryz.func83, Tryz.ntmps83
  go_wp2
  go_loopw [3, 4] (fun o i wr => ∃ k : Nat, k ≤ l.length ∧ i = .int .i64 k ∧ Hid (Kd.node.Own wr w.heap.size 150 w.heap.size o (l.take k)) ∧ Hid (Below w.heap.size w wr)) (fun _ i _ => l.length - (intOf i).toNat)
  case atStart => exact ⟨0, Nat.zero_le _, rfl, Kd.Own.nil _ _ _ _ _, Below.refl _ _⟩
  case round =>
    obtain ⟨k, hk, rfl, HO, HB⟩ := hrel
    by_cases hlt : k < l.length
    · obtain ⟨b, off, cs, rfl, hn, hc⟩ := HS.out.both HB.out k hlt
      have HV : Hid (Kd.node.V (vw wr []) (.agg cs.toArray) l[k]) := ⟨cs, rfl, Kd.node.mono (vw_below HB.out) hn⟩
      have HL : Hid (cs.length = 5) := Kd.node.len hn
      have HC2 : Hid (wr.rangeAt b (off + k * 5) cs) := hc
      obtain ⟨css, k1, k2, k3⟩ := HO.out
      rw [show (l.take k).length = k by rw [List.length_take]; omega] at k3
      have HK1 := Lib.hid k1
      have HK2 := Lib.hid k2
      have HK3 := Lib.hid k3
      have hsz := HB.out.size
      clear hn hc k1 k2 k3
      go_wp2_with (first | fail | (with_reducible refine wpList_load_mid rfl 94 _ rfl b (off + k * 5) rfl cs _ HC2.out Tryz.underlying94 rfl ?_ ?_; (rw [HL.out]; kernel_rfl)))
      refine (Of6_calls _ l[k] _ HV.out (HF.out _ (List.getElem_mem hlt))).mono ?_
      rintro e w1 ⟨cs2, rfl, t, hb⟩
      have HT := Lib.hid t
      obtain ⟨B0, d0, B1, d1, B2, d2, rfl, -⟩ := t
      have HB1 := Lib.hid hb
      have hsz1 := hb.size
      clear hb
      go_wp2_with (at_builtin; go_must (refine wpList_app _ w.heap.size 47 150 i0 (.agg #[.string ⟨#[]⟩, .slice none 0 0, .slice none 0 0, .slice none 0 0, .bool false]) 5 96 Tryz.underlying47 hi hz0 hz1 hz2 rfl (by decide) _ k css.flatten (own_below HK3.out (Below.then HB1.out (alloc_below _ _))) (some ⟨w1.heap.size, 0, none⟩) 1 1 [.string l[k].name, .slice B0 l[k].cap.length d0, .slice B1 l[k].labels.length d1, .slice B2 l[k].taints.length d2, .bool l[k].cordon] rfl (fun e => by cases e) ?c1 ?c2 ?c3 ?c4 ?c5 _ _ rfl rfl rfl rfl ?_))
      · rintro ad h
        cases h
        exact World.news_of_block (cs := #[.string l[k].name, .slice B0 l[k].cap.length d0, .slice B1 l[k].labels.length d1, .slice B2 l[k].taints.length d2, .bool l[k].cordon]) (t := 150) (fr := (0, 0)) (heap_alloc_new w1 _)
      · simp [Value.oneCell']
      · simp only [maxLen]; omega
      · omega
      · simp; omega
      intro v2 w2 ho2 hg2 hv2
      have HB2 : Hid (Below w.heap.size w w2) := grown_then HB.out (Below.then HB1.out (alloc_below _ _)) hg2 (fun q hq => (HK3.out.lt q hq).1)
      have HO2 : Hid (Kd.node.Own w2 w.heap.size 150 w.heap.size v2 (l.take (k + 1))) := by
        show Kd.Own _ _ _ _ _ _ _
        rw [List.take_succ_eq_append_getElem hlt]
        exact Kd.Own.snoc HK1.out HK2.out (Kd.node.mono (nx_below (alloc_below _ _)) (Kd.node.mono (nx_new hsz (fun q hq => .inl (HK3.out.lt q hq).2) rfl) HT.out)) (Below.then HB1.out (alloc_below _ _)) (by rw [show (l.take k).length = k by rw [List.length_take]; omega]; exact ho2) hg2 (by simpa using hv2)
      clear ho2 hg2 hv2
      go_wp2
      go_roundw
      case rel => exact ⟨k + 1, by omega, by go_num, HO2.out, HB2.out⟩
      case measure => simp [intOf]; omega
    · obtain rfl : k = l.length := by omega
      have ho := HO.out
      rw [List.take_length] at ho
      obtain ⟨A2, c2, rfl, s2⟩ := (ho.S (Nat.le_refl _) (by omega)).val
      have S2 := Lib.hid s2
      clear ho HO s2
      go_wp2
      go_ret
      exact ⟨_, _, rfl, S2.out, HB.out⟩

theorem info_OfAll8 : (Tryz.prog.info? 242).map (fun i => (i.zero, i.size, i.bytes)) = some (some (.agg #[.string ⟨#[]⟩, .slice none 0 0, .int .i64 0]), 3, 48) := by kernel_rfl
set_option maxHeartbeats 2000000 in
set_option maxRecDepth 100000 in
theorem OfAll8_calls (v : Value) (l : List Bd) (w : World) (hs : Kd.budget.S (vw w []) v l) (hl : l.length ≤ 1000) (hf : ∀ x ∈ l, x.Few) : Calls Tryz.prog 85 #[v] w (OfDone Kd.budget l w) := by
  obtain ⟨i0, hi, hz0, hz1, hz2⟩ := info_parts info_OfAll8
  obtain ⟨A, cap, rfl, hs⟩ := hs.val
  have HS := Lib.hid hs
  have HF := Lib.hid hf
  clear hs hf
  go_enter Tryz.func85, Tryz.ntmps85
  go_wp2
  go_loopw [3, 4] (fun o i wr => ∃ k : Nat, k ≤ l.length ∧ i = .int .i64 k ∧ Hid (Kd.budget.Own wr w.heap.size 242 w.heap.size o (l.take k)) ∧ Hid (Below w.heap.size w wr)) (fun _ i _ => l.length - (intOf i).toNat)
  case atStart => exact ⟨0, Nat.zero_le _, rfl, Kd.Own.nil _ _ _ _ _, Below.refl _ _⟩
  case round =>
    obtain ⟨k, hk, rfl, HO, HB⟩ := hrel
    by_cases hlt : k < l.length
    · obtain ⟨b, off, cs, rfl, hn, hc⟩ := HS.out.both HB.out k hlt
      have HV : Hid (Kd.budget.V (vw wr []) (.agg cs.toArray) l[k]) := ⟨cs, rfl, Kd.budget.mono (vw_below HB.out) hn⟩
      have HL : Hid (cs.length = 3) := Kd.budget.len hn
      have HC2 : Hid (wr.rangeAt b (off + k * 3) cs) := hc
      obtain ⟨css, k1, k2, k3⟩ := HO.out
      rw [show (l.take k).length = k by rw [List.length_take]; omega] at k3
      have HK1 := Lib.hid k1
      have HK2 := Lib.hid k2
      have HK3 := Lib.hid k3
      have hsz := HB.out.size
      clear hn hc k1 k2 k3
      go_wp2_with (first | fail | (with_reducible refine wpList_load_mid rfl 245 _ rfl b (off + k * 3) rfl cs _ HC2.out Tryz.underlying245 rfl ?_ ?_; (rw [HL.out]; kernel_rfl)))
      refine (Of8_calls _ l[k] _ HV.out (HF.out _ (List.getElem_mem hlt))).mono ?_
      rintro e w1 ⟨cs2, rfl, t, hb⟩
      have HT := Lib.hid t
      obtain ⟨B0, d0, rfl, -⟩ := t
      have HB1 := Lib.hid hb
      have hsz1 := hb.size
      clear hb
      go_wp2_with (at_builtin; go_must (refine wpList_app _ w.heap.size 49 242 i0 (.agg #[.string ⟨#[]⟩, .slice none 0 0, .int .i64 0]) 3 48 Tryz.underlying49 hi hz0 hz1 hz2 rfl (by decide) _ k css.flatten (own_below HK3.out (Below.then HB1.out (alloc_below _ _))) (some ⟨w1.heap.size, 0, none⟩) 1 1 [.string l[k].name, .slice B0 l[k].sel.length d0, .int .i64 l[k].floor] rfl (fun e => by cases e) ?c1 ?c2 ?c3 ?c4 ?c5 _ _ rfl rfl rfl rfl ?_))
      · rintro ad h
        cases h
        exact World.news_of_block (cs := #[.string l[k].name, .slice B0 l[k].sel.length d0, .int .i64 l[k].floor]) (t := 242) (fr := (0, 0)) (heap_alloc_new w1 _)
      · simp [Value.oneCell']
      · simp only [maxLen]; omega
      · omega
      · simp; omega
      intro v2 w2 ho2 hg2 hv2
      have HB2 : Hid (Below w.heap.size w w2) := grown_then HB.out (Below.then HB1.out (alloc_below _ _)) hg2 (fun q hq => (HK3.out.lt q hq).1)
      have HO2 : Hid (Kd.budget.Own w2 w.heap.size 242 w.heap.size v2 (l.take (k + 1))) := by
        show Kd.Own _ _ _ _ _ _ _
        rw [List.take_succ_eq_append_getElem hlt]
        exact Kd.Own.snoc HK1.out HK2.out (Kd.budget.mono (nx_below (alloc_below _ _)) (Kd.budget.mono (nx_new hsz (fun q hq => .inl (HK3.out.lt q hq).2) rfl) HT.out)) (Below.then HB1.out (alloc_below _ _)) (by rw [show (l.take k).length = k by rw [List.length_take]; omega]; exact ho2) hg2 (by simpa using hv2)
      clear ho2 hg2 hv2
      go_wp2
      go_roundw
      case rel => exact ⟨k + 1, by omega, by go_num, HO2.out, HB2.out⟩
      case measure => simp [intOf]; omega
    · obtain rfl : k = l.length := by omega
      have ho := HO.out
      rw [List.take_length] at ho
      obtain ⟨A2, c2, rfl, s2⟩ := (ho.S (Nat.le_refl _) (by omega)).val
      have S2 := Lib.hid s2
      clear ho HO s2
      go_wp2
      go_ret
      exact ⟨_, _, rfl, S2.out, HB.out⟩

end Go.Proofs.YtnmhicgbdalniaaGreatDoor
namespace Go.Proofs.YtnmhicgbdalniaaGreatDoor
open Go.RowKit


theorem info_OfAll7 : (Tryz.prog.info? 45).map (fun i => (i.zero, i.size, i.bytes)) = some (some (.agg #[.string ⟨#[]⟩, .string ⟨#[]⟩, .int .i64 0, .slice none 0 0, .slice none 0 0, .slice none 0 0, .slice none 0 0, .string ⟨#[]⟩, .int .i64 0, .string ⟨#[]⟩, .bool false]), 11, 184) := by kernel_rfl
set_option maxHeartbeats 2000000 in
set_option maxRecDepth 100000 in
theorem OfAll7_calls (v : Value) (l : List Pd) (w : World) (hs : Kd.pod.S (vw w []) v l) (hl : l.length ≤ 1000) (hf : ∀ x ∈ l, x.Few) : Calls Tryz.prog 84 #[v] w (OfDone Kd.pod l w) := by
  obtain ⟨i0, hi, hz0, hz1, hz2⟩ := info_parts info_OfAll7
  obtain ⟨A, cap, rfl, hs⟩ := hs.val
  have HS := Lib.hid hs
  have HF := Lib.hid hf
  clear hs hf
  go_enter Tryz.func84, Tryz.ntmps84
  go_wp2
  go_loopw [3, 4] (fun o i wr => ∃ k : Nat, k ≤ l.length ∧ i = .int .i64 k ∧ Hid (Kd.pod.Own wr w.heap.size 45 w.heap.size o (l.take k)) ∧ Hid (Below w.heap.size w wr)) (fun _ i _ => l.length - (intOf i).toNat)
  case atStart => exact ⟨0, Nat.zero_le _, rfl, Kd.Own.nil _ _ _ _ _, Below.refl _ _⟩
  case round =>
    obtain ⟨k, hk, rfl, HO, HB⟩ := hrel
    by_cases hlt : k < l.length
    · obtain ⟨b, off, cs, rfl, hn, hc⟩ := HS.out.both HB.out k hlt
      have HV : Hid (Kd.pod.V (vw wr []) (.agg cs.toArray) l[k]) := ⟨cs, rfl, Kd.pod.mono (vw_below HB.out) hn⟩
      have HL : Hid (cs.length = 11) := Kd.pod.len hn
      have HC2 : Hid (wr.rangeAt b (off + k * 11) cs) := hc
      obtain ⟨css, k1, k2, k3⟩ := HO.out
      rw [show (l.take k).length = k by rw [List.length_take]; omega] at k3
      have HK1 := Lib.hid k1
      have HK2 := Lib.hid k2
      have HK3 := Lib.hid k3
      have hsz := HB.out.size
      clear hn hc k1 k2 k3
      go_wp2_with (first | fail | (with_reducible refine wpList_load_mid rfl 35 _ rfl b (off + k * 11) rfl cs _ HC2.out Tryz.underlying35 rfl ?_ ?_; (rw [HL.out]; kernel_rfl)))
      refine (Of7_calls _ l[k] _ HV.out (HF.out _ (List.getElem_mem hlt))).mono ?_
      rintro e w1 ⟨cs2, rfl, t, hb⟩
      have HT := Lib.hid t
      obtain ⟨B0, d0, B1, d1, B2, d2, B3, d3, rfl, -⟩ := t
      have HB1 := Lib.hid hb
      have hsz1 := hb.size
      clear hb
      go_wp2_with (at_builtin; go_must (refine wpList_app _ w.heap.size 48 45 i0 (.agg #[.string ⟨#[]⟩, .string ⟨#[]⟩, .int .i64 0, .slice none 0 0, .slice none 0 0, .slice none 0 0, .slice none 0 0, .string ⟨#[]⟩, .int .i64 0, .string ⟨#[]⟩, .bool false]) 11 184 Tryz.underlying48 hi hz0 hz1 hz2 rfl (by decide) _ k css.flatten (own_below HK3.out (Below.then HB1.out (alloc_below _ _))) (some ⟨w1.heap.size, 0, none⟩) 1 1 [.string l[k].name, .string l[k].owner, .int .i64 l[k].prio, .slice B0 l[k].need.length d0, .slice B1 l[k].labels.length d1, .slice B2 l[k].sel.length d2, .slice B3 l[k].tols.length d3, .string l[k].key, .int .i64 l[k].most, .string l[k].node, .bool l[k].hold] rfl (fun e => by cases e) ?c1 ?c2 ?c3 ?c4 ?c5 _ _ rfl rfl rfl rfl ?_))
      · rintro ad h
        cases h
        exact World.news_of_block (cs := #[.string l[k].name, .string l[k].owner, .int .i64 l[k].prio, .slice B0 l[k].need.length d0, .slice B1 l[k].labels.length d1, .slice B2 l[k].sel.length d2, .slice B3 l[k].tols.length d3, .string l[k].key, .int .i64 l[k].most, .string l[k].node, .bool l[k].hold]) (t := 45) (fr := (0, 0)) (heap_alloc_new w1 _)
      · simp [Value.oneCell']
      · simp only [maxLen]; omega
      · omega
      · simp; omega
      intro v2 w2 ho2 hg2 hv2
      have HB2 : Hid (Below w.heap.size w w2) := grown_then HB.out (Below.then HB1.out (alloc_below _ _)) hg2 (fun q hq => (HK3.out.lt q hq).1)
      have HO2 : Hid (Kd.pod.Own w2 w.heap.size 45 w.heap.size v2 (l.take (k + 1))) := by
        show Kd.Own _ _ _ _ _ _ _
        rw [List.take_succ_eq_append_getElem hlt]
        exact Kd.Own.snoc HK1.out HK2.out (Kd.pod.mono (nx_below (alloc_below _ _)) (Kd.pod.mono (nx_new hsz (fun q hq => .inl (HK3.out.lt q hq).2) rfl) HT.out)) (Below.then HB1.out (alloc_below _ _)) (by rw [show (l.take k).length = k by rw [List.length_take]; omega]; exact ho2) hg2 (by simpa using hv2)
      clear ho2 hg2 hv2
      go_wp2
      go_roundw
      case rel => exact ⟨k + 1, by omega, by go_num, HO2.out, HB2.out⟩
      case measure => simp [intOf]; omega
    · obtain rfl : k = l.length := by omega
      have ho := HO.out
      rw [List.take_length] at ho
      obtain ⟨A2, c2, rfl, s2⟩ := (ho.S (Nat.le_refl _) (by omega)).val
      have S2 := Lib.hid s2
      clear ho HO s2
      go_wp2
      go_ret
      exact ⟨_, _, rfl, S2.out, HB.out⟩

set_option maxHeartbeats 4000000 in
set_option maxRecDepth 100000 in
theorem Of9_calls (v : Value) (x : St) (w : World) (hv : Kd.state.V (vw w []) v x) (hf : x.Few) : Calls Tryz.prog 20 #[v] w (OneDone Kd.state x w) := by
  obtain ⟨cs, rfl, A0, c0, A1, c1, A2, c2, rfl, s0, s1, s2⟩ := hv
  have S0 := Lib.hid s0
  have S1 := Lib.hid s1
  have S2 := Lib.hid s2
  have l0 := hf.1
  have l1 := hf.2.1
  have l2 := hf.2.2.1.1
  clear s0 s1 s2
  have HFW := Lib.hid hf
  clear hf
  go_enter Tryz.func20, Tryz.ntmps20
  go_wp2
  obtain ⟨W, hW⟩ : ∃ W : World, W = ((w.alloc (.cells #[.slice A0 x.nodes.length c0, .slice A1 x.pods.length c1, .slice A2 x.budgets.length c2] 26)).alloc (.cells #[.slice none 0 0, .slice none 0 0, .slice none 0 0] 51)) := ⟨_, rfl⟩
  rw [← hW]
  have HB : Hid (Below w.heap.size w W.drew) := by
    rw [hW]; exact Below.then (Below.then (alloc_below _ _) (alloc_below _ _)) (drewN_below _ 1)
  have HC : Hid (W.drew.heap[w.heap.size]? = some (.cells #[.slice A0 x.nodes.length c0, .slice A1 x.pods.length c1, .slice A2 x.budgets.length c2] 26 (0, 0))) := by
    rw [hW]; exact (blk_old _ _ (by simp)).trans (blk_last _ _)
  have HZ : Hid (W.drew.heap[w.heap.size + 1]? = some (.cells #[.slice none 0 0, .slice none 0 0, .slice none 0 0] 51 (0, 0))) := by
    rw [hW]; exact (show _ = w.heap.size + 1 by simp : (w.alloc (.cells #[.slice A0 x.nodes.length c0, .slice A1 x.pods.length c1, .slice A2 x.budgets.length c2] 26)).heap.size = w.heap.size + 1) ▸ blk_last _ _
  have hsz : w.heap.size + 2 ≤ W.drew.heap.size := by
    rw [hW]; show _ ≤ (World.alloc _ _).heap.size; simp
  clear hW
  obtain ⟨z, zf⟩ := blk_all HC.out
  go_region_held3 (fun w' => ∀ j, w'.cell? ⟨w.heap.size, j, none⟩ = #[.slice A0 x.nodes.length c0, .slice A1 x.pods.length c1, .slice A2 x.budgets.length c2][j]?) (first | go_keep | exact z) (first
    | (go_at_call 83; refine (OfAll6_calls _ x.nodes _ (by exact S0.out.mono (vw_below HB.out)) (by omega) HFW.out.2.2.2.1).mono ?_; rintro e w1 ⟨B0, d0, rfl, t0, hb⟩; (try replace T1 := Lib.hid (T1.out.mono (nx_below hb))); (try replace T2 := Lib.hid (T2.out.mono (nx_below hb))); have T0 := Lib.hid (t0.mono (nx_lo hsz)); have hsz2 := Nat.le_trans hsz hb.size; replace HB := Lib.hid (Below.then HB.out hb); replace HC := Lib.hid ((hb.block _ (blk_lt HC.out)).trans HC.out); replace HZ := Lib.hid ((hb.block _ (blk_lt HZ.out)).trans HZ.out); clear z zf hb t0 hsz; (try clear y yf); obtain ⟨z, zf⟩ := blk_all HC.out; obtain ⟨y, yf⟩ := blk_all HZ.out; have hsz := hsz2; clear hsz2)
    | (go_at_call 84; refine (OfAll7_calls _ x.pods _ (by exact S1.out.mono (vw_below HB.out)) (by omega) HFW.out.2.2.2.2).mono ?_; rintro e w1 ⟨B1, d1, rfl, t0, hb⟩; (try replace T0 := Lib.hid (T0.out.mono (nx_below hb))); (try replace T2 := Lib.hid (T2.out.mono (nx_below hb))); have T1 := Lib.hid (t0.mono (nx_lo hsz)); have hsz2 := Nat.le_trans hsz hb.size; replace HB := Lib.hid (Below.then HB.out hb); replace HC := Lib.hid ((hb.block _ (blk_lt HC.out)).trans HC.out); replace HZ := Lib.hid ((hb.block _ (blk_lt HZ.out)).trans HZ.out); clear z zf hb t0 hsz; (try clear y yf); obtain ⟨z, zf⟩ := blk_all HC.out; obtain ⟨y, yf⟩ := blk_all HZ.out; have hsz := hsz2; clear hsz2)
    | (go_at_call 85; refine (OfAll8_calls _ x.budgets _ (by exact S2.out.mono (vw_below HB.out)) (by omega) HFW.out.2.2.1.2).mono ?_; rintro e w1 ⟨B2, d2, rfl, t0, hb⟩; (try replace T0 := Lib.hid (T0.out.mono (nx_below hb))); (try replace T1 := Lib.hid (T1.out.mono (nx_below hb))); have T2 := Lib.hid (t0.mono (nx_lo hsz)); have hsz2 := Nat.le_trans hsz hb.size; replace HB := Lib.hid (Below.then HB.out hb); replace HC := Lib.hid ((hb.block _ (blk_lt HC.out)).trans HC.out); replace HZ := Lib.hid ((hb.block _ (blk_lt HZ.out)).trans HZ.out); clear z zf hb t0 hsz; (try clear y yf); obtain ⟨z, zf⟩ := blk_all HC.out; obtain ⟨y, yf⟩ := blk_all HZ.out; have hsz := hsz2; clear hsz2))
  have hset := setCells_all (cs := [.slice B0 x.nodes.length d0, .slice B1 x.pods.length d1, .slice B2 x.budgets.length d2]) HZ.out rfl
  have hbl := Below.setCells HB.out (Nat.le_succ _) [.slice B0 x.nodes.length d0, .slice B1 x.pods.length d1, .slice B2 x.budgets.length d2] 0
  have hnx := nx_setCells (w := w1) (lo' := w.heap.size) [.slice B0 x.nodes.length d0, .slice B1 x.pods.length d1, .slice B2 x.budgets.length d2] 0 (Nat.lt_succ_self (w.heap.size + 1)) (by omega)
  go_wp2
  change bodyPost _ _ _ _ _ (w1.setCells (w.heap.size + 1) 0 [.slice B0 x.nodes.length d0, .slice B1 x.pods.length d1, .slice B2 x.budgets.length d2])
  exact ret_row1 (cs := [.slice B0 x.nodes.length d0, .slice B1 x.pods.length d1, .slice B2 x.budgets.length d2]) rfl rfl hset Tryz.underlying51 rfl (by kernel_rfl) rfl ⟨[.slice B0 x.nodes.length d0, .slice B1 x.pods.length d1, .slice B2 x.budgets.length d2], rfl, ⟨B0, d0, B1, d1, B2, d2, rfl, T0.out.mono hnx, T1.out.mono hnx, T2.out.mono hnx⟩, hbl⟩

end Go.Proofs.YtnmhicgbdalniaaGreatDoor
namespace Go.Proofs.YtnmhicgbdalniaaGreatDoor
open Go.RowKit Go.Shelf Go.Lib

/-! slices.IndexFunc, slices.ContainsFunc over elements of any kind. -/
structure Elt {α : Type} (d : Kd α) (h : View) where
  x : α
  cs : List Value
  ok : d.K h x cs
theorem Kd.S.elts {α : Type} {d : Kd α} {w : World} {A : Option Addr} {n cap : Nat} {xs : List α} (s : d.S (vw w []) (.slice A n cap) xs) (hp : 0 < xs.length) (hz : 0 < d.sz) :
    ∃ b off, A = some ⟨b, off, none⟩ ∧ b < w.heap.size ∧ ∃ zs : List (Elt d (vw w [])), zs.length = xs.length ∧ zs.map Elt.x = xs ∧ ∀ (j : Nat) (e : Elt d (vw w [])), zs[j]? = some e → ∀ i u, e.cs[i]? = some u → w.cell? ⟨b, off + j * d.sz + i, none⟩ = some u := by
  obtain ⟨b, off, cs0, rfl, k0, c0⟩ := s.elem 0 hp
  have key : ∀ i, i < xs.length → ∃ e : Elt d (vw w []), xs[i]? = some e.x ∧ ∀ j u, e.cs[j]? = some u → w.cell? ⟨b, off + i * d.sz + j, none⟩ = some u := fun i hi => by
    obtain ⟨b', off', cs, e, k, c⟩ := s.elem i hi
    injection e with e
    injection e with e1 e2
    subst e1 e2
    exact ⟨⟨xs[i], cs, k⟩, List.getElem?_eq_getElem hi, fun j u hu => cell_of_vw (c j u hu)⟩
  have main : ∀ n, n ≤ xs.length → ∃ zs : List (Elt d (vw w [])), zs.length = n ∧ zs.map Elt.x = xs.take n ∧ ∀ (j : Nat) (e : Elt d (vw w [])), zs[j]? = some e → ∀ i u, e.cs[i]? = some u → w.cell? ⟨b, off + j * d.sz + i, none⟩ = some u := by
    intro n
    induction n with
    | zero => exact fun _ => ⟨[], rfl, rfl, fun j e h => by simp at h⟩
    | succ n ih =>
      intro hn
      obtain ⟨zs, h1, h2, h3⟩ := ih (by omega)
      obtain ⟨e, he, hc⟩ := key n (by omega)
      refine ⟨zs ++ [e], by simp [h1], ?_, fun j e' hj => ?_⟩
      · rw [List.map_append, h2, List.take_add_one, he]; rfl
      · rcases Nat.lt_or_ge j zs.length with hlt | hge
        · rw [List.getElem?_append_left hlt] at hj
          exact h3 j e' hj
        · rw [List.getElem?_append_right hge] at hj
          have hj0 : j = n := by
            have := (List.getElem?_eq_some_iff.1 hj).1
            simp at this; omega
          subst hj0
          rw [h1, Nat.sub_self] at hj
          obtain rfl : e = e' := by simpa using hj
          exact hc
  obtain ⟨zs, h1, h2, h3⟩ := main xs.length (Nat.le_refl _)
  refine ⟨b, off, rfl, ?_, zs, h1, by rw [h2, List.take_length], h3⟩
  rcases Nat.lt_or_ge b w.heap.size with h | h
  · exact h
  · exfalso
    have hl := d.len k0
    have := cell_of_vw (c0 0 (cs0[0]'(by omega)) (List.getElem?_eq_getElem _))
    unfold World.cell? at this
    simp [Array.getElem?_eq_none h] at this
/-- The place of the first, or -1. -/
def idxP {α : Type} (p : α → Bool) : List α → Nat → Int
  | [], _ => -1
  | x :: r, i => if p x then (i : Int) else idxP p r (i + 1)
theorem idxP_elts {α : Type} {d : Kd α} {h : View} (p : α → Bool) (e0 : Elt d h) : ∀ (zs : List (Elt d h)) (i : Nat), Lib.idxByFrom (fun _ (y : Elt d h) => p y.x) e0 zs i = idxP p (zs.map Elt.x) i
  | [], _ => rfl
  | z :: zs, i => by
    simp only [Lib.idxByFrom, List.map_cons, idxP]
    rw [idxP_elts p e0 zs (i + 1)]
section
variable {P : Program} {ρ : Ren}
set_option maxHeartbeats 1000000 in
theorem idx_none (L : SlLaysH0.n6 P ρ) (g : Nat) (lb : Array Value) (A : Option Addr) (c : Nat) (w : World) :
    Calls P (ρ.f 6) #[.slice A 0 c, .func (.func g) #[] lb] w fun e w' => e = .returned (.int .i64 (-1)) ∧ Below w.heap.size w w' := by
  have mixed := L.mixed; have t0 := L.t0; have a0 := L.a0; have z0 := L.z0; have v0 := L.v0; have t3 := L.t3; have a3 := L.a3; have z3 := L.z3; have v3 := L.v3; have t4 := L.t4; have a4 := L.a4; have z4 := L.z4; have v4 := L.v4; have t22 := L.t22; have a22 := L.a22; have z22 := L.z22; have v22 := L.v22; have t25 := L.t25; have a25 := L.a25; have z25 := L.z25; have v25 := L.v25
  obtain ⟨_, _, FG⟩ := L.f6
  go_enter FG, SlBodyH.n6_ntmps ρ
  go_wp2
  go_loopw [5, 8] (fun _ s8 wr => s8 = .int .i64 0 ∧ Hid (Below w.heap.size w wr)) (fun _ _ _ => 0)
  case atStart => exact ⟨rfl, Below.refl _ _⟩
  case round =>
    obtain ⟨rfl, HB⟩ := hrel
    go_wp2
    go_ret
    exact ⟨rfl, HB.out⟩
theorem has_none (L : SlLaysH0.n8 P ρ) (g : Nat) (lb : Array Value) (A : Option Addr) (c : Nat) (w : World) :
    Calls P (ρ.f 8) #[.slice A 0 c, .func (.func g) #[] lb] w fun e w' => e = .returned (.bool false) ∧ Below w.heap.size w w' := by
  have mixed := L.mixed; have t0 := L.t0; have a0 := L.a0; have z0 := L.z0; have v0 := L.v0; have t3 := L.t3; have a3 := L.a3; have z3 := L.z3; have v3 := L.v3; have t4 := L.t4; have a4 := L.a4; have z4 := L.z4; have v4 := L.v4; have t22 := L.t22; have a22 := L.a22; have z22 := L.z22; have v22 := L.v22; have t25 := L.t25; have a25 := L.a25; have z25 := L.z25; have v25 := L.v25
  have e6 : ∀ args w, (callFunc (ρ.f 6) args).run P w = .ok (.enter (ρ.f 6) args) w := L.f6.enters rfl
  obtain ⟨_, _, FG⟩ := L.f8
  go_enter FG, SlBodyH.n8_ntmps ρ
  go_wp2_with (go_at_fn (ρ.f 6); refine (idx_none { L with } g lb A c _).mono ?_; rintro e w' ⟨rfl, hb'⟩)
  go_ret
  exact ⟨rfl, hb'⟩
variable {α : Type} (d : Kd α) (aE : ∀ w, (isAgg (ρ.t 23)).run P w = .ok true w) (zE : ∀ w, (Go.sizeOf (ρ.t 23)).run P w = .ok d.sz w) (hz : 0 < d.sz) (p : α → Bool) (g : Nat) (lb : Array Value) (eg : ∀ args w, (callFunc g args).run P w = .ok (.enter g args) w)
  {w0 w : World} (hb0 : Below w0.heap.size w0 w) {A : Option Addr} {n c : Nat} {l : List α} (hs : d.S (vw w0 []) (.slice A n c) l)
  (hp : ∀ (W : World) (x : α) (cs : List Value), Below w.heap.size w W → d.K (vw w0 []) x cs → Calls P g (#[.agg cs.toArray] ++ lb) W fun e w' => e = .returned (.bool (p x)) ∧ Below w.heap.size w w')
include aE zE hz eg hb0 hs hp
theorem idx_calls (L : SlLaysH0.n6 P ρ) : Calls P (ρ.f 6) #[.slice A n c, .func (.func g) #[] lb] w fun e w' => e = .returned (.int .i64 (idxP p l 0)) ∧ Below w.heap.size w w' := by
  obtain ⟨rfl, hc, hbig⟩ := hs.form
  rcases Nat.eq_zero_or_pos l.length with h0 | h0
  · obtain rfl : l = [] := List.eq_nil_of_length_eq_zero h0
    exact idx_none L g lb A c w
  · obtain ⟨b, off, rfl, hlt, zs, hl, hm, hcells⟩ := hs.elts h0 hz
    have hpos : 0 < zs.length := by omega
    haveI : Inhabited (Elt d (vw w0 [])) := ⟨zs[0]⟩
    have hcon := AnyQ.slices_IndexFunc L d.sz aE zE (fun e : Elt d (vw w0 []) => e.cs) (fun e => d.len e.ok) (fun e => p e.x) g lb eg b off l.length c zs w (fun W e hb => hp W e.x e.cs hb e.ok) (by omega) (by omega) (Nat.lt_of_lt_of_le hlt hb0.size) (fun j hj i v hv => by
      rw [List.getElem!_eq_getElem?_getD, List.getElem?_eq_getElem hj] at hv
      exact (hb0.cell (p := ⟨b, off + j * d.sz + i, none⟩) hlt).trans (hcells j _ (List.getElem?_eq_getElem hj) i v hv))
    rw [show Lib.idxBy (fun _ (y : Elt d (vw w0 [])) => p y.x) (zs.take l.length) default = idxP p l 0 by
      rw [List.take_of_length_le (by omega)]
      unfold Lib.idxBy
      rw [idxP_elts, hm]] at hcon
    exact hcon
theorem has_calls (L : SlLaysH0.n8 P ρ) : Calls P (ρ.f 8) #[.slice A n c, .func (.func g) #[] lb] w fun e w' => e = .returned (.bool (l.any p)) ∧ Below w.heap.size w w' := by
  obtain ⟨rfl, hc, hbig⟩ := hs.form
  rcases Nat.eq_zero_or_pos l.length with h0 | h0
  · obtain rfl : l = [] := List.eq_nil_of_length_eq_zero h0
    exact has_none L g lb A c w
  · obtain ⟨b, off, rfl, hlt, zs, hl, hm, hcells⟩ := hs.elts h0 hz
    have hpos : 0 < zs.length := by omega
    haveI : Inhabited (Elt d (vw w0 [])) := ⟨zs[0]⟩
    have hcon := AnyQ.slices_ContainsFunc L d.sz aE zE (fun e : Elt d (vw w0 []) => e.cs) (fun e => d.len e.ok) (fun e => p e.x) g lb eg b off l.length c zs w (fun W e hb => hp W e.x e.cs hb e.ok) (by omega) (by omega) (Nat.lt_of_lt_of_le hlt hb0.size) (fun j hj i v hv => by
      rw [List.getElem!_eq_getElem?_getD, List.getElem?_eq_getElem hj] at hv
      exact (hb0.cell (p := ⟨b, off + j * d.sz + i, none⟩) hlt).trans (hcells j _ (List.getElem?_eq_getElem hj) i v hv))
    rw [show (zs.take l.length).any (fun e => p e.x) = l.any p by
      rw [List.take_of_length_le (by omega), ← hm, List.any_map]; rfl] at hcon
    exact hcon
end
end Go.Proofs.YtnmhicgbdalniaaGreatDoor
namespace Go.Proofs.YtnmhicgbdalniaaGreatDoor
open Go.RowKit Go.Shelf Go.Lib Go.Sort

/-! slices.SortFunc over a row of the call's own, of elements of any kind. -/
/-- A row, its elements in another order. -/
def Sorted {α : Type} (cf : α → α → Int) (xs ys : List α) : Prop := ys.Perm xs ∧ ys.Pairwise fun a b => ltOf cf b a = false
theorem pairwise_of {α : Type} [Inhabited α] {lt : α → α → Bool} {d : Array α} (h : SortedIn lt 0 d.size d) : d.toList.Pairwise fun a b => lt b a = false := by
  rw [List.pairwise_iff_getElem]
  intro i j hi hj hij
  have := h i j (Nat.zero_le _) hij (by simpa using hj)
  rw [getElem!_pos d j (by simpa using hj), getElem!_pos d i (by simpa using hi)] at this
  simpa using this
theorem perm_of {α : Type} [Inhabited α] {d d' : Array α} (h : PermIn 0 d.size d d') : d'.toList.Perm d.toList := by
  obtain ⟨h1, _, h2⟩ := h
  have e1 : d'.extract 0 d.size = d' := by rw [← h1]; simp
  have e2 : d.extract 0 d.size = d := by simp
  rwa [e1, e2] at h2
section
variable {P : Program} {ρ : Ren} {α : Type} {d : Kd α}
end
end Go.Proofs.YtnmhicgbdalniaaGreatDoor
namespace Go.Proofs.YtnmhicgbdalniaaGreatDoor
open Go.RowKit

/-! Which of two numbers is ahead; one by another; the mean: the program's side. -/
theorem isNaNi_calls (n : Int) (w : World) : Calls Tryz.prog 215 #[.int .i64 n] w fun e w' => e = .returned (.bool false) ∧ w' = w := by
  have t1 : (n != n) = false := by simp
  go_enter Tryz.func215, Tryz.ntmps215
  go_wp2
  go_ret
  exact ⟨ret_bool (by simp), rfl⟩
set_option maxHeartbeats 2000000 in
theorem CmpI_calls (a b : Int) (w : World) : Calls Tryz.prog 137 #[.int .i64 a, .int .i64 b] w fun e w' => e = .returned (.int .i64 (cmpI a b)) ∧ w' = w := by
  have HX : Hid (cmpI a b = if decide (a < b) = true then -1 else if decide (b < a) = true then 1 else 0) := by show _ = _; unfold cmpI; simp only [decide_eq_true_eq]
  obtain ⟨c1, h1⟩ : ∃ c, decide (a < b) = c := ⟨_, rfl⟩
  obtain ⟨c2, h2⟩ : ∃ c, decide (b < a) = c := ⟨_, rfl⟩
  have hx := HX.out
  rw [h1, h2] at hx
  have HX2 := Lib.hid hx
  clear hx HX
  go_enter Tryz.func137, Tryz.ntmps137
  go_wp2_with fail
  refine (isNaNi_calls a _).mono ?_
  rintro e w' ⟨rfl, rfl⟩
  go_wp2_with fail
  refine (isNaNi_calls b _).mono ?_
  rintro e w' ⟨rfl, rfl⟩
  cases c1
  case true => (go_wp2; go_ret; exact ⟨by rw [HX2.out]; rfl, rfl⟩)
  cases c2 <;> (go_wp2; go_ret; exact ⟨by rw [HX2.out]; rfl, rfl⟩)
set_option maxHeartbeats 2000000 in
theorem CmpD_calls (a b : Nat) (ha : fRung a ≤ fInf) (hb : fRung b ≤ fInf) (w : World) : Calls Tryz.prog 148 #[.float .f64 a, .float .f64 b] w fun e w' => e = .returned (.int .i64 (cmpI (fMag a) (fMag b))) ∧ w' = w := by
  have HX : Hid (cmpI (fMag a) (fMag b) = if decide (fMag a < fMag b) = true then -1 else if decide (fMag b < fMag a) = true then 1 else 0) := by show _ = _; unfold cmpI; simp only [decide_eq_true_eq]
  have e1 : (FloatKind.f64.format.order a b == some .lt) = decide (fMag a < fMag b) := ord_lt ha hb
  have e2 : (FloatKind.f64.format.order a b == some .gt) = decide (fMag b < fMag a) := ord_gt ha hb
  have n1 := isNaN_calls a
  have n2 := isNaN_calls b
  rw [decide_eq_false (by omega)] at n1 n2
  obtain ⟨c1, h1⟩ : ∃ c, decide (fMag a < fMag b) = c := ⟨_, rfl⟩
  obtain ⟨c2, h2⟩ : ∃ c, decide (fMag b < fMag a) = c := ⟨_, rfl⟩
  have hx := HX.out
  rw [h1, h2] at hx
  rw [h1] at e1
  rw [h2] at e2
  have HX2 := Lib.hid hx
  have N1 := Lib.hid n1
  have N2 := Lib.hid n2
  clear hx HX h1 h2 n1 n2 ha hb
  go_enter Tryz.func148, Tryz.ntmps148
  go_wp2_with fail
  refine (N1.out _).mono ?_
  rintro e w' ⟨rfl, rfl⟩
  go_wp2_with fail
  refine (N2.out _).mono ?_
  rintro e w' ⟨rfl, rfl⟩
  cases c1
  case true => (go_wp2; go_ret; exact ⟨by rw [HX2.out]; rfl, rfl⟩)
  cases c2 <;> (go_wp2; go_ret; exact ⟨by rw [HX2.out]; rfl, rfl⟩)
set_option maxHeartbeats 2000000 in
set_option maxRecDepth 100000 in
theorem CmpF_calls (a b : Nat) (ha : a < 18446744073709551616) (hb : b < 18446744073709551616) (w : World) : Calls Tryz.prog 62 #[.float .f64 a, .float .f64 b] w fun e w' => e = .returned (.int .i64 (cmpF (fl a) (fl b))) ∧ w' = w := by
  obtain ⟨p, hp⟩ : ∃ p, clsF (fl a) = p := ⟨_, rfl⟩
  obtain ⟨q, hq⟩ : ∃ q, clsF (fl b) = q := ⟨_, rfl⟩
  have n1 := Class_calls a ha
  have n2 := Class_calls b hb
  have n3 := CmpI_calls p q
  have n4 := IsNaN_calls a
  rw [hp] at n1
  rw [hq] at n2
  have N1 := Lib.hid n1
  have N2 := Lib.hid n2
  have N4 := Lib.hid n4
  obtain ⟨c, hc⟩ : ∃ c, cmpI p q = c := ⟨_, rfl⟩
  rw [hc] at n3
  have N3 := Lib.hid n3
  clear n1 n2 n3 n4
  by_cases h : p = q
  · obtain rfl : c = 0 := by rw [← hc, cmpI_eq h]
    subst h
    by_cases hn : fInf < fRung a
    · have HX : Hid (cmpF (fl a) (fl b) = 0) := cmpF_nan (hp.trans hq.symm) hn
      have n4 := N4.out
      rw [decide_eq_true hn] at n4
      have N5 := Lib.hid n4
      clear n4 N4 hn hp hq hc
      go_enter Tryz.func62, Tryz.ntmps62
      go_wp2_with fail
      refine (N1.out _).mono ?_
      rintro e w' ⟨rfl, rfl⟩
      go_wp2_with fail
      refine (N2.out _).mono ?_
      rintro e w' ⟨rfl, rfl⟩
      go_wp2_with fail
      refine (N3.out _).mono ?_
      rintro e w' ⟨rfl, rfl⟩
      go_wp2_with fail
      refine (N5.out _).mono ?_
      rintro e w' ⟨rfl, rfl⟩
      go_wp2
      go_ret
      exact ⟨by rw [HX.out]; rfl, rfl⟩
    · obtain ⟨hb', hm⟩ := cmpF_mag (hp.trans hq.symm) (by omega)
      have HX := Lib.hid hm
      have n4 := N4.out
      rw [decide_eq_false hn] at n4
      have N5 := Lib.hid n4
      have N6 := Lib.hid (CmpD_calls a b (by omega) hb')
      clear n4 N4 hn hp hq hc hm hb'
      go_enter Tryz.func62, Tryz.ntmps62
      go_wp2_with fail
      refine (N1.out _).mono ?_
      rintro e w' ⟨rfl, rfl⟩
      go_wp2_with fail
      refine (N2.out _).mono ?_
      rintro e w' ⟨rfl, rfl⟩
      go_wp2_with fail
      refine (N3.out _).mono ?_
      rintro e w' ⟨rfl, rfl⟩
      go_wp2_with fail
      refine (N5.out _).mono ?_
      rintro e w' ⟨rfl, rfl⟩
      go_wp2_with fail
      refine (N6.out _).mono ?_
      rintro e w' ⟨rfl, rfl⟩
      go_wp2
      go_ret
      exact ⟨by rw [HX.out]; rfl, rfl⟩
  · have HX : Hid (cmpF (fl a) (fl b) = c) := by
      show _ = _
      rcases Int.lt_or_gt_of_ne h with h | h
      · rw [cmpF_cls_lt (by omega), ← hc, cmpI_lt h]
      · rw [cmpF_cls_gt (by omega), ← hc, cmpI_gt h]
    have hc1 : c = -1 ∨ c = 1 := by
      rcases Int.lt_or_gt_of_ne h with h | h
      · exact .inl (by rw [← hc, cmpI_lt h])
      · exact .inr (by rw [← hc, cmpI_gt h])
    clear N4 h hp hq hc
    rcases hc1 with rfl | rfl
    all_goals (
      go_enter Tryz.func62, Tryz.ntmps62
      go_wp2_with fail
      refine (N1.out _).mono ?_
      rintro e w' ⟨rfl, rfl⟩
      go_wp2_with fail
      refine (N2.out _).mono ?_
      rintro e w' ⟨rfl, rfl⟩
      go_wp2_with fail
      refine (N3.out _).mono ?_
      rintro e w' ⟨rfl, rfl⟩
      go_wp2
      go_ret
      exact ⟨by rw [HX.out]; rfl, rfl⟩)
/-- A call that tells a number. -/
def FloDone (x : Fl) (w : World) (e : Ending) (w' : World) : Prop := ∃ r, e = .returned (.float .f64 r) ∧ r < 18446744073709551616 ∧ fl r = x ∧ Below w.heap.size w w'
theorem ROf_calls (a b : Int) (w : World) : Calls Tryz.prog 127 #[.int .i64 a, .int .i64 b] w (FloDone (quoF (ofI a) (ofI b)) w) := by
  obtain ⟨r, q, h1, h2, h3⟩ := run_quo (P := Tryz.prog) w 74 (floatOfInt .f64 a) (floatOfInt .f64 b)
  rw [fl_ofI, fl_ofI] at h2
  go_enter Tryz.func127, Tryz.ntmps127
  go_wp2_with (simp only [h1])
  go_ret
  exact ⟨r, rfl, h3, h2, below_drewN (Below.refl _ _) q⟩
/-- A number in memory. -/
def Kd.flt : Kd Fl where
  sz := 1
  K := fun _ x cs => ∃ b, cs = [.float .f64 b] ∧ b < 18446744073709551616 ∧ fl b = x
  len := by rintro h x cs ⟨b, rfl, _⟩; rfl
  mono := fun _ h => h
theorem flt_at {w : World} {M : List Nat} {A : Option Addr} {n cap : Nat} {xs : List Fl} (s : Kd.flt.S (vw w M) (.slice A n cap) xs) (j : Nat) (hj : j < xs.length) :
    ∃ b off r, A = some ⟨b, off, none⟩ ∧ w.cell? ⟨b, off + j, none⟩ = some (.float .f64 r) ∧ r < 18446744073709551616 ∧ fl r = xs[j] := by
  obtain ⟨b, off, cs, e, ⟨r, rfl, h1, h2⟩, h3⟩ := s.elem j hj
  refine ⟨b, off, r, e, cell_of_vw (M := M) ?_, h1, h2⟩
  have := h3 0 (.float .f64 r) rfl
  simpa [Kd.flt] using this
def sumF (l : List Fl) : Fl := l.foldl addF (some 0)
theorem sumF_snoc (l : List Fl) {k : Nat} (h : k < l.length) : sumF (l.take (k + 1)) = addF (sumF (l.take k)) l[k] := by
  unfold sumF
  rw [List.take_succ_eq_append_getElem h, List.foldl_append]; rfl
set_option maxHeartbeats 2000000 in
set_option maxRecDepth 100000 in
theorem Mean_calls (v : Value) (l : List Fl) (w : World) (hs : Kd.flt.S (vw w []) v l) : Calls Tryz.prog 145 #[v] w (FloDone (quoF (sumF l) (ofI l.length)) w) := by
  obtain ⟨A, cap, rfl, hs⟩ := hs.val
  obtain ⟨_, hcap, hlen⟩ := hs.form
  have HS := Lib.hid hs
  clear hs
  go_enter Tryz.func145, Tryz.ntmps145
  go_wp2
  go_loopw [3, 8] (fun u i wr => ∃ k r : Nat, k ≤ l.length ∧ i = .int .i64 k ∧ u = .float .f64 r ∧ Hid (fl r = sumF (l.take k)) ∧ Hid (Below w.heap.size w wr)) (fun _ i _ => l.length - (intOf i).toNat)
  case atStart => exact ⟨0, 0, Nat.zero_le _, rfl, rfl, rfl, Below.refl _ _⟩
  case round =>
    obtain ⟨k, r, hk, rfl, rfl, HG, HB⟩ := hrel
    by_cases hlt : k < l.length
    · obtain ⟨b, off, y, rfl, c0, -, hy⟩ := flt_at (HS.out.mono (vw_below HB.out)) k hlt
      have hsn := sumF_snoc l hlt
      rw [← HG.out, ← hy] at hsn
      obtain ⟨r', q, h1, h2, -⟩ := run_add (P := Tryz.prog) wr 74 r y
      have HG2 : Hid (fl r' = sumF (l.take (k + 1))) := h2.trans hsn.symm
      have HB2 := Lib.hid (below_drewN HB.out q)
      clear hsn h2 hy HG HB
      go_wp2_with (simp only [h1])
      go_round
      case rel => exact ⟨k + 1, r', by omega, by go_num, rfl, HG2.out, HB2.out⟩
      case measure => simp [intOf]; omega
    · obtain rfl : k = l.length := by omega
      have hg := HG.out
      rw [List.take_length] at hg
      obtain ⟨r', q, h1, h2, h3⟩ := run_quo (P := Tryz.prog) wr 74 r (floatOfInt .f64 l.length)
      rw [hg, fl_ofI] at h2
      have H3 := Lib.hid (And.intro h3 h2)
      have HB2 := Lib.hid (below_drewN HB.out q)
      clear hg h2 h3 HG HB
      go_wp2_with (simp only [h1])
      go_ret
      exact ⟨r', rfl, H3.out.1, H3.out.2, HB2.out⟩
end Go.Proofs.YtnmhicgbdalniaaGreatDoor
