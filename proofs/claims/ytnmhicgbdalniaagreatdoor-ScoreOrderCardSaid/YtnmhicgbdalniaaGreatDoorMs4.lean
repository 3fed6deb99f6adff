import Derived.Test.YtnmhicgbdalniaaGreatDoorMs2
import Derived.Test.YtnmhicgbdalniaaGreatDoorMs3
namespace Go.Proofs.YtnmhicgbdalniaaGreatDoor
open Go.RowKit

/-! The program's data, and the document's, in plain words. -/
def lim : Nat := 140737488351232
structure Amt where
  name : ByteArray
  n : Int
structure Pair where
  key : ByteArray
  val : ByteArray
structure Term where
  op : Int
  key : ByteArray
  val : ByteArray
structure Tnt where
  key : ByteArray
  val : ByteArray
  b : Bool
structure Nd where
  name : ByteArray
  cap : List Amt
  labels : List Pair
  taints : List Tnt
  cordon : Bool
structure Pd where
  name : ByteArray
  owner : ByteArray
  prio : Int
  need : List Amt
  labels : List Pair
  sel : List Term
  tols : List Tnt
  key : ByteArray
  most : Int
  node : ByteArray
  hold : Bool
structure Bd where
  name : ByteArray
  sel : List Term
  floor : Int
structure St where
  nodes : List Nd
  pods : List Pd
  budgets : List Bd
def i64 (n : Int) : Prop := -9223372036854775808 ≤ n ∧ n ≤ 9223372036854775807
def sok (s : ByteArray) : Prop := s.size ≤ 140737488351232
namespace Kd
variable {α : Type}
/-- What an element's cells hold. -/
theorem S.at_ {d : Kd α} {w : World} {M : List Nat} {A : Option Addr} {m cap : Nat} {xs : List α} (s : d.S (vw w M) (.slice A m cap) xs) (j : Nat) (hj : j < xs.length) :
    ∃ b off cs, A = some ⟨b, off, none⟩ ∧ d.K (vw w M) xs[j] cs ∧ w.rangeAt b (off + j * d.sz) cs := by
  obtain ⟨b, off, cs, e, h1, h2⟩ := s.elem j hj
  exact ⟨b, off, cs, e, h1, range_of_view h2⟩
/-- The same, the element told of an older world. -/
theorem S.both {d : Kd α} {w wr : World} {A : Option Addr} {m cap : Nat} {xs : List α} (s : d.S (vw w []) (.slice A m cap) xs) (hb : Below w.heap.size w wr) (j : Nat) (hj : j < xs.length) :
    ∃ b off cs, A = some ⟨b, off, none⟩ ∧ d.K (vw w []) xs[j] cs ∧ wr.rangeAt b (off + j * d.sz) cs := by
  obtain ⟨b, off, cs, e, h1, h2⟩ := s.elem j hj
  exact ⟨b, off, cs, e, h1, range_of_view fun i u hu => View.cell_mono (vw_below hb) (h2 i u hu)⟩
/-- A struct by value. -/
def V (d : Kd α) (h : View) (v : Value) (x : α) : Prop := ∃ cs, v = .agg cs.toArray ∧ d.K h x cs
theorem V.mono {d : Kd α} {h k : View} {v : Value} {x : α} (hk : h.le k) (s : d.V h v x) : d.V k v x := by
  obtain ⟨cs, e, h1⟩ := s
  exact ⟨cs, e, d.mono hk h1⟩
def amt : Kd Amt := flat 2 (fun x => [.string x.name, .int .i64 x.n]) (fun x => sok x.name ∧ i64 x.n) (fun _ => rfl)
def pair : Kd Pair := flat 2 (fun x => [.string x.key, .string x.val]) (fun x => sok x.key ∧ sok x.val) (fun _ => rfl)
def term : Kd Term := flat 3 (fun x => [.int .i64 x.op, .string x.key, .string x.val]) (fun x => i64 x.op ∧ sok x.key ∧ sok x.val) (fun _ => rfl)
def tnt : Kd Tnt := flat 3 (fun x => [.string x.key, .string x.val, .bool x.b]) (fun x => sok x.key ∧ sok x.val) (fun _ => rfl)
def node : Kd Nd where
  sz := 5
  K := fun h x cs => ∃ A1 c1 A2 c2 A3 c3, cs = [.string x.name, .slice A1 x.cap.length c1, .slice A2 x.labels.length c2, .slice A3 x.taints.length c3, .bool x.cordon] ∧ sok x.name ∧
    amt.S h (.slice A1 x.cap.length c1) x.cap ∧ pair.S h (.slice A2 x.labels.length c2) x.labels ∧ tnt.S h (.slice A3 x.taints.length c3) x.taints
  len := by rintro h x cs ⟨_, _, _, _, _, _, rfl, _⟩; rfl
  mono := by rintro h k x cs hk ⟨A1, c1, A2, c2, A3, c3, e, h0, h1, h2, h3⟩; exact ⟨A1, c1, A2, c2, A3, c3, e, h0, h1.mono hk, h2.mono hk, h3.mono hk⟩
def PdOk (x : Pd) : Prop := (sok x.name ∧ sok x.owner ∧ i64 x.prio) ∧ sok x.key ∧ i64 x.most ∧ sok x.node
def pod : Kd Pd where
  sz := 11
  K := fun h x cs => ∃ A1 c1 A2 c2 A3 c3 A4 c4, cs = [.string x.name, .string x.owner, .int .i64 x.prio, .slice A1 x.need.length c1, .slice A2 x.labels.length c2, .slice A3 x.sel.length c3, .slice A4 x.tols.length c4, .string x.key, .int .i64 x.most, .string x.node, .bool x.hold] ∧ PdOk x ∧
    amt.S h (.slice A1 x.need.length c1) x.need ∧ pair.S h (.slice A2 x.labels.length c2) x.labels ∧ term.S h (.slice A3 x.sel.length c3) x.sel ∧ tnt.S h (.slice A4 x.tols.length c4) x.tols
  len := by rintro h x cs ⟨_, _, _, _, _, _, _, _, rfl, _⟩; rfl
  mono := by rintro h k x cs hk ⟨A1, c1, A2, c2, A3, c3, A4, c4, e, h0, h1, h2, h3, h4⟩; exact ⟨A1, c1, A2, c2, A3, c3, A4, c4, e, h0, h1.mono hk, h2.mono hk, h3.mono hk, h4.mono hk⟩
def budget : Kd Bd where
  sz := 3
  K := fun h x cs => ∃ A1 c1, cs = [.string x.name, .slice A1 x.sel.length c1, .int .i64 x.floor] ∧ (sok x.name ∧ i64 x.floor) ∧ term.S h (.slice A1 x.sel.length c1) x.sel
  len := by rintro h x cs ⟨_, _, rfl, _⟩; rfl
  mono := by rintro h k x cs hk ⟨A1, c1, e, h0, h1⟩; exact ⟨A1, c1, e, h0, h1.mono hk⟩
def state : Kd St where
  sz := 3
  K := fun h x cs => ∃ A1 c1 A2 c2 A3 c3, cs = [.slice A1 x.nodes.length c1, .slice A2 x.pods.length c2, .slice A3 x.budgets.length c3] ∧
    node.S h (.slice A1 x.nodes.length c1) x.nodes ∧ pod.S h (.slice A2 x.pods.length c2) x.pods ∧ budget.S h (.slice A3 x.budgets.length c3) x.budgets
  len := by rintro h x cs ⟨_, _, _, _, _, _, rfl, _⟩; rfl
  mono := by rintro h k x cs hk ⟨A1, c1, A2, c2, A3, c3, e, h1, h2, h3⟩; exact ⟨A1, c1, A2, c2, A3, c3, e, h1.mono hk, h2.mono hk, h3.mono hk⟩
/-- Whatever reads as a list is spelled by its length. -/
theorem S.val {d : Kd α} {h : View} {v : Value} {xs : List α} (s : d.S h v xs) : ∃ A c, v = .slice A xs.length c ∧ d.S h (.slice A xs.length c) xs := by
  obtain ⟨A, c, rfl, _⟩ := id s
  exact ⟨A, c, rfl, s⟩
end Kd
theorem wf_i64 {n : Int} (h : (Lit.int .i64 n).wf = true) : i64 n := by
  simp only [Lit.wf, Bool.and_eq_true, decide_eq_true_eq] at h
  exact h
end Go.Proofs.YtnmhicgbdalniaaGreatDoor
namespace Go.Proofs.YtnmhicgbdalniaaGreatDoor
open Go.RowKit

/-! Rows of a call's own, of whatever elements. -/
/-- All blocks from lo on, but for one. -/
def nx (w : World) (lo : Nat) (own : Option Nat) : View := fun b => if b < lo ∨ own = some b then none else w.heap[b]?
theorem nx_eq {w : World} {lo : Nat} {own : Option Nat} {b : Nat} {o : Obj} (h : nx w lo own b = some o) : ¬ b < lo ∧ own ≠ some b ∧ w.heap[b]? = some o := by
  unfold nx at h
  split at h
  · cases h
  · rename_i k
    exact ⟨fun e => k (.inl e), fun e => k (.inr e), h⟩
theorem nx_mk {w : World} {lo : Nat} {own : Option Nat} {b : Nat} {o : Obj} (h : lo ≤ b) (h2 : own ≠ some b) (h3 : w.heap[b]? = some o) : nx w lo own b = some o := by
  unfold nx
  rw [if_neg (by rintro (e | e); omega; exact h2 e)]; exact h3
theorem nx_vw {w : World} {lo : Nat} {own : Option Nat} {M : List Nat} (h : ∀ x, x ∈ M → x < lo ∨ own = some x) : (nx w lo own).le (vw w M) := fun b o hb => by
  obtain ⟨h1, h2, h3⟩ := nx_eq hb
  exact vw_mk (fun hm => by rcases h b hm with e | e; exact h1 e; exact h2 e) h3
theorem nx_below {w w' : World} {lo : Nat} {own : Option Nat} (h : Below w.heap.size w w') : (nx w lo own).le (nx w' lo own) := fun b o hb => by
  obtain ⟨h1, h2, h3⟩ := nx_eq hb
  exact nx_mk (by omega) h2 ((h.block b (blk_lt h3)).trans h3)
/-- What is new and what was read: both lie apart from a row of the call's own. -/
theorem nx_new {w w' : World} {lo lo' : Nat} {own own' : Option Nat} (h : lo ≤ lo') (k : ∀ b, own = some b → b < lo' ∨ own' = some b) (e : w = w') : (nx w lo' own').le (nx w' lo own) := fun b o hb => by
  subst e
  obtain ⟨h1, h2, h3⟩ := nx_eq hb
  exact nx_mk (by omega) (fun e => by rcases k b e with q | q; exact h1 q; exact h2 q) h3
theorem vw_own {w w' : World} {own : Option Nat} (h : Below w.heap.size w w') (k : ∀ b, own = some b → w.heap.size ≤ b) : (vw w []).le (nx w' 0 own) := fun b o hb => by
  obtain ⟨_, h2⟩ := vw_eq hb
  have := blk_lt h2
  exact nx_mk (Nat.zero_le _) (fun e => by have := k b e; omega) ((h.block b this).trans h2)
theorem nx_grown {w w' : World} {lo : Nat} {own own' : Option Nat} (h : w.grownBy w' own) (k : own' = own ∨ own' = some w.heap.size) : (nx w lo own).le (nx w' lo own') := fun b o hb => by
  obtain ⟨h1, h2, h3⟩ := nx_eq hb
  have h4 := blk_lt h3
  refine nx_mk (by omega) (fun e => ?_) ((h.block b h4 (Ne.symm h2)).trans h3)
  rcases k with k | k
  · exact h2 (k ▸ e)
  · rw [k] at e; injection e with e; omega
theorem flatten_len {n : Nat} : ∀ (css : List (List Value)), (∀ c ∈ css, c.length = n) → css.flatten.length = css.length * n
  | [], _ => by simp
  | c :: r, h => by
    rw [List.flatten_cons, List.length_append, flatten_len r (fun x hx => h x (List.mem_cons_of_mem _ hx)), h c (List.mem_cons_self ..), List.length_cons, Nat.add_mul]; omega
theorem flatten_get {n : Nat} : ∀ (css : List (List Value)), (∀ c ∈ css, c.length = n) → ∀ (j i : Nat) (c : List Value), css[j]? = some c → i < n → css.flatten[j * n + i]? = c[i]?
  | [], _, j, i, c, h, _ => by simp at h
  | a :: r, hn, 0, i, c, h, hi => by
    simp only [List.getElem?_cons_zero, Option.some.injEq] at h
    subst h
    have := hn a (List.mem_cons_self ..)
    rw [List.flatten_cons, Nat.zero_mul, Nat.zero_add, List.getElem?_append_left (by omega)]
  | a :: r, hn, j + 1, i, c, h, hi => by
    have h1 := hn a (List.mem_cons_self ..)
    rw [List.flatten_cons, Nat.add_mul, Nat.one_mul, List.getElem?_append_right (by omega), show j * n + n + i - a.length = j * n + i by omega]
    exact flatten_get r (fun x hx => hn x (List.mem_cons_of_mem _ hx)) j i c (by simpa using h) hi
namespace Kd
variable {α : Type}
def Own (d : Kd α) (w : World) (base : Nat) (e : TypeId) (lo : Nat) (v : Value) (xs : List α) : Prop :=
  ∃ css : List (List Value), css.length = xs.length ∧ (∀ (j : Nat) (x : α), xs[j]? = some x → ∃ cs, css[j]? = some cs ∧ d.K (nx w lo v.ownBlock) x cs) ∧ w.ownsRow base e d.sz v xs.length css.flatten
theorem Own.nil (d : Kd α) (w : World) (base : Nat) (e : TypeId) (lo : Nat) : d.Own w base e lo (.slice none 0 0) [] := ⟨[], rfl, fun j x h => by simp at h, World.ownsRow_nil _ _ _ _⟩
theorem Own.row {d : Kd α} {w : World} {base : Nat} {e : TypeId} {lo : Nat} {v : Value} {xs : List α} (h : d.Own w base e lo v xs) : ∃ cs, w.ownsRow base e d.sz v xs.length cs := by
  obtain ⟨css, _, _, h⟩ := h
  exact ⟨_, h⟩
theorem Own.below {d : Kd α} {w w' : World} {base : Nat} {e : TypeId} {lo : Nat} {v : Value} {xs : List α} (h : d.Own w base e lo v xs) (hb : Below w.heap.size w w') : d.Own w' base e lo v xs := by
  obtain ⟨css, h1, h2, h3⟩ := h
  exact ⟨css, h1, fun j x hx => by obtain ⟨cs, a, b⟩ := h2 j x hx; exact ⟨cs, a, d.mono (nx_below hb) b⟩, own_below h3 hb⟩
/-- One element more. -/
theorem Own.snoc {d : Kd α} {w w1 w' : World} {base : Nat} {e : TypeId} {lo : Nat} {v v' : Value} {xs : List α} {x : α} {cs : List Value} {css : List (List Value)} (h1 : css.length = xs.length)
    (h2 : ∀ (j : Nat) (x : α), xs[j]? = some x → ∃ cs, css[j]? = some cs ∧ d.K (nx w lo v.ownBlock) x cs) (hk : d.K (nx w1 lo v.ownBlock) x cs) (hb : Below w.heap.size w w1)
    (ho : w'.ownsRow base e d.sz v' (xs.length + 1) (css.flatten ++ cs)) (hg : w1.grownBy w' v.ownBlock) (hv : v'.ownBlock = v.ownBlock ∨ v'.ownBlock = some w1.heap.size) :
    d.Own w' base e lo v' (xs ++ [x]) := by
  have hm := nx_grown (lo := lo) hg hv
  refine ⟨css ++ [cs], by simp [h1], fun j y hy => ?_, by rw [List.length_append, List.flatten_append]; simpa using ho⟩
  rcases Nat.lt_or_ge j xs.length with hlt | hge
  · rw [List.getElem?_append_left hlt] at hy
    obtain ⟨c, a, b⟩ := h2 j y hy
    exact ⟨c, by rw [List.getElem?_append_left (by omega)]; exact a, d.mono hm (d.mono (nx_below hb) b)⟩
  · rw [List.getElem?_append_right hge] at hy
    have hj : j = xs.length := by
      have := (List.getElem?_eq_some_iff.1 hy).1
      simp at this; omega
    subst hj
    simp only [Nat.sub_self, List.getElem?_cons_zero, Option.some.injEq] at hy
    subst hy
    exact ⟨cs, by rw [List.getElem?_append_right (by omega), ← h1, Nat.sub_self]; rfl, d.mono hm hk⟩
theorem Own.S {d : Kd α} {w : World} {base : Nat} {e : TypeId} {lo : Nat} {v : Value} {xs : List α} (h : d.Own w base e lo v xs) (hlo : lo ≤ base) (hl : xs.length ≤ 140737488351232) : d.S (nx w lo none) v xs := by
  obtain ⟨css, h1, h2, h3⟩ := h
  have hlen : ∀ c ∈ css, c.length = d.sz := fun c hc => by
    obtain ⟨j, hj, rfl⟩ := List.getElem_of_mem hc
    obtain ⟨cs, a, b⟩ := h2 j xs[j] (List.getElem?_eq_getElem (by omega))
    rw [List.getElem?_eq_getElem hj] at a
    injection a with a
    rw [a]; exact d.len b
  rcases h3.2 with ⟨rfl, h0⟩ | ⟨g, cap, cur, rfl, hg, hh, hn, hc, hs, ht⟩
  · have : xs = [] := List.eq_nil_of_length_eq_zero h0
    subst this
    exact S.nil _ _
  · refine ⟨_, cap, rfl, hn, hl, fun e => (by cases e), fun _ => ⟨g, 0, rfl, fun j x hx => ?_⟩⟩
    obtain ⟨cs, a, b⟩ := h2 j x hx
    refine ⟨cs, d.mono (fun b o hb => ?_) b, fun i u hu => ?_⟩
    · obtain ⟨q1, q2, q3⟩ := nx_eq hb
      exact nx_mk (by omega) (by simp) q3
    · have hi : i < d.sz := by have := (List.getElem?_eq_some_iff.1 hu).1; rw [d.len b] at this; exact this
      have hj : j < xs.length := (List.getElem?_eq_some_iff.1 hx).1
      have h4 := flatten_get css hlen j i cs a hi
      rw [hu, ← ht, List.getElem?_take, if_pos (by
        have : j * d.sz + i < (j + 1) * d.sz := by rw [Nat.add_mul]; omega
        have := Nat.mul_le_mul_right d.sz (show j + 1 ≤ xs.length by omega)
        omega)] at h4
      have : (nx w lo none) g = some (.cells cur e (0, 0)) := nx_mk (by omega) (by simp) hh
      simp [View.cell?, this]
      simpa using h4
end Kd
end Go.Proofs.YtnmhicgbdalniaaGreatDoor
