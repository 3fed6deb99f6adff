import Derived.Test.YtfbmfjmnpfidoaaKinds
import Derived.Test.YtfbmfjmnpfidoaaApp
namespace Go.Proofs.Ytfbmfjmnpfidoaa
open Go.RowKit

/-! Rows of a call's own, of whatever elements. -/
/-- All blocks from lo on, but for one. -/
def nx (w : World) (lo : Nat) (own : Option Nat) : View := fun b => if b < lo ∨ own = some b then none else w.heap[b]?
theorem nx_eq {w : World} {lo : Nat} {own : Option Nat} {b : Nat} {o : Obj} (h : nx w lo own b = some o) : ¬ b < lo ∧ own ≠ some b ∧ w.heap[b]? = some o := by
  unfold nx at h
  split at h
  · cases h
  · rename_i k
    exact ⟨fun e => k (.inl e), fun e => k (.inr e), h⟩
theorem nx_mk {w : World} {lo : Nat} {own : Option Nat} {b : Nat} {o : Obj} (h : lo ≤ b) (h2 : own ≠ some b) (h3 : w.heap[b]? = some o) : nx w lo own b = some o := by
  unfold nx
  rw [if_neg (by rintro (e | e); omega; exact h2 e)]; exact h3
theorem nx_vw {w : World} {lo : Nat} {own : Option Nat} {M : List Nat} (h : ∀ x, x ∈ M → x < lo ∨ own = some x) : (nx w lo own).le (vw w M) := fun b o hb => by
  obtain ⟨h1, h2, h3⟩ := nx_eq hb
  exact vw_mk (fun hm => by rcases h b hm with e | e; exact h1 e; exact h2 e) h3
theorem vw_nx {w : World} {lo : Nat} {own : Option Nat} {M : List Nat} (h : ∀ b, (b < lo ∨ own = some b) → b ∈ M) : (vw w M).le (nx w lo own) := fun b o hb => by
  obtain ⟨h1, h2⟩ := vw_eq hb
  exact nx_mk (by rcases Nat.lt_or_ge b lo with e | e; exact absurd (h b (.inl e)) h1; exact e) (fun e => h1 (h b (.inr e))) h2
theorem nx_below {w w' : World} {lo : Nat} {own : Option Nat} (h : Below w.heap.size w w') : (nx w lo own).le (nx w' lo own) := fun b o hb => by
  obtain ⟨h1, h2, h3⟩ := nx_eq hb
  exact nx_mk (by omega) h2 ((h.block b (blk_lt h3)).trans h3)
/-- What is new and what was read: both lie apart from a row of the call's own. -/
theorem nx_new {w w' : World} {lo lo' : Nat} {own own' : Option Nat} (h : lo ≤ lo') (k : ∀ b, own = some b → b < lo' ∨ own' = some b) (e : w = w') : (nx w lo' own').le (nx w' lo own) := fun b o hb => by
  subst e
  obtain ⟨h1, h2, h3⟩ := nx_eq hb
  exact nx_mk (by omega) (fun e => by rcases k b e with q | q; exact h1 q; exact h2 q) h3
theorem vw_own {w w' : World} {own : Option Nat} (h : Below w.heap.size w w') (k : ∀ b, own = some b → w.heap.size ≤ b) : (vw w []).le (nx w' 0 own) := fun b o hb => by
  obtain ⟨_, h2⟩ := vw_eq hb
  have := blk_lt h2
  exact nx_mk (Nat.zero_le _) (fun e => by have := k b e; omega) ((h.block b this).trans h2)
theorem nx_grown {w w' : World} {lo : Nat} {own own' : Option Nat} (h : w.grownBy w' own) (k : own' = own ∨ own' = some w.heap.size) : (nx w lo own).le (nx w' lo own') := fun b o hb => by
  obtain ⟨h1, h2, h3⟩ := nx_eq hb
  have h4 := blk_lt h3
  refine nx_mk (by omega) (fun e => ?_) ((h.block b h4 (Ne.symm h2)).trans h3)
  rcases k with k | k
  · exact h2 (k ▸ e)
  · rw [k] at e; injection e with e; omega
theorem flatten_len {n : Nat} : ∀ (css : List (List Value)), (∀ c ∈ css, c.length = n) → css.flatten.length = css.length * n
  | [], _ => by simp
  | c :: r, h => by
    rw [List.flatten_cons, List.length_append, flatten_len r (fun x hx => h x (List.mem_cons_of_mem _ hx)), h c (List.mem_cons_self ..), List.length_cons, Nat.add_mul]; omega
theorem flatten_get {n : Nat} : ∀ (css : List (List Value)), (∀ c ∈ css, c.length = n) → ∀ (j i : Nat) (c : List Value), css[j]? = some c → i < n → css.flatten[j * n + i]? = c[i]?
  | [], _, j, i, c, h, _ => by simp at h
  | a :: r, hn, 0, i, c, h, hi => by
    simp only [List.getElem?_cons_zero, Option.some.injEq] at h
    subst h
    have := hn a (List.mem_cons_self ..)
    rw [List.flatten_cons, Nat.zero_mul, Nat.zero_add, List.getElem?_append_left (by omega)]
  | a :: r, hn, j + 1, i, c, h, hi => by
    have h1 := hn a (List.mem_cons_self ..)
    rw [List.flatten_cons, Nat.add_mul, Nat.one_mul, List.getElem?_append_right (by omega), show j * n + n + i - a.length = j * n + i by omega]
    exact flatten_get r (fun x hx => hn x (List.mem_cons_of_mem _ hx)) j i c (by simpa using h) hi
namespace Kd
variable {α : Type}
def Own (d : Kd α) (w : World) (base : Nat) (e : TypeId) (lo : Nat) (v : Value) (xs : List α) : Prop :=
  ∃ css : List (List Value), css.length = xs.length ∧ (∀ (j : Nat) (x : α), xs[j]? = some x → ∃ cs, css[j]? = some cs ∧ d.K (nx w lo v.ownBlock) x cs) ∧ w.ownsRow base e d.sz v xs.length css.flatten
theorem Own.nil (d : Kd α) (w : World) (base : Nat) (e : TypeId) (lo : Nat) : d.Own w base e lo (.slice none 0 0) [] := ⟨[], rfl, fun j x h => by simp at h, World.ownsRow_nil _ _ _ _⟩
theorem Own.row {d : Kd α} {w : World} {base : Nat} {e : TypeId} {lo : Nat} {v : Value} {xs : List α} (h : d.Own w base e lo v xs) : ∃ cs, w.ownsRow base e d.sz v xs.length cs := by
  obtain ⟨css, _, _, h⟩ := h
  exact ⟨_, h⟩
theorem Own.below {d : Kd α} {w w' : World} {base : Nat} {e : TypeId} {lo : Nat} {v : Value} {xs : List α} (h : d.Own w base e lo v xs) (hb : Below w.heap.size w w') : d.Own w' base e lo v xs := by
  obtain ⟨css, h1, h2, h3⟩ := h
  exact ⟨css, h1, fun j x hx => by obtain ⟨cs, a, b⟩ := h2 j x hx; exact ⟨cs, a, d.mono (nx_below hb) b⟩, own_below h3 hb⟩
/-- One element more. -/
theorem Own.snoc {d : Kd α} {w w1 w' : World} {base : Nat} {e : TypeId} {lo : Nat} {v v' : Value} {xs : List α} {x : α} {cs : List Value} {css : List (List Value)} (h1 : css.length = xs.length)
    (h2 : ∀ (j : Nat) (x : α), xs[j]? = some x → ∃ cs, css[j]? = some cs ∧ d.K (nx w lo v.ownBlock) x cs) (hk : d.K (nx w1 lo v.ownBlock) x cs) (hb : Below w.heap.size w w1)
    (ho : w'.ownsRow base e d.sz v' (xs.length + 1) (css.flatten ++ cs)) (hg : w1.grownBy w' v.ownBlock) (hv : v'.ownBlock = v.ownBlock ∨ v'.ownBlock = some w1.heap.size) :
    d.Own w' base e lo v' (xs ++ [x]) := by
  have hm := nx_grown (lo := lo) hg hv
  refine ⟨css ++ [cs], by simp [h1], fun j y hy => ?_, by rw [List.length_append, List.flatten_append]; simpa using ho⟩
  rcases Nat.lt_or_ge j xs.length with hlt | hge
  · rw [List.getElem?_append_left hlt] at hy
    obtain ⟨c, a, b⟩ := h2 j y hy
    exact ⟨c, by rw [List.getElem?_append_left (by omega)]; exact a, d.mono hm (d.mono (nx_below hb) b)⟩
  · rw [List.getElem?_append_right hge] at hy
    have hj : j = xs.length := by
      have := (List.getElem?_eq_some_iff.1 hy).1
      simp at this; omega
    subst hj
    simp only [Nat.sub_self, List.getElem?_cons_zero, Option.some.injEq] at hy
    subst hy
    exact ⟨cs, by rw [List.getElem?_append_right (by omega), ← h1, Nat.sub_self]; rfl, d.mono hm hk⟩
theorem Own.S {d : Kd α} {w : World} {base : Nat} {e : TypeId} {lo : Nat} {v : Value} {xs : List α} (h : d.Own w base e lo v xs) (hlo : lo ≤ base) (hl : xs.length ≤ 140737488351232) : d.S (nx w lo none) v xs := by
  obtain ⟨css, h1, h2, h3⟩ := h
  have hlen : ∀ c ∈ css, c.length = d.sz := fun c hc => by
    obtain ⟨j, hj, rfl⟩ := List.getElem_of_mem hc
    obtain ⟨cs, a, b⟩ := h2 j xs[j] (List.getElem?_eq_getElem (by omega))
    rw [List.getElem?_eq_getElem hj] at a
    injection a with a
    rw [a]; exact d.len b
  rcases h3.2 with ⟨rfl, h0⟩ | ⟨g, cap, cur, rfl, hg, hh, hn, hc, hs, ht⟩
  · have : xs = [] := List.eq_nil_of_length_eq_zero h0
    subst this
    exact S.nil _ _
  · refine ⟨_, cap, rfl, hn, hl, fun e => (by cases e), fun _ => ⟨g, 0, rfl, fun j x hx => ?_⟩⟩
    obtain ⟨cs, a, b⟩ := h2 j x hx
    refine ⟨cs, d.mono (fun b o hb => ?_) b, fun i u hu => ?_⟩
    · obtain ⟨q1, q2, q3⟩ := nx_eq hb
      exact nx_mk (by omega) (by simp) q3
    · have hi : i < d.sz := by have := (List.getElem?_eq_some_iff.1 hu).1; rw [d.len b] at this; exact this
      have hj : j < xs.length := (List.getElem?_eq_some_iff.1 hx).1
      have h4 := flatten_get css hlen j i cs a hi
      rw [hu, ← ht, List.getElem?_take, if_pos (by
        have : j * d.sz + i < (j + 1) * d.sz := by rw [Nat.add_mul]; omega
        have := Nat.mul_le_mul_right d.sz (show j + 1 ≤ xs.length by omega)
        omega)] at h4
      have : (nx w lo none) g = some (.cells cur e (0, 0)) := nx_mk (by omega) (by simp) hh
      simp [View.cell?, this]
      simpa using h4
end Kd
end Go.Proofs.Ytfbmfjmnpfidoaa
