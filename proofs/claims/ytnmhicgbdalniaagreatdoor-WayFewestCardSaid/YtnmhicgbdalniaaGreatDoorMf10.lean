import Derived.Test.YtnmhicgbdalniaaGreatDoorMf4
import Derived.Test.YtnmhicgbdalniaaGreatDoorMf5
import Derived.Test.YtnmhicgbdalniaaGreatDoorMf6
import Derived.Test.YtnmhicgbdalniaaGreatDoorMf7
import Derived.Test.YtnmhicgbdalniaaGreatDoorMf8
import Derived.Test.YtnmhicgbdalniaaGreatDoorMf9
namespace Go.Proofs.YtnmhicgbdalniaaGreatDoor
open Go.RowKit

/-! Where a pod is put: the plain law. -/
theorem insN_at {p : Pd} : ∀ {l : List Pd} {k : Nat}, k ≤ l.length → (∀ j, (hj : j < l.length) → j < k → ltS l[j].name p.name = true) → (∀ hk : k < l.length, ltS l[k].name p.name = false) → insN p l = l.take k ++ p :: l.drop k
  | [], 0, _, _, _ => rfl
  | [], k + 1, h, _, _ => by simp at h
  | x :: r, 0, _, _, h => by
    have := h (by simp)
    simp only [List.getElem_cons_zero] at this
    unfold insN
    rw [this, if_neg (by decide)]; rfl
  | x :: r, k + 1, hk, h1, h2 => by
    have h0 := h1 0 (by simp) (by omega)
    simp only [List.getElem_cons_zero] at h0
    unfold insN
    rw [if_pos h0, insN_at (k := k) (by simpa using hk) (fun j hj hjk => by have := h1 (j + 1) (by simpa using hj) (by omega); simpa using this) (fun hk' => by have := h2 (by simpa using hk'); simpa using this)]
    rfl
/-- How many lie ahead, in a row that rises. -/
def aheadN (p : Pd) (l : List Pd) : Nat := l.countP fun x => ltS x.name p.name
end Go.Proofs.YtnmhicgbdalniaaGreatDoor
namespace Go.Proofs.YtnmhicgbdalniaaGreatDoor
open Go.RowKit Go.Sort

/-! A piece of a row: its elements' cells lie there; append of a piece onto a row of the call's own. -/
namespace Kd
variable {α : Type}
def Piece (d : Kd α) (w0 : World) (M : List Nat) (w : World) (A : Option Addr) (m : Nat) (ys : List α) : Prop :=
  ys.length = m ∧ (A = none → m = 0) ∧ ∃ css : List (List Value), css.length = ys.length ∧ (∀ (j : Nat) (x : α), ys[j]? = some x → ∃ cs, css[j]? = some cs ∧ d.K (vw w0 M) x cs) ∧ ∀ ad, A = some ad → ∀ j u, css.flatten[j]? = some u → w.cell? (ad.add j) = some u
theorem Piece.below {d : Kd α} {w0 w w' : World} {M : List Nat} {A : Option Addr} {m : Nat} {ys : List α} (h : d.Piece w0 M w A m ys) (hb : Below w.heap.size w w') : d.Piece w0 M w' A m ys := by
  obtain ⟨h1, h2, css, h3, h4, h5⟩ := h
  exact ⟨h1, h2, css, h3, h4, fun ad had j u hu => keep_cell hb (h5 ad had j u hu)⟩
theorem Piece.nil (d : Kd α) (w0 : World) (M : List Nat) (w : World) (A : Option Addr) : d.Piece w0 M w A 0 [] := ⟨rfl, fun _ => rfl, [], rfl, fun j x h => by simp at h, fun ad _ j u hu => by simp at hu⟩
theorem Piece.len_lists {d : Kd α} {w0 : World} {M : List Nat} {ys : List α} {css : List (List Value)} (h1 : css.length = ys.length) (h2 : ∀ (j : Nat) (x : α), ys[j]? = some x → ∃ cs, css[j]? = some cs ∧ d.K (vw w0 M) x cs) : ∀ c ∈ css, c.length = d.sz := fun c hc => by
  obtain ⟨j, hj, rfl⟩ := List.getElem_of_mem hc
  obtain ⟨cs, a, b⟩ := h2 j ys[j] (List.getElem?_eq_getElem (by omega))
  rw [List.getElem?_eq_getElem hj] at a
  cases a
  exact d.len b
/-- The rows' form: nothing, or a block of the call's own with as much room as is told. -/
theorem Row0.form {d : Kd α} {w0 w : World} {M : List Nat} {base : Nat} {e : TypeId} {v : Value} {xs : List α} (h : d.Row0 w0 M w base e v xs) :
    (v = .slice none 0 0 ∧ xs = []) ∨ ∃ g cap css, v = .slice (some ⟨g, 0, none⟩) xs.length cap ∧ base ≤ g ∧ xs.length ≤ cap ∧ cap ≤ maxLen ∧ css.length = xs.length ∧ Rw w g d.sz css ∧ ∀ (j : Nat) (x : α), xs[j]? = some x → ∃ cs, css[j]? = some cs ∧ d.K (vw w0 M) x cs := by
  obtain ⟨css, h1, h2, h3⟩ := h
  rcases h3.2 with ⟨e1, e2⟩ | ⟨g, cap, cur, e1, hg, hh, hnc, hcm, hs, ht⟩
  · exact .inl ⟨e1, List.eq_nil_of_length_eq_zero e2⟩
  · refine .inr ⟨g, cap, css, e1, hg, hnc, hcm, h1, ?_, h2⟩
    have hlen := Piece.len_lists h1 h2
    refine ⟨blk_lt hh, hlen, fun t c hc j u hu => ?_, fun x => by simp [World.frozen?, hh]⟩
    have hj : j < d.sz := by have := (List.getElem?_eq_some_iff.1 hu).1; rw [hlen c (List.mem_of_getElem? hc)] at this; exact this
    have htl := (List.getElem?_eq_some_iff.1 hc).1
    have h4 := flatten_get css hlen t j c hc hj
    rw [hu, ← ht, List.getElem?_take, if_pos (by
      have := Nat.mul_le_mul_right d.sz (show t + 1 ≤ xs.length by omega)
      rw [Nat.add_mul] at this; omega)] at h4
    rw [cell_of_row w g _ _ _ _ hh]
    simpa using h4
theorem Rw_flat {w : World} {g z : Nat} {css : List (List Value)} (h : Rw w g z css) (hz : 0 < z) (k : Nat) : ∀ j u, (css.drop k).flatten[j]? = some u → w.cell? ⟨g, k * z + j, none⟩ = some u := fun j u hu => by
  have hlen : ∀ c ∈ css.drop k, c.length = z := fun c hc => h.len c (List.mem_of_mem_drop hc)
  have hjl := (List.getElem?_eq_some_iff.1 hu).1
  rw [flatten_len _ hlen, List.length_drop] at hjl
  have ht : j / z < css.length - k := Nat.div_lt_of_lt_mul (by rw [Nat.mul_comm]; exact hjl)
  have hmod := Nat.mod_lt j hz
  have hdm := Nat.div_add_mod j z
  obtain ⟨q, hq⟩ : ∃ q, j / z = q := ⟨_, rfl⟩
  obtain ⟨r, hr⟩ : ∃ r, j % z = r := ⟨_, rfl⟩
  rw [hq] at ht hdm
  rw [hr] at hmod hdm
  have hkq : k + q < css.length := by omega
  have hc : (css.drop k)[q]? = some css[k + q] := by rw [List.getElem?_drop, List.getElem?_eq_getElem hkq]
  have h4 := flatten_get _ hlen q r _ hc hmod
  rw [Nat.mul_comm, hdm, hu] at h4
  have := h.at_ (k + q) _ (List.getElem?_eq_getElem hkq) r u h4.symm
  rw [← this, Nat.add_mul, Nat.mul_comm q, Nat.add_assoc, hdm]
/-- A row's front. -/
theorem Piece.take {d : Kd α} {w0 w : World} {M : List Nat} {g : Nat} {css : List (List Value)} {xs : List α} (hz : 0 < d.sz) (hr : Rw w g d.sz css) (hl : css.length = xs.length) (hk : ∀ (j : Nat) (x : α), xs[j]? = some x → ∃ cs, css[j]? = some cs ∧ d.K (vw w0 M) x cs) {k : Nat} (hkl : k ≤ xs.length) :
    d.Piece w0 M w (some ⟨g, 0, none⟩) k (xs.take k) := by
  refine ⟨by rw [List.length_take]; omega, (fun e => by cases e), css.take k, by simp [hl], fun j x hx => ?_, fun ad had j u hu => ?_⟩
  · rw [List.getElem?_take] at hx ⊢
    split at hx
    · rename_i hj
      obtain ⟨cs, a, b⟩ := hk j x hx
      exact ⟨cs, by rw [if_pos hj]; exact a, b⟩
    · cases hx
  · cases had
    have := Rw_flat (hr.cut k) hz 0 j u (by simpa using hu)
    rw [Kd.addr_add]
    simpa using this
/-- A row's end. -/
theorem Piece.drop {d : Kd α} {w0 w : World} {M : List Nat} {g : Nat} {css : List (List Value)} {xs : List α} (hz : 0 < d.sz) (hr : Rw w g d.sz css) (hl : css.length = xs.length) (hk : ∀ (j : Nat) (x : α), xs[j]? = some x → ∃ cs, css[j]? = some cs ∧ d.K (vw w0 M) x cs) (k : Nat) {o : Nat} (ho : o = k * d.sz) :
    d.Piece w0 M w (some ⟨g, o, none⟩) (xs.length - k) (xs.drop k) := by
  subst ho
  refine ⟨by rw [List.length_drop], (fun e => by cases e), css.drop k, by simp [hl], fun j x hx => ?_, fun ad had j u hu => ?_⟩
  · rw [List.getElem?_drop] at hx ⊢
    exact hk _ x hx
  · cases had
    rw [Kd.addr_add]
    exact Rw_flat hr hz k j u hu
theorem Piece.none_left {d : Kd α} {w0 w : World} {M : List Nat} {A : Option Addr} {xs : List α} {k : Nat} (h : k = xs.length) : d.Piece w0 M w A (xs.length - k) (xs.drop k) := by
  subst h
  rw [Nat.sub_self, List.drop_length]
  exact Piece.nil _ _ _ _ _
/-- A row that was there ahead, as a piece. -/
theorem Piece.of_S {d : Kd α} {w0 w : World} {M : List Nat} {A : Option Addr} {n cap : Nat} {ys : List α} (s : d.S (vw w0 M) (.slice A n cap) ys) (hb : Below w0.heap.size w0 w) : d.Piece w0 M w A n ys := by
  obtain ⟨rfl, -, -⟩ := s.form
  obtain ⟨css, h1, h2, h3, h4⟩ := s.lists
  exact ⟨rfl, h3, css, h1, fun j x hx => by
    obtain ⟨hj, rfl⟩ := List.getElem?_eq_some_iff.1 hx
    exact ⟨css[j]'(by omega), List.getElem?_eq_getElem _, h2 j hj (by omega)⟩, fun ad had j u hu => keep_cell hb (h4 ad had j u hu)⟩
/-- One that lies in a block of its own. -/
theorem Piece.one {d : Kd α} {w0 w : World} {M : List Nat} {g : Nat} {T : TypeId} {x : α} {cs : List Value} (hg : w.heap[g]? = some (.cells cs.toArray T (0, 0))) (hk : d.K (vw w0 M) x cs) : d.Piece w0 M w (some ⟨g, 0, none⟩) 1 [x] :=
  ⟨rfl, (fun e => by cases e), [cs], rfl, fun j y hy => by
    obtain ⟨hj, rfl⟩ := List.getElem?_eq_some_iff.1 hy
    obtain rfl : j = 0 := by simpa using hj
    exact ⟨cs, rfl, hk⟩, fun ad had j u hu => by
    cases had
    have := World.news_of_block hg j u
    exact this (by simpa using hu)⟩
section
variable {d : Kd α} {P : Program} (w w0 : World) (M : List Nat) (base : Nat) (t e : TypeId) (i : TypeInfo) (z : Value) (bytes : Nat) (ht : P.underlying t = some (.slice e)) (hi : P.info? e = some i) (hz : i.zero = some z)
  (hsize : i.size = d.sz) (hby : i.bytes = bytes) (hzs : z.cells.size = d.sz) (hsz : 0 < d.sz) (v : Value) (xs : List α) (hown : d.Row0 w0 M w base e v xs) (A : Option Addr) (m c : Nat) (ys : List α) (hp : d.Piece w0 M w A m ys)
  (h1 : ∀ h x cs, d.K h x cs → ∀ u ∈ cs, u.oneCell' = true) (h63 : xs.length + m ≤ maxLen) (hbytes : (xs.length + m) * bytes ≤ 140737488355328) (hbase : base ≤ w.heap.size)
  {o : Oper} {a : Act} {Q : Exit → Act → World → Prop} (s y : Operand) (ho : o.op = .call { callee := .builtin .append, args := #[s, y], argTypes := #[t, t] }) (hs : a.eval s = v) (hx : a.eval y = .slice A m c)
include ht hi hz hsize hby hzs hsz hown hp h1 h63 hbytes hbase ho hs hx
theorem wp_piece {K : Act → World → Prop} (h : ∀ v' w', d.Row0 w0 M w' base e v' (xs ++ ys) → w.grownBy w' v.ownBlock → (v'.ownBlock = v.ownBlock ∨ v'.ownBlock = some w.heap.size) → K (a.put o.dst v') w') : o.wp P a w K Q := by
  obtain ⟨css, k1, k2, k3⟩ := hown
  obtain ⟨hm, hA, cys, q1, q2, q3⟩ := hp
  have hlen := Piece.len_lists q1 q2
  refine wp_app w base t e i z d.sz bytes ht hi hz hsize hby hzs hsz v xs.length css.flatten k3 A m c cys.flatten (by rw [flatten_len cys hlen, q1, hm]) hA q3 (fun u hu => ?_) h63 hbytes hbase s y ho hs hx fun v' w' ho' hg' hn' => h v' w' ⟨css ++ cys, by simp [k1, q1], fun j x hx => ?_, by rw [List.length_append, hm, List.flatten_append]; exact ho'⟩ hg' hn'
  · obtain ⟨cs, hc, hu⟩ := List.mem_flatten.1 hu
    obtain ⟨j, hj, rfl⟩ := List.getElem_of_mem hc
    obtain ⟨cs, a, b⟩ := q2 j ys[j] (List.getElem?_eq_getElem (by omega))
    rw [List.getElem?_eq_getElem hj] at a
    cases a
    exact h1 _ _ _ b u hu
  · rcases Nat.lt_or_ge j xs.length with hlt | hge
    · rw [List.getElem?_append_left hlt] at hx
      obtain ⟨c, a, b⟩ := k2 j x hx
      exact ⟨c, by rw [List.getElem?_append_left (by omega)]; exact a, b⟩
    · rw [List.getElem?_append_right hge] at hx
      obtain ⟨c, a, b⟩ := q2 _ x hx
      exact ⟨c, by rw [List.getElem?_append_right (by omega), k1]; exact a, b⟩
theorem wpList_piece {ops : Array Oper} {rest : List Oper} (hgd : o.guard = none) (h : ∀ v' w', d.Row0 w0 M w' base e v' (xs ++ ys) → w.grownBy w' v.ownBlock → (v'.ownBlock = v.ownBlock ∨ v'.ownBlock = some w.heap.size) → wpList P ops Q rest (a.put o.dst v') w') : wpList P ops Q (o :: rest) a w :=
  wpList_plain hgd fun _ hK => wp_piece w w0 M base t e i z bytes ht hi hz hsize hby hzs hsz v xs hown A m c ys hp h1 h63 hbytes hbase s y ho hs hx fun v' w' h2 h3 h4 => hK _ _ (h v' w' h2 h3 h4)
theorem step_piece {ops : Array Oper} {K : Act → World → Prop} {E : Prop} (hgd : o.guard = none) (h : ∀ v' w', d.Row0 w0 M w' base e v' (xs ++ ys) → w.grownBy w' v.ownBlock → (v'.ownBlock = v.ownBlock ∨ v'.ownBlock = some w.heap.size) → K (a.put o.dst v') w') :
    if Region.wanted o (yielded ops a.tmps) = true then Oper.wp P o a w K Q else E := by
  have hw : Region.wanted o (yielded ops a.tmps) = true := by simp [Region.wanted, hgd]
  rw [if_pos hw]
  exact wp_piece w w0 M base t e i z bytes ht hi hz hsize hby hzs hsz v xs hown A m c ys hp h1 h63 hbytes hbase s y ho hs hx h
end
theorem Row0.base_le {d : Kd α} {w0 w : World} {M : List Nat} {base base' : Nat} {e : TypeId} {v : Value} {xs : List α} (h : d.Row0 w0 M w base e v xs) (hb : base' ≤ base) : d.Row0 w0 M w base' e v xs := by
  obtain ⟨css, h1, h2, h3⟩ := h
  exact ⟨css, h1, h2, own_base h3 hb⟩
theorem Row0.kept {d : Kd α} {w0 w w' : World} {M : List Nat} {base : Nat} {e : TypeId} {v : Value} {xs : List α} {row : Option Nat} (h : d.Row0 w0 M w base e v xs) (hg : w.grownBy w' row) (hn : v.ownBlock = none ∨ v.ownBlock ≠ row) : d.Row0 w0 M w' base e v xs := by
  obtain ⟨css, h1, h2, h3⟩ := h
  exact ⟨css, h1, h2, h3.kept hg hn⟩
theorem Row0.lt {d : Kd α} {w0 w : World} {M : List Nat} {base : Nat} {e : TypeId} {v : Value} {xs : List α} (h : d.Row0 w0 M w base e v xs) : ∀ q, v.ownBlock = some q → base ≤ q ∧ q < w.heap.size := by
  obtain ⟨css, h1, h2, h3⟩ := h
  exact h3.lt
theorem Row0.empty {d : Kd α} {w0 : World} {M : List Nat} (w : World) (e : TypeId) : d.Row0 w0 M (w.alloc (.cells #[] e)) w.heap.size e (.slice (some ⟨w.heap.size, 0, none⟩) 0 0) [] :=
  ⟨[], rfl, fun j x h => by simp at h, own_emptyN w e d.sz⟩
/-! 'append(append([]T{}, l[:k]...), x)': what holds as its operations come in any order. l0: the empty row is made; l4: the front is put on; l6: the block of one is made; l7: it is put on. -/
def InsJ (d : Kd α) (w0 : World) (M : List Nat) (w : World) (T : TypeId) (fr : List α) (x : α) (cx : List Value) (l0 l4 l6 l7 : Bool) (v0 v4 v6 v7 : Value) (W : World) : Prop :=
  Below w.heap.size w W ∧ (l4 = true → l0 = true) ∧ (l7 = true → l4 = true ∧ l6 = true) ∧
  (l0 = true → l4 = false → d.Row0 w0 M W w.heap.size T v0 []) ∧ (l4 = true → l7 = false → d.Row0 w0 M W w.heap.size T v4 fr) ∧
  (l6 = true → l7 = false → ∃ g, v6 = .slice (some ⟨g, 0, none⟩) 1 1 ∧ W.heap[g]? = some (.cells cx.toArray T (0, 0)) ∧ (l0 = true → l4 = false → v0.ownBlock ≠ some g)) ∧
  (l7 = true → d.Row0 w0 M W w.heap.size T v7 (fr ++ [x]))
section
variable {d : Kd α} {w0 : World} {M : List Nat} {w : World} {T : TypeId} {fr : List α} {x : α} {cx : List Value} {l0 l4 l6 l7 : Bool} {v0 v4 v6 v7 : Value} {W W' : World}
theorem InsJ.start (h : Below w.heap.size w W) : InsJ d w0 M w T fr x cx false false false false v0 v4 v6 v7 W :=
  ⟨h, (fun e => by cases e), (fun e => by cases e), (fun e => by cases e), (fun e => by cases e), (fun e => by cases e), (fun e => by cases e)⟩
theorem InsJ.alloc0 (h : InsJ d w0 M w T fr x cx false l4 l6 l7 v0 v4 v6 v7 W) : InsJ d w0 M w T fr x cx true l4 l6 l7 (.slice (some ⟨W.heap.size, 0, none⟩) 0 0) v4 v6 v7 (W.alloc (.cells #[] T)) := by
  obtain ⟨h1, h2, h3, h4, h5, h6, h7⟩ := h
  have e4 : l4 = false := by cases l4 with | false => rfl | true => cases h2 rfl
  subst e4
  have e7 : l7 = false := by cases l7 with | false => rfl | true => cases (h3 rfl).1
  subst e7
  refine ⟨Below.then h1 (alloc_below _ _), (fun e => by cases e), (fun e => by cases e), fun _ _ => (Row0.empty W T).base_le h1.size, (fun e => by cases e), fun e _ => ?_, (fun e => by cases e)⟩
  obtain ⟨g, k1, k2, -⟩ := h6 e rfl
  refine ⟨g, k1, (blk_old _ _ (blk_lt k2)).trans k2, fun _ _ => ?_⟩
  have := blk_lt k2
  show some W.heap.size ≠ some g
  intro e
  injection e with e
  omega
theorem InsJ.alloc1 (h : InsJ d w0 M w T fr x cx l0 l4 false l7 v0 v4 v6 v7 W) : InsJ d w0 M w T fr x cx l0 l4 true l7 v0 v4 (.slice (some ⟨W.heap.size, 0, none⟩) 1 1) v7 (W.alloc (.cells cx.toArray T)) := by
  obtain ⟨h1, h2, h3, h4, h5, h6, h7⟩ := h
  have e7 : l7 = false := by cases l7 with | false => rfl | true => cases (h3 rfl).2
  subst e7
  refine ⟨Below.then h1 (alloc_below _ _), h2, (fun e => by cases e), fun e k => (h4 e k).below (alloc_below _ _), fun e k => (h5 e k).below (alloc_below _ _), fun _ _ => ⟨_, rfl, blk_last _ _, fun e k hv => ?_⟩, (fun e => by cases e)⟩
  have := ((h4 e k).lt _ hv).2
  omega
theorem InsJ.row0 (h : InsJ d w0 M w T fr x cx l0 false l6 l7 v0 v4 v6 v7 W) (h0 : l0 = true) : d.Row0 w0 M W w.heap.size T v0 [] := h.2.2.2.1 h0 rfl
theorem InsJ.row1 (h : InsJ d w0 M w T fr x cx l0 l4 l6 false v0 v4 v6 v7 W) (h4 : l4 = true) : d.Row0 w0 M W w.heap.size T v4 fr := h.2.2.2.2.1 h4 rfl
theorem InsJ.one (h : InsJ d w0 M w T fr x cx l0 l4 l6 false v0 v4 v6 v7 W) (k6 : l6 = true) : ∃ g, v6 = .slice (some ⟨g, 0, none⟩) 1 1 ∧ W.heap[g]? = some (.cells cx.toArray T (0, 0)) := by
  obtain ⟨g, k1, k2, -⟩ := h.2.2.2.2.2.1 k6 rfl
  exact ⟨g, k1, k2⟩
theorem InsJ.app (h : InsJ d w0 M w T fr x cx l0 false l6 l7 v0 v4 v6 v7 W) (h0 : l0 = true) {v' : Value} (hr : d.Row0 w0 M W' w.heap.size T v' fr) (hg : W.grownBy W' v0.ownBlock) : InsJ d w0 M w T fr x cx l0 true l6 l7 v0 v' v6 v7 W' := by
  subst h0
  obtain ⟨h1, h2, h3, h4, h5, h6, h7⟩ := h
  have e7 : l7 = false := by cases l7 with | false => rfl | true => cases (h3 rfl).1
  subst e7
  have hr0 := h4 rfl rfl
  refine ⟨h1.grown hg h1.size (fun q hq => (hr0.lt q hq).1), fun _ => rfl, (fun e => by cases e), (fun _ e => by cases e), fun _ _ => hr, fun e _ => ?_, (fun e => by cases e)⟩
  obtain ⟨g, k1, k2, k3⟩ := h6 e rfl
  exact ⟨g, k1, (hg.block _ (blk_lt k2) (fun e => k3 rfl rfl e.symm)).trans k2, (fun _ e => by cases e)⟩
theorem InsJ.app2 (h : InsJ d w0 M w T fr x cx l0 l4 l6 false v0 v4 v6 v7 W) (k4 : l4 = true) (k6 : l6 = true) {v' : Value} (hr : d.Row0 w0 M W' w.heap.size T v' (fr ++ [x])) (hg : W.grownBy W' v4.ownBlock) : InsJ d w0 M w T fr x cx l0 l4 l6 true v0 v4 v6 v' W' := by
  have hr1 := h.row1 k4
  subst k4 k6
  obtain ⟨h1, h2, h3, h4, h5, h6, h7⟩ := h
  exact ⟨h1.grown hg h1.size (fun q hq => (hr1.lt q hq).1), h2, fun _ => ⟨rfl, rfl⟩, (fun _ e => by cases e), (fun _ e => by cases e), (fun _ e => by cases e), fun _ => hr⟩
theorem InsJ.done (h : InsJ d w0 M w T fr x cx l0 l4 l6 true v0 v4 v6 v7 W) : Below w.heap.size w W ∧ d.Row0 w0 M W w.heap.size T v7 (fr ++ [x]) := ⟨h.1, h.2.2.2.2.2.2 rfl⟩
end
end Kd
end Go.Proofs.YtnmhicgbdalniaaGreatDoor
namespace Go.Proofs.YtnmhicgbdalniaaGreatDoor
open Go.RowKit Go.Sort

/-! state.Put. -/
set_option maxHeartbeats 4000000 in
theorem put1_calls (v : Value) (x : Pd) (name : ByteArray) (w : World) (hv : ∃ h cs, v = .agg cs ∧ Kd.pod.K h x cs.toList) : Calls Tryz.prog 119 #[v, .string name] w (fun e w' => ∃ n : Int, e = .returned (.int .i64 n) ∧ decide (n < 0) = ltS x.name name ∧ Below w.heap.size w w') := by
  obtain ⟨h, cs, rfl, B1, d1, B2, d2, B3, d3, B4, d4, e, -⟩ := hv
  obtain rfl : cs = #[.string x.name, .string x.owner, .int .i64 x.prio, .slice B1 x.need.length d1, .slice B2 x.labels.length d2, .slice B3 x.sel.length d3, .slice B4 x.tols.length d4, .string x.key, .int .i64 x.most, .string x.node, .bool x.hold] := by
    have := congrArg List.toArray e
    simpa using this
  clear e
  go_enter Tryz.func119, Tryz.ntmps119
  go_upto_region 1 with fail
  have HB := Lib.hid (alloc_below w (.cells #[.string x.name, .string x.owner, .int .i64 x.prio, .slice B1 x.need.length d1, .slice B2 x.labels.length d2, .slice B3 x.sel.length d3, .slice B4 x.tols.length d4, .string x.key, .int .i64 x.most, .string x.node, .bool x.hold] 35))
  have hk := blk_last w (.cells #[.string x.name, .string x.owner, .int .i64 x.prio, .slice B1 x.need.length d1, .slice B2 x.labels.length d2, .slice B3 x.sel.length d3, .slice B4 x.tols.length d4, .string x.key, .int .i64 x.most, .string x.node, .bool x.hold] 35)
  generalize w.alloc (.cells #[.string x.name, .string x.owner, .int .i64 x.prio, .slice B1 x.need.length d1, .slice B2 x.labels.length d2, .slice B3 x.sel.length d3, .slice B4 x.tols.length d4, .string x.key, .int .i64 x.most, .string x.node, .bool x.hold] 35) = W at HB hk ⊢
  obtain ⟨z, zf⟩ := blk_all hk
  clear hk
  go_wp2_with fail
  refine (Tryz.strings_Compare x.name name _).mono ?_
  rintro e w1 ⟨rfl, rfl⟩
  have HN : Hid (decide (Lib.compareBytes x.name.data.toList name.data.toList < 0) = ltS x.name name) := by
    show _ = _
    unfold ltS
    rw [Bool.eq_iff_iff, decide_eq_true_iff, decide_eq_true_iff]
    exact cmpB_neg _ _
  go_wp2
  go_ret
  exact ⟨_, rfl, HN.out, HB.out⟩
def SearchDone (l : List Pd) (name : ByteArray) (w : World) (e : Ending) (w' : World) : Prop := ∃ (k : Nat) (b : Bool), e = .returned (.tuple #[.int .i64 (k : Int), .bool b]) ∧ k ≤ l.length ∧ (∀ j, (hj : j < l.length) → j < k → ltS l[j].name name = true) ∧ (∀ hk : k < l.length, ltS l[k].name name = false) ∧ Below w.heap.size w w'
theorem up_at {l : List Pd} (h : UpN Pd.name l) {i j : Nat} (hij : i ≤ j) (hj : j < l.length) {name : ByteArray} (hl : ltS l[j].name name = true) : ltS (l[i]'(by omega)).name name = true := by
  rcases Nat.lt_or_ge i j with h1 | h1
  · exact ltS_trans ((List.pairwise_iff_getElem.1 h) i j (by omega) hj h1) hl
  · obtain rfl : i = j := by omega
    exact hl
set_option maxHeartbeats 8000000 in
set_option maxRecDepth 100000 in
theorem search_calls (v : Value) (l : List Pd) (name : ByteArray) (w : World) {M : List Nat} (hs : Kd.pod.S (vw w M) v l) (hl : l.length ≤ 1000) (hup : UpN Pd.name l) :
    Calls Tryz.prog 118 #[v, .string name, .func (.func 119) #[] #[]] w (SearchDone l name w) := by
  obtain ⟨A, c, rfl, hs⟩ := hs.val
  have mixed : Tryz.prog.follows .mixedOrders = true := by kernel_rfl
  have HS := Lib.hid hs
  have HUP := Lib.hid hup
  clear hs hup
  go_enter Tryz.func118, Tryz.ntmps118
  go_wp2
  go_loopw [9, 10] (fun a b wr => ∃ lo hi : Nat, a = .int .i64 lo ∧ b = .int .i64 hi ∧ lo ≤ hi ∧ hi ≤ l.length ∧ Hid (∀ j, (hj : j < l.length) → j < lo → ltS l[j].name name = true) ∧ Hid (∀ j, (hj : j < l.length) → hi ≤ j → ltS l[j].name name = false) ∧ Hid (Below w.heap.size w wr)) (fun a b _ => (intOf b).toNat - (intOf a).toNat)
  case atStart => exact ⟨0, l.length, rfl, rfl, Nat.zero_le _, Nat.le_refl _, (fun j hj h => by omega), (fun j hj h => by omega), Below.refl _ _⟩
  case round =>
    obtain ⟨lo, hi, rfl, rfl, hlh, hhl, HLO, HHI, HB⟩ := hrel
    by_cases hlt : lo < hi
    · obtain ⟨m, hm⟩ : ∃ m, (lo + hi) / 2 = m := ⟨_, rfl⟩
      have hm1 : lo ≤ m := by omega
      have hm2 : m < hi := by omega
      have hm3 : ((lo : Int) + (hi : Int)) / 2 = (m : Int) := by omega
      have hml : m < l.length := by omega
      obtain ⟨b, off, cs, rfl, hn, hc⟩ := HS.out.bothM HB.out m hml
      obtain ⟨x, hx⟩ : ∃ x, l[m] = x := ⟨_, rfl⟩
      rw [hx] at hn
      have HKX := Lib.hid hn
      obtain ⟨B1, d1, B2, d2, B3, d3, B4, d4, rfl, -⟩ := hn
      have HC : Hid (wr.rangeAt b (off + m * 11) _) := hc
      have HX := Lib.hid hx
      have HM := Lib.hid hm3
      have b3 : (0 : Int) ≤ (m : Int) := by omega
      have b4 : (m : Int) < (l.length : Int) := by omega
      clear hc hx hm hm3
      go_upto_region 5 with fail
      rw [HM.out]
      go_wp2_with (with_reducible refine wpList_load_mid rfl 35 _ rfl b (off + m * 11) rfl _ _ HC.out Tryz.underlying35 rfl (by kernel_rfl) ?_)
      refine (put1_calls _ x name _ ⟨_, _, rfl, HKX.out⟩).mono ?_
      rintro e w2 ⟨n, rfl, hn, hb⟩
      obtain ⟨q, hq⟩ : ∃ q, ltS x.name name = q := ⟨_, rfl⟩
      rw [hq] at hn
      have HQ := Lib.hid hq
      have HB2 := Lib.hid (Below.then HB.out hb)
      clear hb hq
      cases q with
      | true =>
        have HLO2 : Hid (∀ j, (hj : j < l.length) → j < m + 1 → ltS l[j].name name = true) := fun j hj h => up_at HUP.out (show j ≤ m by omega) hml (by rw [HX.out]; exact HQ.out)
        go_wp2
        go_roundw
        case rel => exact ⟨m + 1, hi, by go_num, rfl, by omega, hhl, HLO2.out, HHI.out, HB2.out⟩
        case measure => simp [intOf]; omega
      | false =>
        have HHI2 : Hid (∀ j, (hj : j < l.length) → m ≤ j → ltS l[j].name name = false) := fun j hj h => by
          cases e : ltS l[j].name name with
          | false => rfl
          | true =>
            have := up_at HUP.out h hj e
            rw [HX.out, HQ.out] at this
            cases this
        go_wp2
        go_roundw
        case rel => exact ⟨lo, m, rfl, by go_num, hm1, by omega, HLO.out, HHI2.out, HB2.out⟩
        case measure => simp [intOf]; omega
    · obtain rfl : hi = lo := by omega
      by_cases hil : hi < l.length
      · obtain ⟨b, off, cs, rfl, hn, hc⟩ := HS.out.bothM HB.out hi hil
        obtain ⟨x, hx⟩ : ∃ x, l[hi] = x := ⟨_, rfl⟩
        rw [hx] at hn
        have HKX := Lib.hid hn
        obtain ⟨B1, d1, B2, d2, B3, d3, B4, d4, rfl, -⟩ := hn
        have HC : Hid (wr.rangeAt b (off + hi * 11) _) := hc
        have b3 : (0 : Int) ≤ (hi : Int) := by omega
        have b4 : (hi : Int) < (l.length : Int) := by omega
        have g0 : decide ((hi : Int) < (l.length : Int)) = true := decide_eq_true b4
        have g1 : decide (hi < l.length) = true := decide_eq_true hil
        have q0 : wr.cell? ⟨b, off + hi * 11, none⟩ = some (.string x.name) := hc 0 _ rfl
        have q1 : wr.cell? ⟨b, off + hi * 11 + 1, none⟩ = some (.string x.owner) := hc 1 _ rfl
        have q2 : wr.cell? ⟨b, off + hi * 11 + 2, none⟩ = some (.int .i64 x.prio) := hc 2 _ rfl
        have q3 : wr.cell? ⟨b, off + hi * 11 + 3, none⟩ = some (.slice B1 x.need.length d1) := hc 3 _ rfl
        have q4 : wr.cell? ⟨b, off + hi * 11 + 4, none⟩ = some (.slice B2 x.labels.length d2) := hc 4 _ rfl
        have q5 : wr.cell? ⟨b, off + hi * 11 + 5, none⟩ = some (.slice B3 x.sel.length d3) := hc 5 _ rfl
        have q6 : wr.cell? ⟨b, off + hi * 11 + 6, none⟩ = some (.slice B4 x.tols.length d4) := hc 6 _ rfl
        have q7 : wr.cell? ⟨b, off + hi * 11 + 7, none⟩ = some (.string x.key) := hc 7 _ rfl
        have q8 : wr.cell? ⟨b, off + hi * 11 + 8, none⟩ = some (.int .i64 x.most) := hc 8 _ rfl
        have q9 : wr.cell? ⟨b, off + hi * 11 + 9, none⟩ = some (.string x.node) := hc 9 _ rfl
        have q10 : wr.cell? ⟨b, off + hi * 11 + 10, none⟩ = some (.bool x.hold) := hc 10 _ rfl
        clear hc hx HC
        go_wp2_with fail
        refine (put1_calls _ x name _ ⟨_, _, rfl, HKX.out⟩).mono ?_
        rintro e w2 ⟨n, rfl, hn, hb⟩
        have HB2 := Lib.hid (Below.then HB.out hb)
        clear hb hn
        go_wp2
        go_ret2
        exact ⟨hi, _, rfl, hhl, HLO.out, (fun hk => HHI.out hi hk (Nat.le_refl _)), HB2.out⟩
      · go_wp2
        go_ret2
        exact ⟨hi, _, rfl, hhl, HLO.out, (fun hk => HHI.out hi hk (Nat.le_refl _)), HB.out⟩
theorem vw_low {W w2 w4 : World} {M : List Nat} (hle : (vw W M).le (vw w2 M)) (hb : Below W.heap.size w2 w4) : (vw W M).le (vw w4 M) := fun b o h => by
  obtain ⟨h1, h2⟩ := vw_eq h
  obtain ⟨-, h4⟩ := vw_eq (hle b o h)
  exact vw_mk h1 ((hb.block b (blk_lt h2)).trans h4)
theorem Insert_calls (base n c i vb : Nat) (A : Option Addr) (T : TypeId) (xs cx : List Value) (w : World) (hown : w.ownsRow base 35 11 (.slice A n c) n xs) (hi : i ≤ n) (hcx : cx.length = 11) (h1 : ∀ u ∈ xs, u.oneCell' = true) (h1x : ∀ u ∈ cx, u.oneCell' = true)
    (hvb : w.heap[vb]? = some (.cells cx.toArray T (0, 0))) (hne : ∀ q, (Value.slice A n c).ownBlock = some q → vb ≠ q) (hb : base ≤ w.heap.size) (hn : n ≤ 1000) :
    Calls Tryz.prog 121 #[.slice A n c, .int .i64 i, .slice (some ⟨vb, 0, none⟩) 1 1] w (InsDone base n (xs.take (i * 11) ++ cx ++ xs.drop (i * 11)) w) := by
  by_cases e : i = n
  · subst e
    have hx := hown.1
    rw [← hx, List.take_length, List.drop_length, List.append_nil]
    exact Insert_end base i c vb A T xs cx w hown hcx h1x hvb hb hn
  · rcases hown.2 with ⟨e1, e2⟩ | ⟨g, cap, cur, e1, -⟩
    · omega
    · cases e1
      by_cases hr : n + 1 ≤ c
      · exact Insert_shift base g n c i vb T xs cx w hown (by omega) hr hcx h1 h1x hvb (hne g rfl)
      · exact Insert_grow base g n c i vb T xs cx w hown (by omega) (by omega) hcx h1 h1x hvb hb hn
theorem pods_one {w : World} {M : List Nat} {css : List (List Value)} {l : List Pd} (h1 : css.length = l.length) (h2 : ∀ (j : Nat) (x : Pd), l[j]? = some x → ∃ cs, css[j]? = some cs ∧ Kd.pod.K (vw w M) x cs) : ∀ u ∈ css.flatten, u.oneCell' = true := fun u hu => by
  obtain ⟨c, hc, hu⟩ := List.mem_flatten.1 hu
  obtain ⟨j, hj, rfl⟩ := List.getElem_of_mem hc
  obtain ⟨cs, a, b⟩ := h2 j l[j] (List.getElem?_eq_getElem (by omega))
  rw [List.getElem?_eq_getElem hj] at a
  cases a
  exact pod_ones _ _ _ b u hu
theorem row_ins {w0 w : World} {M : List Nat} {base n k : Nat} {v : Value} {css : List (List Value)} {cx : List Value} {l : List Pd} {p : Pd} (h1 : css.length = l.length) (h2 : ∀ (j : Nat) (x : Pd), l[j]? = some x → ∃ cs, css[j]? = some cs ∧ Kd.pod.K (vw w0 M) x cs) (hk : k ≤ l.length) (hp : Kd.pod.K (vw w0 M) p cx) (hn : l.length = n)
    (h : w.ownsRow base 35 11 v (n + 1) (css.flatten.take (k * 11) ++ cx ++ css.flatten.drop (k * 11))) : Kd.pod.Row0 w0 M w base 35 v (l.take k ++ p :: l.drop k) := by
  have hlen := Kd.Piece.len_lists h1 h2
  refine ⟨css.take k ++ cx :: css.drop k, by simp [h1], fun j x hx => ?_, ?_⟩
  · rcases Nat.lt_or_ge j k with hj | hj
    · rw [List.getElem?_append_left (by rw [List.length_take]; omega), List.getElem?_take, if_pos hj] at hx
      obtain ⟨cs, a, b⟩ := h2 j x hx
      exact ⟨cs, by rw [List.getElem?_append_left (by rw [List.length_take]; omega), List.getElem?_take, if_pos hj]; exact a, b⟩
    · rw [List.getElem?_append_right (by rw [List.length_take]; omega), List.length_take, Nat.min_eq_left hk] at hx
      rw [List.getElem?_append_right (by rw [List.length_take]; omega), List.length_take, Nat.min_eq_left (by omega)]
      rcases Nat.eq_zero_or_pos (j - k) with h0 | h0
      · rw [h0] at hx ⊢
        simp only [List.getElem?_cons_zero, Option.some.injEq] at hx
        subst hx
        exact ⟨cx, rfl, hp⟩
      · obtain ⟨t, ht⟩ : ∃ t, j - k = t + 1 := ⟨j - k - 1, by omega⟩
        rw [ht, List.getElem?_cons_succ, List.getElem?_drop] at hx
        rw [ht, List.getElem?_cons_succ, List.getElem?_drop]
        exact h2 _ x hx
  · have e : (css.take k ++ cx :: css.drop k).flatten = css.flatten.take (k * 11) ++ cx ++ css.flatten.drop (k * 11) := by
      rw [List.flatten_append, List.flatten_cons, flat_take hlen (by omega), flat_drop hlen (by omega), List.append_assoc]; rfl
    rw [e]
    have hl : (l.take k ++ p :: l.drop k).length = n + 1 := by rw [List.length_append, List.length_cons, List.length_take, List.length_drop]; omega
    rw [hl]
    exact h
theorem Kd.Row0.S2 {α : Type} {d : Kd α} {w0 w : World} {M : List Nat} {base : Nat} {e : TypeId} {v : Value} {xs : List α} (h : d.Row0 w0 M w base e v xs) (hle : (vw w0 M).le (vw w M)) (hM : ∀ b ∈ M, b < base) (hx : xs.length ≤ 140737488351232) : d.S (vw w M) v xs := by
  rcases h.form with ⟨rfl, rfl⟩ | ⟨g, cap, css, rfl, hg, hc1, hc2, hcl, hr, hk⟩
  · exact Kd.S.nil _ _
  · refine Rw.S (d := d) (fun hm => by have := hM _ hm; omega) hr (by omega) (fun t ht => ?_) hc1 hx
    obtain ⟨cs, a, b⟩ := hk t xs[t] (List.getElem?_eq_getElem ht)
    rw [List.getElem?_eq_getElem (by omega)] at a
    cases a
    exact d.mono hle b
set_option maxHeartbeats 8000000 in
set_option maxRecDepth 100000 in
theorem Put_calls (vs vp : Value) (s : St) (p : Pd) (w : World) {M : List Nat} (hs : Kd.state.V (vw w M) vs s) (hp : Kd.pod.V (vw w M) vp p) (hl : s.pods.length ≤ 900) (hup : UpN Pd.name s.pods) (hM : ∀ b ∈ M, b < w.heap.size := by simp) :
    Calls Tryz.prog 47 #[vs, vp] w (StDone M (putS s p) w) := by
  obtain ⟨cs, rfl, hks⟩ := hs
  obtain ⟨cp, rfl, hkp⟩ := hp
  have HKS := Lib.hid hks
  have HKP := Lib.hid hkp
  obtain ⟨A1, c1, A2, c2, A3, c3, rfl, -⟩ := hks
  obtain ⟨P1, p1, P2, p2, P3, p3, P4, p4, rfl, -⟩ := hkp
  have HUP : Hid (UpN Pd.name (dropS s p.name).pods) := hup.sublist List.filter_sublist
  have hdl : (dropS s p.name).pods.length ≤ s.pods.length := List.length_filter_le _ _
  clear hup
  go_enter Tryz.func47, Tryz.ntmps47
  go_upto_region 1 with fail
  obtain ⟨W, hW, hbw, k1, k2, k3, hWs⟩ := al3 w (.cells #[.slice A1 s.nodes.length c1, .slice A2 s.pods.length c2, .slice A3 s.budgets.length c3] 26) (.cells #[.string p.name, .string p.owner, .int .i64 p.prio, .slice P1 p.need.length p1, .slice P2 p.labels.length p2, .slice P3 p.sel.length p3, .slice P4 p.tols.length p4, .string p.key, .int .i64 p.most, .string p.node, .bool p.hold] 35) (.cells #[.slice none 0 0, .slice none 0 0, .slice none 0 0] 26)
  rw [← hW]
  have HBW := Lib.hid hbw
  have HK := Lib.hid (And.intro k1 (And.intro k2 k3))
  have hgr : ∀ b ∈ w.heap.size :: (w.heap.size + 1 + 1) :: M, b ∈ M ∨ w.heap.size ≤ b := fun b hb => by
    rcases List.mem_cons.1 hb with rfl | hb
    · exact .inr (Nat.le_refl _)
    · rcases List.mem_cons.1 hb with rfl | hb
      · exact .inr (by omega)
      · exact .inl hb
  have HKP2 := Lib.hid (Kd.pod.mono (vw_grow hbw hgr) HKP.out)
  have HV : Hid (Kd.state.V (vw W (w.heap.size :: (w.heap.size + 1 + 1) :: M)) (.agg #[.slice A1 s.nodes.length c1, .slice A2 s.pods.length c2, .slice A3 s.budgets.length c3]) s) := ⟨_, rfl, Kd.state.mono (vw_grow hbw hgr) HKS.out⟩
  have HM2 : Hid (∀ b ∈ w.heap.size :: (w.heap.size + 1 + 1) :: M, b < W.heap.size) := fun b hb => by
    rcases List.mem_cons.1 hb with rfl | hb
    · omega
    · rcases List.mem_cons.1 hb with rfl | hb
      · omega
      · have := hM b hb; omega
  obtain ⟨z, zf⟩ := blk_all k1
  obtain ⟨y, yf⟩ := blk_all k2
  clear hW hbw k1 k2 k3 hgr
  go_wp2_with fail
  refine (Drop_new _ s p.name _ HV.out (by omega)).mono ?_
  rintro e w1 ⟨D1, e1, dv, D3, e3, rfl, t1, t3, hrow, hb⟩
  obtain ⟨n, hn⟩ : ∃ n, (dropS s p.name).pods.length = n := ⟨_, rfl⟩
  have hput : (putS s p).pods = insN p (dropS s p.name).pods := rfl
  obtain ⟨l, hld⟩ : ∃ l, (dropS s p.name).pods = l := ⟨_, rfl⟩
  rw [hld] at hn hrow hput hdl HUP
  obtain ⟨css, hcl, hck, hown⟩ := hrow
  rw [hn] at hown
  obtain ⟨A, c, rfl⟩ := Kd.row_form0 hown
  have HPUT := Lib.hid hput
  have T1 := Lib.hid t1
  have T3 := Lib.hid t3
  have HCL := Lib.hid hcl
  have HCK := Lib.hid hck
  have HOW := Lib.hid hown
  have HN := Lib.hid hn
  have hbs := hb.size
  have q1 := (hb.block _ (blk_lt HK.out.1)).trans HK.out.1
  have q2 := (hb.block _ (blk_lt HK.out.2.1)).trans HK.out.2.1
  have q3 := (hb.block _ (blk_lt HK.out.2.2)).trans HK.out.2.2
  have HQ1 := Lib.hid q1
  have HQ2 := Lib.hid q2
  have HQ3 := Lib.hid q3
  have HB1 := Lib.hid hb
  clear z zf y yf hb t1 t3 hcl hck hown hld hput
  obtain ⟨z, zf⟩ := blk_all q1
  clear q1 q2 q3
  go_upto_region 2 with fail
  rw [show (((w1.setCell ⟨w.heap.size, 0, none⟩ (.slice D1 s.nodes.length e1)).setCell ⟨w.heap.size, 1, none⟩ (.slice A n c)).setCell ⟨w.heap.size, 2, none⟩ (.slice D3 s.budgets.length e3)) = w1.setCells w.heap.size 0 [.slice D1 s.nodes.length e1, .slice A n c, .slice D3 s.budgets.length e3] from rfl]
  have kU := setCells_all (cs := [.slice D1 s.nodes.length e1, .slice A n c, .slice D3 s.budgets.length e3]) HQ1.out rfl
  have kU2 := (setCells_far w.heap.size [.slice D1 s.nodes.length e1, .slice A n c, .slice D3 s.budgets.length e3] 0 w1 (w.heap.size + 1) (by omega)).trans HQ2.out
  have kU3 := (setCells_far w.heap.size [.slice D1 s.nodes.length e1, .slice A n c, .slice D3 s.budgets.length e3] 0 w1 (w.heap.size + 1 + 1) (by omega)).trans HQ3.out
  have hle : (vw W (w.heap.size :: (w.heap.size + 1 + 1) :: M)).le (vw (w1.setCells w.heap.size 0 [.slice D1 s.nodes.length e1, .slice A n c, .slice D3 s.budgets.length e3]) (w.heap.size :: (w.heap.size + 1 + 1) :: M)) := View.le_trans (vw_below HB1.out) (vw_setCells (List.mem_cons_self ..) _ _)
  have hown := own_setCells (b := w.heap.size) (by omega) [.slice D1 s.nodes.length e1, .slice A n c, .slice D3 s.budgets.length e3] 0 HOW.out
  have hbu : Below w.heap.size w (w1.setCells w.heap.size 0 [.slice D1 s.nodes.length e1, .slice A n c, .slice D3 s.budgets.length e3]) := Below.setCells (Below.then HBW.out HB1.out) (Nat.le_refl _) _ _
  have hus : W.heap.size ≤ (w1.setCells w.heap.size 0 [.slice D1 s.nodes.length e1, .slice A n c, .slice D3 s.budgets.length e3]).heap.size := by rw [setCells_size]; exact hbs
  generalize w1.setCells w.heap.size 0 [.slice D1 s.nodes.length e1, .slice A n c, .slice D3 s.budgets.length e3] = U at kU kU2 kU3 hle hown hbu hus ⊢
  have HKU := Lib.hid (And.intro kU (And.intro kU2 kU3))
  have HLE := Lib.hid hle
  have HOU := Lib.hid hown
  have HBU := Lib.hid hbu
  have HSU : Hid (Kd.pod.S (vw U (w.heap.size :: (w.heap.size + 1 + 1) :: M)) (.slice A n c) l) := by
    have hr : Kd.pod.Row0 W (w.heap.size :: (w.heap.size + 1 + 1) :: M) U W.heap.size 35 (.slice A n c) l := ⟨css, HCL.out, HCK.out, by rw [HN.out]; exact hown⟩
    exact hr.S2 hle HM2.out (by omega)
  clear z zf HQ1 HQ2 HQ3 HOW HB1 hle hown hbu
  obtain ⟨z, zf⟩ := blk_all kU
  obtain ⟨y, yf⟩ := blk_all kU2
  clear kU kU2 kU3
  go_wp2_with fail
  refine (search_calls _ l p.name _ HSU.out (by omega) HUP.out).mono ?_
  rintro e w2 ⟨k, b, rfl, hkl, hk1, hk2, hb⟩
  have HINS : Hid (insN p l = l.take k ++ p :: l.drop k) := insN_at hkl hk1 hk2
  have hl2 := blk_lt HKU.out.1
  replace HKU := Lib.hid (And.intro ((hb.block _ (blk_lt HKU.out.1)).trans HKU.out.1) (And.intro ((hb.block _ (blk_lt HKU.out.2.1)).trans HKU.out.2.1) ((hb.block _ (blk_lt HKU.out.2.2)).trans HKU.out.2.2)))
  replace HLE := Lib.hid (View.le_trans HLE.out (vw_below hb))
  replace HOU := Lib.hid (own_below HOU.out hb)
  replace HBU := Lib.hid (Below.then HBU.out hb)
  have h2s := hb.size
  clear z zf y yf hb hk1 hk2 HSU
  obtain ⟨z, zf⟩ := blk_all HKU.out.1
  obtain ⟨y, yf⟩ := blk_all HKU.out.2.1
  have hal := alloc_below w2 (.cells #[.string p.name, .string p.owner, .int .i64 p.prio, .slice P1 p.need.length p1, .slice P2 p.labels.length p2, .slice P3 p.sel.length p3, .slice P4 p.tols.length p4, .string p.key, .int .i64 p.most, .string p.node, .bool p.hold] 35)
  have HA4 : Hid (∀ q, (Value.slice A n c).ownBlock = some q → w2.heap.size ≠ q) := fun q hq => by
    have := (HOU.out.lt q hq).2
    omega
  have HAL := Lib.hid hal
  clear hal
  go_wp2_with fail
  refine (Insert_calls W.heap.size n c k w2.heap.size A 35 _ _ _ (own_below HOU.out HAL.out) (by have := HN.out; omega) rfl (pods_one HCL.out HCK.out) (pod_ones _ _ _ HKP2.out) (blk_last w2 _) HA4.out (by have := HAL.out.size; omega) (by have := HN.out; omega)).mono ?_
  rintro e w4 ⟨v', rfl, ho4, hb4⟩
  have hr4 : Kd.pod.Row0 W (w.heap.size :: (w.heap.size + 1 + 1) :: M) w4 W.heap.size 35 v' (insN p l) := by
    rw [HINS.out]
    exact row_ins HCL.out HCK.out hkl HKP2.out HN.out ho4
  have hle4 : (vw W (w.heap.size :: (w.heap.size + 1 + 1) :: M)).le (vw w4 (w.heap.size :: (w.heap.size + 1 + 1) :: M)) := vw_low (View.le_trans HLE.out (vw_below HAL.out)) hb4
  have hll : (insN p l).length = n + 1 := by rw [(insN_perm p l).length_eq, List.length_cons]; have := HN.out; omega
  obtain ⟨G, gc, rfl⟩ := Kd.row_form0 ho4
  have hk4 := HKU.out
  have q1 := ((hb4.block _ (by have := HAL.out.size; omega)).trans (HAL.out.block _ (blk_lt hk4.1))).trans hk4.1
  have q3 := ((hb4.block _ (by omega)).trans (HAL.out.block _ (blk_lt hk4.2.2))).trans hk4.2.2
  have hbw4 : Below w.heap.size w w4 := (Below.then HBU.out HAL.out).trans (hb4.mono (by omega))
  have HR4 := Lib.hid hr4
  have HL4 := Lib.hid hle4
  have HLL := Lib.hid hll
  have HB4 := Lib.hid hbw4
  have HQ1 := Lib.hid q1
  have HQ3 := Lib.hid q3
  clear z zf y yf ho4 hb4 hr4 hle4 hll hk4 hbw4 HA4 HAL HKU HOU
  obtain ⟨z, zf⟩ := blk_all q1
  obtain ⟨y, yf⟩ := blk_all q3
  clear q1 q3
  go_upto_region 4 with fail
  have kV1 := blk_set (j := 1) HQ1.out (.slice G (n + 1) gc)
  have kV3 := (Below.heap_setCell w4 ⟨w.heap.size, 1, none⟩ (.slice G (n + 1) gc) (w.heap.size + 1 + 1) (by show w.heap.size + 1 + 1 ≠ w.heap.size; omega)).trans HQ3.out
  have hR5 := HR4.out.setCell (p := ⟨w.heap.size, 1, none⟩) (by show w.heap.size < W.heap.size; omega) (.slice G (n + 1) gc)
  have hL5 : (vw W (w.heap.size :: (w.heap.size + 1 + 1) :: M)).le (vw (w4.setCell ⟨w.heap.size, 1, none⟩ (.slice G (n + 1) gc)) (w.heap.size :: (w.heap.size + 1 + 1) :: M)) := View.le_trans HL4.out (vw_setCells (List.mem_cons_self ..) [.slice G (n + 1) gc] 1)
  have hB5 : Below w.heap.size w (w4.setCell ⟨w.heap.size, 1, none⟩ (.slice G (n + 1) gc)) := Below.setCell HB4.out (p := ⟨w.heap.size, 1, none⟩) (Nat.le_refl _) _
  generalize w4.setCell ⟨w.heap.size, 1, none⟩ (.slice G (n + 1) gc) = V at kV1 kV3 hR5 hL5 hB5 ⊢
  have HR5 := Lib.hid hR5
  have HL5 := Lib.hid hL5
  have HB5 := Lib.hid hB5
  have HQ5 := Lib.hid kV3
  clear z zf y yf HR4 HL4 HB4 HQ1 HQ3 hR5 hL5 hB5
  have kV1' : V.heap[w.heap.size]? = some (.cells #[.slice D1 s.nodes.length e1, .slice G (n + 1) gc, .slice D3 s.budgets.length e3] 26 (0, 0)) := kV1
  obtain ⟨z, zf⟩ := blk_all kV1'
  obtain ⟨y, yf⟩ := blk_all kV3
  clear kV1 kV1' kV3
  go_wp2
  rw [show (((V.setCell ⟨w.heap.size + 1 + 1, 0, none⟩ (.slice D1 s.nodes.length e1)).setCell ⟨w.heap.size + 1 + 1, 1, none⟩ (.slice G (n + 1) gc)).setCell ⟨w.heap.size + 1 + 1, 2, none⟩ (.slice D3 s.budgets.length e3)) = V.setCells (w.heap.size + 1 + 1) 0 [.slice D1 s.nodes.length e1, .slice G (n + 1) gc, .slice D3 s.budgets.length e3] from rfl]
  have hset := setCells_all (cs := [.slice D1 s.nodes.length e1, .slice G (n + 1) gc, .slice D3 s.budgets.length e3]) HQ5.out rfl
  have hlf : (vw W (w.heap.size :: (w.heap.size + 1 + 1) :: M)).le (vw (V.setCells (w.heap.size + 1 + 1) 0 [.slice D1 s.nodes.length e1, .slice G (n + 1) gc, .slice D3 s.budgets.length e3]) (w.heap.size :: (w.heap.size + 1 + 1) :: M)) := View.le_trans HL5.out (vw_setCells (List.mem_cons_of_mem _ (List.mem_cons_self ..)) _ _)
  have hrf : Kd.pod.Row0 W (w.heap.size :: (w.heap.size + 1 + 1) :: M) (V.setCells (w.heap.size + 1 + 1) 0 [.slice D1 s.nodes.length e1, .slice G (n + 1) gc, .slice D3 s.budgets.length e3]) W.heap.size 35 (.slice G (n + 1) gc) (insN p l) := by
    obtain ⟨css5, a1, a2, a3⟩ := HR5.out
    exact ⟨css5, a1, a2, own_setCells (by omega) _ _ a3⟩
  have hsf := hrf.S2 hlf HM2.out (by have := HLL.out; have := HN.out; omega)
  have hMM : (vw (V.setCells (w.heap.size + 1 + 1) 0 [.slice D1 s.nodes.length e1, .slice G (n + 1) gc, .slice D3 s.budgets.length e3]) (w.heap.size :: (w.heap.size + 1 + 1) :: M)).le (vw (V.setCells (w.heap.size + 1 + 1) 0 [.slice D1 s.nodes.length e1, .slice G (n + 1) gc, .slice D3 s.budgets.length e3]) M) := vw_sub (fun b hb => List.mem_cons_of_mem _ (List.mem_cons_of_mem _ hb))
  refine ret_row1 (cs := [.slice D1 s.nodes.length e1, .slice G (n + 1) gc, .slice D3 s.budgets.length e3]) rfl rfl hset Tryz.underlying26 rfl (by kernel_rfl) rfl ⟨_, rfl, ⟨D1, e1, G, gc, D3, e3, ?_, (T1.out.mono hlf).mono hMM, ?_, (T3.out.mono hlf).mono hMM⟩, Below.setCells HB5.out (by omega) _ _⟩
  · rw [HPUT.out, HLL.out]; rfl
  · rw [HPUT.out, HLL.out]; exact hsf.mono hMM
end Go.Proofs.YtnmhicgbdalniaaGreatDoor
namespace Go.Proofs.YtnmhicgbdalniaaGreatDoor
open Go.RowKit

/-! 'x, y := f(..), g(..)' of structs, the calls in any order, the variables in memory of their own. -/
/-- What there is, whatever has been done of it: c: called, a: the variable made, t: written. -/
def PairJ {α β : Type} (d1 : Kd α) (x : α) (T1 : TypeId) (d2 : Kd β) (y : β) (T2 : TypeId) (w : World) (c1 c2 a1 a2 t1 t2 : Bool) (v1 v2 p1 p2 : Value) (W : World) : Prop :=
  Below w.heap.size w W ∧ ∃ (M : List Nat) (b1 b2 : Nat), (∀ k, k ∈ M → k < W.heap.size) ∧
    (c1 = true → ∃ cs : List Value, v1 = .agg cs.toArray ∧ d1.K (vw W M) x cs) ∧
    (c2 = true → ∃ cs : List Value, v2 = .agg cs.toArray ∧ d2.K (vw W M) y cs) ∧
    (a1 = true → p1 = .pointer (some ⟨b1, 0, none⟩) ∧ w.heap.size ≤ b1 ∧ b1 ∈ M ∧ ∃ old : List Value, old.length = d1.sz ∧ W.heap[b1]? = some (.cells old.toArray T1 (0, 0))) ∧
    (a2 = true → p2 = .pointer (some ⟨b2, 0, none⟩) ∧ w.heap.size ≤ b2 ∧ b2 ∈ M ∧ ∃ old : List Value, old.length = d2.sz ∧ W.heap[b2]? = some (.cells old.toArray T2 (0, 0))) ∧
    (a1 = true → a2 = true → b1 ≠ b2) ∧
    (t1 = true → ∃ cs : List Value, v1 = .agg cs.toArray ∧ W.heap[b1]? = some (.cells cs.toArray T1 (0, 0))) ∧
    (t2 = true → ∃ cs : List Value, v2 = .agg cs.toArray ∧ W.heap[b2]? = some (.cells cs.toArray T2 (0, 0)))
section
variable {α β : Type} {d1 : Kd α} {x : α} {T1 : TypeId} {d2 : Kd β} {y : β} {T2 : TypeId} {w W : World} {c1 c2 a1 a2 t1 t2 : Bool} {v1 v2 p1 p2 : Value}
theorem PairJ.start (h : Below w.heap.size w W) : PairJ d1 x T1 d2 y T2 w false false false false false false v1 v2 p1 p2 W :=
  ⟨h, [], 0, 0, (fun k hk => by simp at hk), (fun e => by cases e), (fun e => by cases e), (fun e => by cases e), (fun e => by cases e), (fun e => by cases e), (fun e => by cases e), (fun e => by cases e)⟩
theorem PairJ.bel (h : PairJ d1 x T1 d2 y T2 w c1 c2 a1 a2 t1 t2 v1 v2 p1 p2 W) : Below w.heap.size w W := h.1
theorem PairJ.call1 (h : PairJ d1 x T1 d2 y T2 w c1 c2 a1 a2 t1 t2 v1 v2 p1 p2 W) (ht : t1 = false) {W' : World} (hb : Below W.heap.size W W') {cs : List Value} (hk : d1.K (nx W' W.heap.size none) x cs) :
    PairJ d1 x T1 d2 y T2 w true c2 a1 a2 t1 t2 (.agg cs.toArray) v2 p1 p2 W' := by
  subst ht
  obtain ⟨h0, M, b1, b2, hM, -, k2, l1, l2, ne, -, s2⟩ := h
  refine ⟨Below.then h0 hb, M, b1, b2, fun k hk => Nat.lt_of_lt_of_le (hM k hk) hb.size, fun _ => ⟨cs, rfl, d1.mono (nx_vw (fun k hk => .inl (hM k hk))) hk⟩, fun e => ?_, fun e => ?_, fun e => ?_, ne, (fun e => by cases e), fun e => ?_⟩
  · obtain ⟨c, e1, e2⟩ := k2 e
    exact ⟨c, e1, d2.mono (vw_below hb) e2⟩
  · obtain ⟨e1, e2, e3, old, e4, e5⟩ := l1 e
    exact ⟨e1, e2, e3, old, e4, (hb.block _ (hM _ e3)).trans e5⟩
  · obtain ⟨e1, e2, e3, old, e4, e5⟩ := l2 e
    exact ⟨e1, e2, e3, old, e4, (hb.block _ (hM _ e3)).trans e5⟩
  · obtain ⟨c, e1, e2⟩ := s2 e
    exact ⟨c, e1, (hb.block _ (blk_lt e2)).trans e2⟩
theorem PairJ.swap (h : PairJ d1 x T1 d2 y T2 w c1 c2 a1 a2 t1 t2 v1 v2 p1 p2 W) : PairJ d2 y T2 d1 x T1 w c2 c1 a2 a1 t2 t1 v2 v1 p2 p1 W := by
  obtain ⟨h0, M, b1, b2, hM, k1, k2, l1, l2, ne, s1, s2⟩ := h
  exact ⟨h0, M, b2, b1, hM, k2, k1, l2, l1, fun e1 e2 => Ne.symm (ne e2 e1), s2, s1⟩
theorem PairJ.call2 (h : PairJ d1 x T1 d2 y T2 w c1 c2 a1 a2 t1 t2 v1 v2 p1 p2 W) (ht : t2 = false) {W' : World} (hb : Below W.heap.size W W') {cs : List Value} (hk : d2.K (nx W' W.heap.size none) y cs) :
    PairJ d1 x T1 d2 y T2 w c1 true a1 a2 t1 t2 v1 (.agg cs.toArray) p1 p2 W' := (h.swap.call1 ht hb hk).swap
theorem PairJ.alloc1 (h : PairJ d1 x T1 d2 y T2 w c1 c2 a1 a2 t1 t2 v1 v2 p1 p2 W) (ha : a1 = false) (ht : t1 = false) {old : List Value} (ho : old.length = d1.sz) :
    PairJ d1 x T1 d2 y T2 w c1 c2 true a2 t1 t2 v1 v2 (.pointer (some ⟨W.heap.size, 0, none⟩)) p2 (W.alloc (.cells old.toArray T1)) := by
  subst ha ht
  obtain ⟨h0, M, b1, b2, hM, k1, k2, -, l2, -, -, s2⟩ := h
  have hb := alloc_below W (.cells old.toArray T1)
  have hv : (vw W M).le (vw (W.alloc (.cells old.toArray T1)) (W.heap.size :: M)) := vw_grow hb (fun b e => by
    rcases List.mem_cons.1 e with rfl | e
    · exact .inr (Nat.le_refl _)
    · exact .inl e)
  refine ⟨Below.then h0 hb, W.heap.size :: M, W.heap.size, b2, fun k hk => ?_, fun e => ?_, fun e => ?_, fun _ => ⟨rfl, h0.size, List.mem_cons_self .., old, ho, blk_last _ _⟩, fun e => ?_, fun _ e => ?_, (fun e => by cases e), fun e => ?_⟩
  · have hsz : (W.alloc (.cells old.toArray T1)).heap.size = W.heap.size + 1 := by simp
    rcases List.mem_cons.1 hk with rfl | hk
    · omega
    · have := hM k hk
      omega
  · obtain ⟨c, e1, e2⟩ := k1 e
    exact ⟨c, e1, d1.mono hv e2⟩
  · obtain ⟨c, e1, e2⟩ := k2 e
    exact ⟨c, e1, d2.mono hv e2⟩
  · obtain ⟨e1, e2, e3, o2, e4, e5⟩ := l2 e
    exact ⟨e1, e2, List.mem_cons_of_mem _ e3, o2, e4, (hb.block _ (hM _ e3)).trans e5⟩
  · have := hM _ (l2 e).2.2.1
    omega
  · obtain ⟨c, e1, e2⟩ := s2 e
    exact ⟨c, e1, (hb.block _ (blk_lt e2)).trans e2⟩
theorem PairJ.alloc2 (h : PairJ d1 x T1 d2 y T2 w c1 c2 a1 a2 t1 t2 v1 v2 p1 p2 W) (ha : a2 = false) (ht : t2 = false) {old : List Value} (ho : old.length = d2.sz) :
    PairJ d1 x T1 d2 y T2 w c1 c2 a1 true t1 t2 v1 v2 p1 (.pointer (some ⟨W.heap.size, 0, none⟩)) (W.alloc (.cells old.toArray T2)) := (h.swap.alloc1 ha ht ho).swap
/-- The first variable is written: what is at hand, and what comes of it. -/
theorem PairJ.store1 (h : PairJ d1 x T1 d2 y T2 w c1 c2 a1 a2 t1 t2 v1 v2 p1 p2 W) (hc : c1 = true) (ha : a1 = true) (h2 : t2 = true → a2 = true) :
    ∃ (b : Nat) (cs : List Value), v1 = .agg cs.toArray ∧ p1 = .pointer (some ⟨b, 0, none⟩) ∧ cs.length = d1.sz ∧ W.there b 0 cs.length ∧ (∃ k, d1.K k x cs) ∧ PairJ d1 x T1 d2 y T2 w c1 c2 a1 a2 true t2 v1 v2 p1 p2 (W.setCells b 0 cs) := by
  subst hc ha
  obtain ⟨h0, M, b1, b2, hM, k1, k2, l1, l2, ne, -, s2⟩ := h
  obtain ⟨cs, rfl, hk⟩ := k1 rfl
  obtain ⟨rfl, hw, hm, old, ho, hq⟩ := l1 rfl
  have hl := d1.len hk
  have hset := setCells_all (cs := cs) hq (by omega)
  have hsz := setCells_size b1 cs 0 W
  have hv : (vw W M).le (vw (W.setCells b1 0 cs) M) := fun k o hk => by
    obtain ⟨q1, q2⟩ := vw_eq hk
    exact vw_mk q1 ((setCells_far b1 cs 0 W k (fun e => q1 (e ▸ hm))).trans q2)
  refine ⟨b1, cs, rfl, rfl, hl, there_block hq _ (by omega), ⟨_, hk⟩, Below.setCells h0 hw cs 0, M, b1, b2, fun k hk => by rw [hsz]; exact hM k hk, fun _ => ⟨cs, rfl, d1.mono hv hk⟩, fun e => ?_, fun _ => ⟨rfl, hw, hm, cs, hl, hset⟩, fun e => ?_, ne, fun _ => ⟨cs, rfl, hset⟩, fun e => ?_⟩
  · obtain ⟨c, e1, e2⟩ := k2 e
    exact ⟨c, e1, d2.mono hv e2⟩
  · obtain ⟨e1, e2, e3, o2, e4, e5⟩ := l2 e
    exact ⟨e1, e2, e3, o2, e4, (setCells_far b1 cs 0 W b2 (Ne.symm (ne rfl e))).trans e5⟩
  · obtain ⟨c, e1, e2⟩ := s2 e
    exact ⟨c, e1, (setCells_far b1 cs 0 W b2 (Ne.symm (ne rfl (h2 e)))).trans e2⟩
theorem PairJ.store2 (h : PairJ d1 x T1 d2 y T2 w c1 c2 a1 a2 t1 t2 v1 v2 p1 p2 W) (hc : c2 = true) (ha : a2 = true) (h1 : t1 = true → a1 = true) :
    ∃ (b : Nat) (cs : List Value), v2 = .agg cs.toArray ∧ p2 = .pointer (some ⟨b, 0, none⟩) ∧ cs.length = d2.sz ∧ W.there b 0 cs.length ∧ (∃ k, d2.K k y cs) ∧ PairJ d1 x T1 d2 y T2 w c1 c2 a1 a2 t1 true v1 v2 p1 p2 (W.setCells b 0 cs) := by
  obtain ⟨b, cs, e1, e2, e3, e4, e5, e6⟩ := h.swap.store1 hc ha h1
  exact ⟨b, cs, e1, e2, e3, e4, e5, e6.swap⟩
/-- All done. -/
theorem PairJ.done (h : PairJ d1 x T1 d2 y T2 w true true true true true true v1 v2 p1 p2 W) :
    ∃ (b1 b2 : Nat) (cs1 cs2 : List Value), p1 = .pointer (some ⟨b1, 0, none⟩) ∧ p2 = .pointer (some ⟨b2, 0, none⟩) ∧ W.heap[b1]? = some (.cells cs1.toArray T1 (0, 0)) ∧ W.heap[b2]? = some (.cells cs2.toArray T2 (0, 0)) ∧
      d1.K (vw W []) x cs1 ∧ d2.K (vw W []) y cs2 ∧ w.heap.size ≤ b1 ∧ w.heap.size ≤ b2 ∧ b1 ≠ b2 ∧ Below w.heap.size w W := by
  obtain ⟨h0, M, b1, b2, hM, k1, k2, l1, l2, ne, s1, s2⟩ := h
  obtain ⟨cs1, rfl, hk1⟩ := k1 rfl
  obtain ⟨cs2, rfl, hk2⟩ := k2 rfl
  obtain ⟨c1', e1, q1⟩ := s1 rfl
  obtain ⟨c2', e2, q2⟩ := s2 rfl
  injection e1 with e1
  injection e2 with e2
  rw [← e1] at q1
  rw [← e2] at q2
  exact ⟨b1, b2, cs1, cs2, (l1 rfl).1, (l2 rfl).1, q1, q2, d1.mono (vw_sub (by simp)) hk1, d2.mono (vw_sub (by simp)) hk2, (l1 rfl).2.1, (l2 rfl).2.1, ne rfl rfl, h0⟩
end
end Go.Proofs.YtnmhicgbdalniaaGreatDoor
namespace Go.Proofs.YtnmhicgbdalniaaGreatDoor
open Go.RowKit

/-! 'x, ok := f(.., g(..))': one struct, the calls and the making of the variable in any order: PairJ, its second variable never made. -/
section
variable {α β : Type} {d1 : Kd α} {x : α} {T1 : TypeId} {d2 : Kd β} {y : β} {T2 : TypeId} {w W : World} {c1 c2 a1 a2 t1 t2 : Bool} {v1 v2 p1 p2 : Value}
/-- What the second call told. -/
theorem PairJ.arg (h : PairJ d1 x T1 d2 y T2 w c1 c2 a1 a2 t1 t2 v1 v2 p1 p2 W) (hc : c2 = true) : ∃ cs : List Value, v2 = .agg cs.toArray ∧ d2.K (vw W []) y cs := by
  obtain ⟨h0, M, b1, b2, hM, k1, k2, -⟩ := h
  obtain ⟨cs, e1, e2⟩ := k2 hc
  exact ⟨cs, e1, d2.mono (vw_sub (by simp)) e2⟩
/-- A call beside. -/
theorem PairJ.below (h : PairJ d1 x T1 d2 y T2 w c1 c2 a1 a2 t1 t2 v1 v2 p1 p2 W) {W' : World} (hb : Below W.heap.size W W') : PairJ d1 x T1 d2 y T2 w c1 c2 a1 a2 t1 t2 v1 v2 p1 p2 W' := by
  obtain ⟨h0, M, b1, b2, hM, k1, k2, l1, l2, ne, s1, s2⟩ := h
  refine ⟨Below.then h0 hb, M, b1, b2, fun k hk => Nat.lt_of_lt_of_le (hM k hk) hb.size, fun e => ?_, fun e => ?_, fun e => ?_, fun e => ?_, ne, fun e => ?_, fun e => ?_⟩
  · obtain ⟨cs, e1, e2⟩ := k1 e
    exact ⟨cs, e1, d1.mono (vw_below hb) e2⟩
  · obtain ⟨cs, e1, e2⟩ := k2 e
    exact ⟨cs, e1, d2.mono (vw_below hb) e2⟩
  · obtain ⟨e1, e2, e3, old, e4, e5⟩ := l1 e
    exact ⟨e1, e2, e3, old, e4, (hb.block _ (hM _ e3)).trans e5⟩
  · obtain ⟨e1, e2, e3, old, e4, e5⟩ := l2 e
    exact ⟨e1, e2, e3, old, e4, (hb.block _ (hM _ e3)).trans e5⟩
  · obtain ⟨cs, e1, e2⟩ := s1 e
    exact ⟨cs, e1, (hb.block _ (blk_lt e2)).trans e2⟩
  · obtain ⟨cs, e1, e2⟩ := s2 e
    exact ⟨cs, e1, (hb.block _ (blk_lt e2)).trans e2⟩
theorem PairJ.done1 (h : PairJ d1 x T1 d2 y T2 w true c2 true a2 true t2 v1 v2 p1 p2 W) :
    ∃ (b : Nat) (cs : List Value), v1 = .agg cs.toArray ∧ p1 = .pointer (some ⟨b, 0, none⟩) ∧ W.heap[b]? = some (.cells cs.toArray T1 (0, 0)) ∧ d1.K (vw W []) x cs ∧ w.heap.size ≤ b ∧ Below w.heap.size w W := by
  obtain ⟨h0, M, b1, b2, hM, k1, -, l1, -, -, s1, -⟩ := h
  obtain ⟨cs1, rfl, hk1⟩ := k1 rfl
  obtain ⟨c1', e1, q1⟩ := s1 rfl
  injection e1 with e1
  rw [← e1] at q1
  exact ⟨b1, cs1, rfl, (l1 rfl).1, q1, d1.mono (vw_sub (by simp)) hk1, (l1 rfl).2.1, h0⟩
end
end Go.Proofs.YtnmhicgbdalniaaGreatDoor
namespace Go.Proofs.YtnmhicgbdalniaaGreatDoor
open Go.RowKit Go.Sort

/-! known of the ways' laws: the plain part. -/
def k15 : St := ⟨[ndN (tx [97]) 10, ndN (tx [98]) 10], [pdH 0 4 (tx [97]), pdH 1 5 (tx [97]), pdH 2 8 (tx [98]), pdP (tx [120]) 9 ⟨#[]⟩], []⟩
def w15 : Wy := ⟨tx [120], tx [98], [tx [104, 111, 108, 100, 50]]⟩
theorem wy_eq {a b : Wy} (h1 : a.pod = b.pod) (h2 : a.to_ = b.to_) (h3 : a.holds = b.holds) : a = b := by
  cases a; cases b; simp_all
theorem k15_for2 : (forW fitQ k15 (pdP (tx [120]) 9 ⟨#[]⟩)).2 = true := by decide +kernel
theorem k15_for1 : (forW fitQ k15 (pdP (tx [120]) 9 ⟨#[]⟩)).1 = w15 := wy_eq (by decide +kernel) (by decide +kernel) (by decide +kernel)
theorem k15_for : forW fitQ k15 (pdP (tx [120]) 9 ⟨#[]⟩) = (w15, true) := Prod.ext k15_for1 k15_for2
theorem k15_next : nextW fitQ k15 = (w15, true) := Prod.ext (wy_eq (by decide +kernel) (by decide +kernel) (by decide +kernel)) (by decide +kernel)
theorem k15_no : forW fitQ k15 (pdP (tx [121]) 11 ⟨#[]⟩) = (zWy, false) := Prod.ext (wy_eq (by decide +kernel) (by decide +kernel) (by decide +kernel)) (by decide +kernel)
theorem k15_hold : forW fitQ k15 (pdH 9 1 ⟨#[]⟩) = (zWy, false) := Prod.ext (wy_eq (by decide +kernel) (by decide +kernel) (by decide +kernel)) (by decide +kernel)
theorem k15_len : (doW k15 w15).pods.length = 3 := by decide +kernel
theorem k15_at : ∃ h : 2 < (doW k15 w15).pods.length, (doW k15 w15).pods[2].node = tx [98] := ⟨by rw [k15_len]; decide, by decide +kernel⟩
theorem k15_apart : Apart k15.pods := by unfold Apart k15; decide +kernel
end Go.Proofs.YtnmhicgbdalniaaGreatDoor
namespace Go.Proofs.YtnmhicgbdalniaaGreatDoor
open Go.RowKit Go.Sort

/-! Small laws for what the laws' own functions make. -/
theorem Kd.S.cells {α : Type} {d : Kd α} {h : View} {b : Nat} {T : TypeId} {css : List (List Value)} {xs : List α} (hb : h b = some (.cells css.flatten.toArray T (0, 0))) (hl : css.length = xs.length)
    (hk : ∀ (j : Nat) (x : α), xs[j]? = some x → ∃ cs, css[j]? = some cs ∧ d.K h x cs) (hx : xs.length ≤ 140737488351232) : d.S h (.slice (some ⟨b, 0, none⟩) xs.length xs.length) xs := by
  have hlen : ∀ c ∈ css, c.length = d.sz := fun c hc => by
    obtain ⟨j, hj, rfl⟩ := List.getElem_of_mem hc
    obtain ⟨cs, a, b⟩ := hk j xs[j] (List.getElem?_eq_getElem (by omega))
    rw [List.getElem?_eq_getElem hj] at a
    injection a with a
    rw [a]; exact d.len b
  refine ⟨_, _, rfl, Nat.le_refl _, hx, fun e => (by cases e), fun _ => ⟨b, 0, rfl, fun j x hj => ?_⟩⟩
  obtain ⟨cs, a, k⟩ := hk j x hj
  refine ⟨cs, k, fun i u hu => ?_⟩
  have hi : i < d.sz := by have := (List.getElem?_eq_some_iff.1 hu).1; rw [d.len k] at this; exact this
  have h4 := flatten_get css hlen j i cs a hi
  rw [hu] at h4
  simp [View.cell?, hb]
  simpa using h4
theorem sok_small {l : List UInt8} (h : l.length ≤ 50) : sok (tx l) := by
  show (tx l).size ≤ _
  have : (tx l).size = l.length := rfl
  omega
theorem strs_two {w : World} {b : Nat} {a c : ByteArray} {T : TypeId} (h : w.heap[b]? = some (.cells #[.string a, .string c] T (0, 0))) (ha : sok a := by (unfold sok; decide)) (hc : sok c := by (unfold sok; decide)) : Kd.str.S (vw w []) (.slice (some ⟨b, 0, none⟩) 2 2) [a, c] :=
  Kd.S.of_block (f := Value.string) (xs := [a, c]) h (by simp) (by simp) (fun x hx => by
    rcases List.mem_cons.1 hx with rfl | hx
    · exact ha
    · obtain rfl : x = c := by simpa using hx
      exact hc)
theorem Names_same (va vb : Value) (a : List ByteArray) (w : World) (ha : Kd.str.S (vw w []) va a) (hb : Kd.str.S (vw w []) vb a) : Calls Tryz.prog 54 #[va, vb] w (BoolDone true w) :=
  (Names_calls va vb a a w ha hb).mono fun _ _ h => ⟨h.1.trans (by simp), h.2⟩
theorem strs_single {w : World} {b : Nat} {a : ByteArray} {T : TypeId} (h : w.heap[b]? = some (.cells #[.string a] T (0, 0))) (ha : sok a) : Kd.str.S (vw w []) (.slice (some ⟨b, 0, none⟩) 1 1) [a] :=
  Kd.S.of_block (f := Value.string) (xs := [a]) h (by simp) (by simp) (fun x hx => by
    obtain rfl : x = a := by simpa using hx
    exact ha)
theorem list_of2 {α : Type} {l : List α} (h : l.length = 2) : ∃ x0 x1, l = [x0, x1] := by
  obtain _ | ⟨x0, l⟩ := l
  · simp at h
  obtain _ | ⟨x1, l⟩ := l
  · simp at h
  obtain rfl : l = [] := List.eq_nil_of_length_eq_zero (by simpa using h)
  exact ⟨x0, x1, rfl⟩
theorem list_of3 {α : Type} {l : List α} (h : l.length = 3) : ∃ x0 x1 x2, l = [x0, x1, x2] := by
  obtain _ | ⟨x0, l⟩ := l
  · simp at h
  obtain _ | ⟨x1, l⟩ := l
  · simp at h
  obtain _ | ⟨x2, l⟩ := l
  · simp at h
  obtain rfl : l = [] := List.eq_nil_of_length_eq_zero (by simpa using h)
  exact ⟨x0, x1, x2, rfl⟩
theorem list_of4 {α : Type} {l : List α} (h : l.length = 4) : ∃ x0 x1 x2 x3, l = [x0, x1, x2, x3] := by
  obtain _ | ⟨x0, l⟩ := l
  · simp at h
  obtain _ | ⟨x1, l⟩ := l
  · simp at h
  obtain _ | ⟨x2, l⟩ := l
  · simp at h
  obtain _ | ⟨x3, l⟩ := l
  · simp at h
  obtain rfl : l = [] := List.eq_nil_of_length_eq_zero (by simpa using h)
  exact ⟨x0, x1, x2, x3, rfl⟩
theorem list_of5 {α : Type} {l : List α} (h : l.length = 5) : ∃ x0 x1 x2 x3 x4, l = [x0, x1, x2, x3, x4] := by
  obtain _ | ⟨x0, l⟩ := l
  · simp at h
  obtain _ | ⟨x1, l⟩ := l
  · simp at h
  obtain _ | ⟨x2, l⟩ := l
  · simp at h
  obtain _ | ⟨x3, l⟩ := l
  · simp at h
  obtain _ | ⟨x4, l⟩ := l
  · simp at h
  obtain rfl : l = [] := List.eq_nil_of_length_eq_zero (by simpa using h)
  exact ⟨x0, x1, x2, x3, x4, rfl⟩
theorem list_of6 {α : Type} {l : List α} (h : l.length = 6) : ∃ x0 x1 x2 x3 x4 x5, l = [x0, x1, x2, x3, x4, x5] := by
  obtain _ | ⟨x0, l⟩ := l
  · simp at h
  obtain _ | ⟨x1, l⟩ := l
  · simp at h
  obtain _ | ⟨x2, l⟩ := l
  · simp at h
  obtain _ | ⟨x3, l⟩ := l
  · simp at h
  obtain _ | ⟨x4, l⟩ := l
  · simp at h
  obtain _ | ⟨x5, l⟩ := l
  · simp at h
  obtain rfl : l = [] := List.eq_nil_of_length_eq_zero (by simpa using h)
  exact ⟨x0, x1, x2, x3, x4, x5, rfl⟩
theorem list_of7 {α : Type} {l : List α} (h : l.length = 7) : ∃ x0 x1 x2 x3 x4 x5 x6, l = [x0, x1, x2, x3, x4, x5, x6] := by
  obtain _ | ⟨x0, l⟩ := l
  · simp at h
  obtain _ | ⟨x1, l⟩ := l
  · simp at h
  obtain _ | ⟨x2, l⟩ := l
  · simp at h
  obtain _ | ⟨x3, l⟩ := l
  · simp at h
  obtain _ | ⟨x4, l⟩ := l
  · simp at h
  obtain _ | ⟨x5, l⟩ := l
  · simp at h
  obtain _ | ⟨x6, l⟩ := l
  · simp at h
  obtain rfl : l = [] := List.eq_nil_of_length_eq_zero (by simpa using h)
  exact ⟨x0, x1, x2, x3, x4, x5, x6, rfl⟩
theorem list_of8 {α : Type} {l : List α} (h : l.length = 8) : ∃ x0 x1 x2 x3 x4 x5 x6 x7, l = [x0, x1, x2, x3, x4, x5, x6, x7] := by
  obtain _ | ⟨x0, l⟩ := l
  · simp at h
  obtain _ | ⟨x1, l⟩ := l
  · simp at h
  obtain _ | ⟨x2, l⟩ := l
  · simp at h
  obtain _ | ⟨x3, l⟩ := l
  · simp at h
  obtain _ | ⟨x4, l⟩ := l
  · simp at h
  obtain _ | ⟨x5, l⟩ := l
  · simp at h
  obtain _ | ⟨x6, l⟩ := l
  · simp at h
  obtain _ | ⟨x7, l⟩ := l
  · simp at h
  obtain rfl : l = [] := List.eq_nil_of_length_eq_zero (by simpa using h)
  exact ⟨x0, x1, x2, x3, x4, x5, x6, x7, rfl⟩
theorem list_of9 {α : Type} {l : List α} (h : l.length = 9) : ∃ x0 x1 x2 x3 x4 x5 x6 x7 x8, l = [x0, x1, x2, x3, x4, x5, x6, x7, x8] := by
  obtain _ | ⟨x0, l⟩ := l
  · simp at h
  obtain _ | ⟨x1, l⟩ := l
  · simp at h
  obtain _ | ⟨x2, l⟩ := l
  · simp at h
  obtain _ | ⟨x3, l⟩ := l
  · simp at h
  obtain _ | ⟨x4, l⟩ := l
  · simp at h
  obtain _ | ⟨x5, l⟩ := l
  · simp at h
  obtain _ | ⟨x6, l⟩ := l
  · simp at h
  obtain _ | ⟨x7, l⟩ := l
  · simp at h
  obtain _ | ⟨x8, l⟩ := l
  · simp at h
  obtain rfl : l = [] := List.eq_nil_of_length_eq_zero (by simpa using h)
  exact ⟨x0, x1, x2, x3, x4, x5, x6, x7, x8, rfl⟩
theorem list_of10 {α : Type} {l : List α} (h : l.length = 10) : ∃ x0 x1 x2 x3 x4 x5 x6 x7 x8 x9, l = [x0, x1, x2, x3, x4, x5, x6, x7, x8, x9] := by
  obtain _ | ⟨x0, l⟩ := l
  · simp at h
  obtain _ | ⟨x1, l⟩ := l
  · simp at h
  obtain _ | ⟨x2, l⟩ := l
  · simp at h
  obtain _ | ⟨x3, l⟩ := l
  · simp at h
  obtain _ | ⟨x4, l⟩ := l
  · simp at h
  obtain _ | ⟨x5, l⟩ := l
  · simp at h
  obtain _ | ⟨x6, l⟩ := l
  · simp at h
  obtain _ | ⟨x7, l⟩ := l
  · simp at h
  obtain _ | ⟨x8, l⟩ := l
  · simp at h
  obtain _ | ⟨x9, l⟩ := l
  · simp at h
  obtain rfl : l = [] := List.eq_nil_of_length_eq_zero (by simpa using h)
  exact ⟨x0, x1, x2, x3, x4, x5, x6, x7, x8, x9, rfl⟩
theorem list_of11 {α : Type} {l : List α} (h : l.length = 11) : ∃ x0 x1 x2 x3 x4 x5 x6 x7 x8 x9 x10, l = [x0, x1, x2, x3, x4, x5, x6, x7, x8, x9, x10] := by
  obtain _ | ⟨x0, l⟩ := l
  · simp at h
  obtain _ | ⟨x1, l⟩ := l
  · simp at h
  obtain _ | ⟨x2, l⟩ := l
  · simp at h
  obtain _ | ⟨x3, l⟩ := l
  · simp at h
  obtain _ | ⟨x4, l⟩ := l
  · simp at h
  obtain _ | ⟨x5, l⟩ := l
  · simp at h
  obtain _ | ⟨x6, l⟩ := l
  · simp at h
  obtain _ | ⟨x7, l⟩ := l
  · simp at h
  obtain _ | ⟨x8, l⟩ := l
  · simp at h
  obtain _ | ⟨x9, l⟩ := l
  · simp at h
  obtain _ | ⟨x10, l⟩ := l
  · simp at h
  obtain rfl : l = [] := List.eq_nil_of_length_eq_zero (by simpa using h)
  exact ⟨x0, x1, x2, x3, x4, x5, x6, x7, x8, x9, x10, rfl⟩
theorem list_of12 {α : Type} {l : List α} (h : l.length = 12) : ∃ x0 x1 x2 x3 x4 x5 x6 x7 x8 x9 x10 x11, l = [x0, x1, x2, x3, x4, x5, x6, x7, x8, x9, x10, x11] := by
  obtain _ | ⟨x0, l⟩ := l
  · simp at h
  obtain _ | ⟨x1, l⟩ := l
  · simp at h
  obtain _ | ⟨x2, l⟩ := l
  · simp at h
  obtain _ | ⟨x3, l⟩ := l
  · simp at h
  obtain _ | ⟨x4, l⟩ := l
  · simp at h
  obtain _ | ⟨x5, l⟩ := l
  · simp at h
  obtain _ | ⟨x6, l⟩ := l
  · simp at h
  obtain _ | ⟨x7, l⟩ := l
  · simp at h
  obtain _ | ⟨x8, l⟩ := l
  · simp at h
  obtain _ | ⟨x9, l⟩ := l
  · simp at h
  obtain _ | ⟨x10, l⟩ := l
  · simp at h
  obtain _ | ⟨x11, l⟩ := l
  · simp at h
  obtain rfl : l = [] := List.eq_nil_of_length_eq_zero (by simpa using h)
  exact ⟨x0, x1, x2, x3, x4, x5, x6, x7, x8, x9, x10, x11, rfl⟩
end Go.Proofs.YtnmhicgbdalniaaGreatDoor
