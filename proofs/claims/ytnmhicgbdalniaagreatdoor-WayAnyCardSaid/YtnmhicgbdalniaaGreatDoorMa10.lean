import Derived.Test.YtnmhicgbdalniaaGreatDoorMa3
import Derived.Test.YtnmhicgbdalniaaGreatDoorMa5
import Derived.Test.YtnmhicgbdalniaaGreatDoorMa6
import Derived.Test.YtnmhicgbdalniaaGreatDoorMa7
import Derived.Test.YtnmhicgbdalniaaGreatDoorMa8
import Derived.Test.YtnmhicgbdalniaaGreatDoorMa9
import Derived.StillTailTactics
namespace Go.Proofs.YtnmhicgbdalniaaGreatDoor
open Go.RowKit Go.Sort

/-! A piece of a row: its elements' cells lie there; append of a piece onto a row of the call's own. -/
namespace Kd
variable {α : Type}
def Piece (d : Kd α) (w0 : World) (M : List Nat) (w : World) (A : Option Addr) (m : Nat) (ys : List α) : Prop :=
  ys.length = m ∧ (A = none → m = 0) ∧ ∃ css : List (List Value), css.length = ys.length ∧ (∀ (j : Nat) (x : α), ys[j]? = some x → ∃ cs, css[j]? = some cs ∧ d.K (vw w0 M) x cs) ∧ ∀ ad, A = some ad → ∀ j u, css.flatten[j]? = some u → w.cell? (ad.add j) = some u
theorem Piece.below {d : Kd α} {w0 w w' : World} {M : List Nat} {A : Option Addr} {m : Nat} {ys : List α} (h : d.Piece w0 M w A m ys) (hb : Below w.heap.size w w') : d.Piece w0 M w' A m ys := by
  obtain ⟨h1, h2, css, h3, h4, h5⟩ := h
  exact ⟨h1, h2, css, h3, h4, fun ad had j u hu => keep_cell hb (h5 ad had j u hu)⟩
theorem Piece.nil (d : Kd α) (w0 : World) (M : List Nat) (w : World) (A : Option Addr) : d.Piece w0 M w A 0 [] := ⟨rfl, fun _ => rfl, [], rfl, fun j x h => by simp at h, fun ad _ j u hu => by simp at hu⟩
theorem Piece.len_lists {d : Kd α} {w0 : World} {M : List Nat} {ys : List α} {css : List (List Value)} (h1 : css.length = ys.length) (h2 : ∀ (j : Nat) (x : α), ys[j]? = some x → ∃ cs, css[j]? = some cs ∧ d.K (vw w0 M) x cs) : ∀ c ∈ css, c.length = d.sz := fun c hc => by
  obtain ⟨j, hj, rfl⟩ := List.getElem_of_mem hc
  obtain ⟨cs, a, b⟩ := h2 j ys[j] (List.getElem?_eq_getElem (by omega))
  rw [List.getElem?_eq_getElem hj] at a
  cases a
  exact d.len b
/-- The rows' form: nothing, or a block of the call's own with as much room as is told. -/
theorem Row0.form {d : Kd α} {w0 w : World} {M : List Nat} {base : Nat} {e : TypeId} {v : Value} {xs : List α} (h : d.Row0 w0 M w base e v xs) :
    (v = .slice none 0 0 ∧ xs = []) ∨ ∃ g cap css, v = .slice (some ⟨g, 0, none⟩) xs.length cap ∧ base ≤ g ∧ xs.length ≤ cap ∧ cap ≤ maxLen ∧ css.length = xs.length ∧ Rw w g d.sz css ∧ ∀ (j : Nat) (x : α), xs[j]? = some x → ∃ cs, css[j]? = some cs ∧ d.K (vw w0 M) x cs := by
  obtain ⟨css, h1, h2, h3⟩ := h
  rcases h3.2 with ⟨e1, e2⟩ | ⟨g, cap, cur, e1, hg, hh, hnc, hcm, hs, ht⟩
  · exact .inl ⟨e1, List.eq_nil_of_length_eq_zero e2⟩
  · refine .inr ⟨g, cap, css, e1, hg, hnc, hcm, h1, ?_, h2⟩
    have hlen := Piece.len_lists h1 h2
    refine ⟨blk_lt hh, hlen, fun t c hc j u hu => ?_, fun x => by simp [World.frozen?, hh]⟩
    have hj : j < d.sz := by have := (List.getElem?_eq_some_iff.1 hu).1; rw [hlen c (List.mem_of_getElem? hc)] at this; exact this
    have htl := (List.getElem?_eq_some_iff.1 hc).1
    have h4 := flatten_get css hlen t j c hc hj
    rw [hu, ← ht, List.getElem?_take, if_pos (by
      have := Nat.mul_le_mul_right d.sz (show t + 1 ≤ xs.length by omega)
      rw [Nat.add_mul] at this; omega)] at h4
    rw [cell_of_row w g _ _ _ _ hh]
    simpa using h4
theorem Rw_flat {w : World} {g z : Nat} {css : List (List Value)} (h : Rw w g z css) (hz : 0 < z) (k : Nat) : ∀ j u, (css.drop k).flatten[j]? = some u → w.cell? ⟨g, k * z + j, none⟩ = some u := fun j u hu => by
  have hlen : ∀ c ∈ css.drop k, c.length = z := fun c hc => h.len c (List.mem_of_mem_drop hc)
  have hjl := (List.getElem?_eq_some_iff.1 hu).1
  rw [flatten_len _ hlen, List.length_drop] at hjl
  have ht : j / z < css.length - k := Nat.div_lt_of_lt_mul (by rw [Nat.mul_comm]; exact hjl)
  have hmod := Nat.mod_lt j hz
  have hdm := Nat.div_add_mod j z
  obtain ⟨q, hq⟩ : ∃ q, j / z = q := ⟨_, rfl⟩
  obtain ⟨r, hr⟩ : ∃ r, j % z = r := ⟨_, rfl⟩
  rw [hq] at ht hdm
  rw [hr] at hmod hdm
  have hkq : k + q < css.length := by omega
  have hc : (css.drop k)[q]? = some css[k + q] := by rw [List.getElem?_drop, List.getElem?_eq_getElem hkq]
  have h4 := flatten_get _ hlen q r _ hc hmod
  rw [Nat.mul_comm, hdm, hu] at h4
  have := h.at_ (k + q) _ (List.getElem?_eq_getElem hkq) r u h4.symm
  rw [← this, Nat.add_mul, Nat.mul_comm q, Nat.add_assoc, hdm]
/-- A row's front. -/
theorem Piece.take {d : Kd α} {w0 w : World} {M : List Nat} {g : Nat} {css : List (List Value)} {xs : List α} (hz : 0 < d.sz) (hr : Rw w g d.sz css) (hl : css.length = xs.length) (hk : ∀ (j : Nat) (x : α), xs[j]? = some x → ∃ cs, css[j]? = some cs ∧ d.K (vw w0 M) x cs) {k : Nat} (hkl : k ≤ xs.length) :
    d.Piece w0 M w (some ⟨g, 0, none⟩) k (xs.take k) := by
  refine ⟨by rw [List.length_take]; omega, (fun e => by cases e), css.take k, by simp [hl], fun j x hx => ?_, fun ad had j u hu => ?_⟩
  · rw [List.getElem?_take] at hx ⊢
    split at hx
    · rename_i hj
      obtain ⟨cs, a, b⟩ := hk j x hx
      exact ⟨cs, by rw [if_pos hj]; exact a, b⟩
    · cases hx
  · cases had
    have := Rw_flat (hr.cut k) hz 0 j u (by simpa using hu)
    rw [Kd.addr_add]
    simpa using this
/-- A row's end. -/
theorem Piece.drop {d : Kd α} {w0 w : World} {M : List Nat} {g : Nat} {css : List (List Value)} {xs : List α} (hz : 0 < d.sz) (hr : Rw w g d.sz css) (hl : css.length = xs.length) (hk : ∀ (j : Nat) (x : α), xs[j]? = some x → ∃ cs, css[j]? = some cs ∧ d.K (vw w0 M) x cs) (k : Nat) {o : Nat} (ho : o = k * d.sz) :
    d.Piece w0 M w (some ⟨g, o, none⟩) (xs.length - k) (xs.drop k) := by
  subst ho
  refine ⟨by rw [List.length_drop], (fun e => by cases e), css.drop k, by simp [hl], fun j x hx => ?_, fun ad had j u hu => ?_⟩
  · rw [List.getElem?_drop] at hx ⊢
    exact hk _ x hx
  · cases had
    rw [Kd.addr_add]
    exact Rw_flat hr hz k j u hu
theorem Piece.none_left {d : Kd α} {w0 w : World} {M : List Nat} {A : Option Addr} {xs : List α} {k : Nat} (h : k = xs.length) : d.Piece w0 M w A (xs.length - k) (xs.drop k) := by
  subst h
  rw [Nat.sub_self, List.drop_length]
  exact Piece.nil _ _ _ _ _
/-- A row that was there ahead, as a piece. -/
theorem Piece.of_S {d : Kd α} {w0 w : World} {M : List Nat} {A : Option Addr} {n cap : Nat} {ys : List α} (s : d.S (vw w0 M) (.slice A n cap) ys) (hb : Below w0.heap.size w0 w) : d.Piece w0 M w A n ys := by
  obtain ⟨rfl, -, -⟩ := s.form
  obtain ⟨css, h1, h2, h3, h4⟩ := s.lists
  exact ⟨rfl, h3, css, h1, fun j x hx => by
    obtain ⟨hj, rfl⟩ := List.getElem?_eq_some_iff.1 hx
    exact ⟨css[j]'(by omega), List.getElem?_eq_getElem _, h2 j hj (by omega)⟩, fun ad had j u hu => keep_cell hb (h4 ad had j u hu)⟩
/-- One that lies in a block of its own. -/
theorem Piece.one {d : Kd α} {w0 w : World} {M : List Nat} {g : Nat} {T : TypeId} {x : α} {cs : List Value} (hg : w.heap[g]? = some (.cells cs.toArray T (0, 0))) (hk : d.K (vw w0 M) x cs) : d.Piece w0 M w (some ⟨g, 0, none⟩) 1 [x] :=
  ⟨rfl, (fun e => by cases e), [cs], rfl, fun j y hy => by
    obtain ⟨hj, rfl⟩ := List.getElem?_eq_some_iff.1 hy
    obtain rfl : j = 0 := by simpa using hj
    exact ⟨cs, rfl, hk⟩, fun ad had j u hu => by
    cases had
    have := World.news_of_block hg j u
    exact this (by simpa using hu)⟩
section
variable {d : Kd α} {P : Program} (w w0 : World) (M : List Nat) (base : Nat) (t e : TypeId) (i : TypeInfo) (z : Value) (bytes : Nat) (ht : P.underlying t = some (.slice e)) (hi : P.info? e = some i) (hz : i.zero = some z)
  (hsize : i.size = d.sz) (hby : i.bytes = bytes) (hzs : z.cells.size = d.sz) (hsz : 0 < d.sz) (v : Value) (xs : List α) (hown : d.Row0 w0 M w base e v xs) (A : Option Addr) (m c : Nat) (ys : List α) (hp : d.Piece w0 M w A m ys)
  (h1 : ∀ h x cs, d.K h x cs → ∀ u ∈ cs, u.oneCell' = true) (h63 : xs.length + m ≤ maxLen) (hbytes : (xs.length + m) * bytes ≤ 140737488355328) (hbase : base ≤ w.heap.size)
  {o : Oper} {a : Act} {Q : Exit → Act → World → Prop} (s y : Operand) (ho : o.op = .call { callee := .builtin .append, args := #[s, y], argTypes := #[t, t] }) (hs : a.eval s = v) (hx : a.eval y = .slice A m c)
include ht hi hz hsize hby hzs hsz hown hp h1 h63 hbytes hbase ho hs hx
theorem wp_piece {K : Act → World → Prop} (h : ∀ v' w', d.Row0 w0 M w' base e v' (xs ++ ys) → w.grownBy w' v.ownBlock → (v'.ownBlock = v.ownBlock ∨ v'.ownBlock = some w.heap.size) → K (a.put o.dst v') w') : o.wp P a w K Q := by
  obtain ⟨css, k1, k2, k3⟩ := hown
  obtain ⟨hm, hA, cys, q1, q2, q3⟩ := hp
  have hlen := Piece.len_lists q1 q2
  refine wp_app w base t e i z d.sz bytes ht hi hz hsize hby hzs hsz v xs.length css.flatten k3 A m c cys.flatten (by rw [flatten_len cys hlen, q1, hm]) hA q3 (fun u hu => ?_) h63 hbytes hbase s y ho hs hx fun v' w' ho' hg' hn' => h v' w' ⟨css ++ cys, by simp [k1, q1], fun j x hx => ?_, by rw [List.length_append, hm, List.flatten_append]; exact ho'⟩ hg' hn'
  · obtain ⟨cs, hc, hu⟩ := List.mem_flatten.1 hu
    obtain ⟨j, hj, rfl⟩ := List.getElem_of_mem hc
    obtain ⟨cs, a, b⟩ := q2 j ys[j] (List.getElem?_eq_getElem (by omega))
    rw [List.getElem?_eq_getElem hj] at a
    cases a
    exact h1 _ _ _ b u hu
  · rcases Nat.lt_or_ge j xs.length with hlt | hge
    · rw [List.getElem?_append_left hlt] at hx
      obtain ⟨c, a, b⟩ := k2 j x hx
      exact ⟨c, by rw [List.getElem?_append_left (by omega)]; exact a, b⟩
    · rw [List.getElem?_append_right hge] at hx
      obtain ⟨c, a, b⟩ := q2 _ x hx
      exact ⟨c, by rw [List.getElem?_append_right (by omega), k1]; exact a, b⟩
theorem wpList_piece {ops : Array Oper} {rest : List Oper} (hgd : o.guard = none) (h : ∀ v' w', d.Row0 w0 M w' base e v' (xs ++ ys) → w.grownBy w' v.ownBlock → (v'.ownBlock = v.ownBlock ∨ v'.ownBlock = some w.heap.size) → wpList P ops Q rest (a.put o.dst v') w') : wpList P ops Q (o :: rest) a w :=
  wpList_plain hgd fun _ hK => wp_piece w w0 M base t e i z bytes ht hi hz hsize hby hzs hsz v xs hown A m c ys hp h1 h63 hbytes hbase s y ho hs hx fun v' w' h2 h3 h4 => hK _ _ (h v' w' h2 h3 h4)
theorem step_piece {ops : Array Oper} {K : Act → World → Prop} {E : Prop} (hgd : o.guard = none) (h : ∀ v' w', d.Row0 w0 M w' base e v' (xs ++ ys) → w.grownBy w' v.ownBlock → (v'.ownBlock = v.ownBlock ∨ v'.ownBlock = some w.heap.size) → K (a.put o.dst v') w') :
    if Region.wanted o (yielded ops a.tmps) = true then Oper.wp P o a w K Q else E := by
  have hw : Region.wanted o (yielded ops a.tmps) = true := by simp [Region.wanted, hgd]
  rw [if_pos hw]
  exact wp_piece w w0 M base t e i z bytes ht hi hz hsize hby hzs hsz v xs hown A m c ys hp h1 h63 hbytes hbase s y ho hs hx h
end
theorem Row0.base_le {d : Kd α} {w0 w : World} {M : List Nat} {base base' : Nat} {e : TypeId} {v : Value} {xs : List α} (h : d.Row0 w0 M w base e v xs) (hb : base' ≤ base) : d.Row0 w0 M w base' e v xs := by
  obtain ⟨css, h1, h2, h3⟩ := h
  exact ⟨css, h1, h2, own_base h3 hb⟩
theorem Row0.kept {d : Kd α} {w0 w w' : World} {M : List Nat} {base : Nat} {e : TypeId} {v : Value} {xs : List α} {row : Option Nat} (h : d.Row0 w0 M w base e v xs) (hg : w.grownBy w' row) (hn : v.ownBlock = none ∨ v.ownBlock ≠ row) : d.Row0 w0 M w' base e v xs := by
  obtain ⟨css, h1, h2, h3⟩ := h
  exact ⟨css, h1, h2, h3.kept hg hn⟩
theorem Row0.lt {d : Kd α} {w0 w : World} {M : List Nat} {base : Nat} {e : TypeId} {v : Value} {xs : List α} (h : d.Row0 w0 M w base e v xs) : ∀ q, v.ownBlock = some q → base ≤ q ∧ q < w.heap.size := by
  obtain ⟨css, h1, h2, h3⟩ := h
  exact h3.lt
theorem Row0.empty {d : Kd α} {w0 : World} {M : List Nat} (w : World) (e : TypeId) : d.Row0 w0 M (w.alloc (.cells #[] e)) w.heap.size e (.slice (some ⟨w.heap.size, 0, none⟩) 0 0) [] :=
  ⟨[], rfl, fun j x h => by simp at h, own_emptyN w e d.sz⟩
/-! 'append(append([]T{}, l[:k]...), x)': what holds as its operations come in any order. l0: the empty row is made; l4: the front is put on; l6: the block of one is made; l7: it is put on. -/
def InsJ (d : Kd α) (w0 : World) (M : List Nat) (w : World) (T : TypeId) (fr : List α) (x : α) (cx : List Value) (l0 l4 l6 l7 : Bool) (v0 v4 v6 v7 : Value) (W : World) : Prop :=
  Below w.heap.size w W ∧ (l4 = true → l0 = true) ∧ (l7 = true → l4 = true ∧ l6 = true) ∧
  (l0 = true → l4 = false → d.Row0 w0 M W w.heap.size T v0 []) ∧ (l4 = true → l7 = false → d.Row0 w0 M W w.heap.size T v4 fr) ∧
  (l6 = true → l7 = false → ∃ g, v6 = .slice (some ⟨g, 0, none⟩) 1 1 ∧ W.heap[g]? = some (.cells cx.toArray T (0, 0)) ∧ (l0 = true → l4 = false → v0.ownBlock ≠ some g)) ∧
  (l7 = true → d.Row0 w0 M W w.heap.size T v7 (fr ++ [x]))
section
variable {d : Kd α} {w0 : World} {M : List Nat} {w : World} {T : TypeId} {fr : List α} {x : α} {cx : List Value} {l0 l4 l6 l7 : Bool} {v0 v4 v6 v7 : Value} {W W' : World}
theorem InsJ.start (h : Below w.heap.size w W) : InsJ d w0 M w T fr x cx false false false false v0 v4 v6 v7 W :=
  ⟨h, (fun e => by cases e), (fun e => by cases e), (fun e => by cases e), (fun e => by cases e), (fun e => by cases e), (fun e => by cases e)⟩
theorem InsJ.alloc0 (h : InsJ d w0 M w T fr x cx false l4 l6 l7 v0 v4 v6 v7 W) : InsJ d w0 M w T fr x cx true l4 l6 l7 (.slice (some ⟨W.heap.size, 0, none⟩) 0 0) v4 v6 v7 (W.alloc (.cells #[] T)) := by
  obtain ⟨h1, h2, h3, h4, h5, h6, h7⟩ := h
  have e4 : l4 = false := by cases l4 with | false => rfl | true => cases h2 rfl
  subst e4
  have e7 : l7 = false := by cases l7 with | false => rfl | true => cases (h3 rfl).1
  subst e7
  refine ⟨Below.then h1 (alloc_below _ _), (fun e => by cases e), (fun e => by cases e), fun _ _ => (Row0.empty W T).base_le h1.size, (fun e => by cases e), fun e _ => ?_, (fun e => by cases e)⟩
  obtain ⟨g, k1, k2, -⟩ := h6 e rfl
  refine ⟨g, k1, (blk_old _ _ (blk_lt k2)).trans k2, fun _ _ => ?_⟩
  have := blk_lt k2
  show some W.heap.size ≠ some g
  intro e
  injection e with e
  omega
theorem InsJ.alloc1 (h : InsJ d w0 M w T fr x cx l0 l4 false l7 v0 v4 v6 v7 W) : InsJ d w0 M w T fr x cx l0 l4 true l7 v0 v4 (.slice (some ⟨W.heap.size, 0, none⟩) 1 1) v7 (W.alloc (.cells cx.toArray T)) := by
  obtain ⟨h1, h2, h3, h4, h5, h6, h7⟩ := h
  have e7 : l7 = false := by cases l7 with | false => rfl | true => cases (h3 rfl).2
  subst e7
  refine ⟨Below.then h1 (alloc_below _ _), h2, (fun e => by cases e), fun e k => (h4 e k).below (alloc_below _ _), fun e k => (h5 e k).below (alloc_below _ _), fun _ _ => ⟨_, rfl, blk_last _ _, fun e k hv => ?_⟩, (fun e => by cases e)⟩
  have := ((h4 e k).lt _ hv).2
  omega
theorem InsJ.row0 (h : InsJ d w0 M w T fr x cx l0 false l6 l7 v0 v4 v6 v7 W) (h0 : l0 = true) : d.Row0 w0 M W w.heap.size T v0 [] := h.2.2.2.1 h0 rfl
theorem InsJ.row1 (h : InsJ d w0 M w T fr x cx l0 l4 l6 false v0 v4 v6 v7 W) (h4 : l4 = true) : d.Row0 w0 M W w.heap.size T v4 fr := h.2.2.2.2.1 h4 rfl
theorem InsJ.one (h : InsJ d w0 M w T fr x cx l0 l4 l6 false v0 v4 v6 v7 W) (k6 : l6 = true) : ∃ g, v6 = .slice (some ⟨g, 0, none⟩) 1 1 ∧ W.heap[g]? = some (.cells cx.toArray T (0, 0)) := by
  obtain ⟨g, k1, k2, -⟩ := h.2.2.2.2.2.1 k6 rfl
  exact ⟨g, k1, k2⟩
theorem InsJ.app (h : InsJ d w0 M w T fr x cx l0 false l6 l7 v0 v4 v6 v7 W) (h0 : l0 = true) {v' : Value} (hr : d.Row0 w0 M W' w.heap.size T v' fr) (hg : W.grownBy W' v0.ownBlock) : InsJ d w0 M w T fr x cx l0 true l6 l7 v0 v' v6 v7 W' := by
  subst h0
  obtain ⟨h1, h2, h3, h4, h5, h6, h7⟩ := h
  have e7 : l7 = false := by cases l7 with | false => rfl | true => cases (h3 rfl).1
  subst e7
  have hr0 := h4 rfl rfl
  refine ⟨h1.grown hg h1.size (fun q hq => (hr0.lt q hq).1), fun _ => rfl, (fun e => by cases e), (fun _ e => by cases e), fun _ _ => hr, fun e _ => ?_, (fun e => by cases e)⟩
  obtain ⟨g, k1, k2, k3⟩ := h6 e rfl
  exact ⟨g, k1, (hg.block _ (blk_lt k2) (fun e => k3 rfl rfl e.symm)).trans k2, (fun _ e => by cases e)⟩
theorem InsJ.app2 (h : InsJ d w0 M w T fr x cx l0 l4 l6 false v0 v4 v6 v7 W) (k4 : l4 = true) (k6 : l6 = true) {v' : Value} (hr : d.Row0 w0 M W' w.heap.size T v' (fr ++ [x])) (hg : W.grownBy W' v4.ownBlock) : InsJ d w0 M w T fr x cx l0 l4 l6 true v0 v4 v6 v' W' := by
  have hr1 := h.row1 k4
  subst k4 k6
  obtain ⟨h1, h2, h3, h4, h5, h6, h7⟩ := h
  exact ⟨h1.grown hg h1.size (fun q hq => (hr1.lt q hq).1), h2, fun _ => ⟨rfl, rfl⟩, (fun _ e => by cases e), (fun _ e => by cases e), (fun _ e => by cases e), fun _ => hr⟩
theorem InsJ.done (h : InsJ d w0 M w T fr x cx l0 l4 l6 true v0 v4 v6 v7 W) : Below w.heap.size w W ∧ d.Row0 w0 M W w.heap.size T v7 (fr ++ [x]) := ⟨h.1, h.2.2.2.2.2.2 rfl⟩
end
end Kd
end Go.Proofs.YtnmhicgbdalniaaGreatDoor
namespace Go.Proofs.YtnmhicgbdalniaaGreatDoor
open Go.RowKit Go.Sort Go.Lib

/-! Where one comes in, from the end: the plain law of the document's order. -/
theorem insP_pass {p : Pd} : ∀ {l : List Pd} {q : Nat}, q ≤ l.length → (∀ j, (hj : j < l.length) → j < q → prioLt p l[j] = false) → insP p l = l.take q ++ insP p (l.drop q)
  | l, 0, _, _ => by simp
  | [], q + 1, h, _ => by simp at h
  | a :: r, q + 1, h, hp => by
    have h0 : prioLt p a = false := hp 0 (by simp) (by omega)
    rw [insP, h0, if_neg (by decide), List.take_succ_cons, List.drop_succ_cons, List.cons_append, insP_pass (q := q) (by simpa using h) (fun j hj hq => by have := hp (j + 1) (by simpa using hj) (by omega); simpa using this)]
theorem insP_here {p : Pd} {l : List Pd} {k : Nat} (hl : Ordered l) (hk : k ≤ l.length) (h1 : ∀ j, (hj : j < l.length) → k ≤ j → prioLt p l[j] = true) (h2 : (hj : k - 1 < l.length) → 0 < k → prioLt p l[k - 1] = false) :
    insP p l = l.take k ++ p :: l.drop k := by
  rw [insP_pass hk (fun j hj hq => ?_)]
  · congr 1
    rcases Nat.lt_or_ge k l.length with h | h
    · rw [List.drop_eq_getElem_cons h, insP, if_pos (h1 k h (Nat.le_refl _))]
    · rw [List.drop_eq_nil_of_le h]; rfl
  · have hkl : k - 1 < l.length := by omega
    have e := h2 hkl (by omega)
    rcases Nat.lt_or_ge j (k - 1) with h | h
    · have ho := (List.pairwise_iff_getElem.1 hl) j (k - 1) hj hkl h
      rw [← prioLt_eq] at e ⊢
      exact prio_swo.ntrans _ _ _ e ho
    · have : j = k - 1 := by omega
      subst this
      exact e
def sortK (l : List Pd) (k : Nat) : List Pd := (l.take k).foldl (fun out p => insP p out) []
theorem sortK_ordered (l : List Pd) (k : Nat) : Ordered (sortK l k) := (sortP_from (l.take k) [] List.Pairwise.nil).1
theorem sortK_len (l : List Pd) (k : Nat) : (sortK l k).length ≤ k := by
  have := (sortP_from (l.take k) [] List.Pairwise.nil).2.length_eq
  show (List.foldl (fun out p => insP p out) [] (l.take k)).length ≤ k
  rw [this, List.nil_append, List.length_take]; omega
theorem sortP_filter (q : Pd → Bool) (l : List Pd) {k : Nat} (h : k < l.length) :
    sortP ((l.take (k + 1)).filter q) = if q l[k] = true then insP l[k] (sortP ((l.take k).filter q)) else sortP ((l.take k).filter q) := by
  rw [List.take_succ_eq_append_getElem h, List.filter_append]
  unfold sortP
  rw [List.foldl_append]
  by_cases e : q l[k] = true
  · rw [if_pos e, List.filter_cons_of_pos e]; rfl
  · rw [if_neg e, List.filter_cons_of_neg e]; rfl
theorem sortP_ordered (l : List Pd) : Ordered (sortP l) := (sortP_from l [] List.Pairwise.nil).1
theorem sortP_len (l : List Pd) : (sortP l).length = l.length := (sortP_sorted l).1.length_eq
end Go.Proofs.YtnmhicgbdalniaaGreatDoor
namespace Go.Proofs.YtnmhicgbdalniaaGreatDoor
open Go.RowKit Go.Sort

/-! ComparePods: the reference's order of pods. -/
def CmpDone (b : Bool) (w : World) (e : Ending) (w' : World) : Prop := ∃ n : Int, e = .returned (.int .i64 n) ∧ decide (n < 0) = b ∧ Below w.heap.size w w'
theorem cmp_mk {n : Int} {b : Bool} {w w' : World} (h : decide (n < 0) = b) (hb : Below w.heap.size w w') : CmpDone b w (.returned (.int .i64 n)) w' := ⟨n, rfl, h, hb⟩
set_option maxHeartbeats 8000000 in
set_option maxRecDepth 100000 in
theorem RCompare_calls (va vb : Value) (a b : Pd) (w : World) (ha : Kd.pod.V (vw w []) va a) (hb : Kd.pod.V (vw w []) vb b) :
    Calls Tryz.prog 165 #[va, vb] w (CmpDone (prioLt a b) w) := by
  obtain ⟨cs, rfl, A1, a1, A2, a2, A3, a3, A4, a4, rfl, -⟩ := ha
  obtain ⟨cs, rfl, B1, b1, B2, b2, B3, b3, B4, b4, rfl, -⟩ := hb
  go_enter Tryz.func165, Tryz.ntmps165
  go_upto_region 1 with fail
  obtain ⟨W, hW, hbw, k1, k2, hWs⟩ := al2 w (.cells #[.string a.name, .string a.owner, .int .i64 a.prio, .slice A1 a.need.length a1, .slice A2 a.labels.length a2, .slice A3 a.sel.length a3, .slice A4 a.tols.length a4, .string a.key, .int .i64 a.most, .string a.node, .bool a.hold] 45) (.cells #[.string b.name, .string b.owner, .int .i64 b.prio, .slice B1 b.need.length b1, .slice B2 b.labels.length b2, .slice B3 b.sel.length b3, .slice B4 b.tols.length b4, .string b.key, .int .i64 b.most, .string b.node, .bool b.hold] 45)
  rw [← hW]
  have HB := Lib.hid hbw
  have z := (blk_all k1).1
  have y := (blk_all k2).1
  have z0 : W.cell? ⟨w.heap.size, 0, none⟩ = some (.string a.name) := z 0
  have z2 : W.cell? ⟨w.heap.size, 2, none⟩ = some (.int .i64 a.prio) := z 2
  have y0 : W.cell? ⟨w.heap.size + 1, 0, none⟩ = some (.string b.name) := y 0
  have y2 : W.cell? ⟨w.heap.size + 1, 2, none⟩ = some (.int .i64 b.prio) := y 2
  clear hW hbw k1 k2 hWs z y
  have hp : prioLt a b = (decide (b.prio < a.prio) || (decide (a.prio = b.prio) && ltS a.name b.name)) := rfl
  have l1 := less_ltS a.name b.name
  have l2 := le_ltS a.name b.name
  obtain ⟨m1, hm1⟩ : ∃ m, ltS a.name b.name = m := ⟨_, rfl⟩
  obtain ⟨m2, hm2⟩ : ∃ m, ltS b.name a.name = m := ⟨_, rfl⟩
  rw [hm1] at l1 hp
  rw [hm2] at l2
  clear hm1 hm2
  by_cases h1 : b.prio < a.prio
  · have HX : Hid (decide ((-1 : Int) < 0) = prioLt a b) := by show _ = _; rw [hp, decide_eq_true h1]; rfl
    clear hp
    go_wp2
    go_ret
    exact cmp_mk HX.out HB.out
  by_cases h2 : a.prio < b.prio
  · have HX : Hid (decide ((1 : Int) < 0) = prioLt a b) := by show _ = _; rw [hp, decide_eq_false h1, decide_eq_false (show ¬ a.prio = b.prio by omega)]; rfl
    clear hp
    go_wp2
    go_ret
    exact cmp_mk HX.out HB.out
  have h3 : a.prio = b.prio := by omega
  rw [decide_eq_false h1, decide_eq_true h3] at hp
  cases m1 with
  | true =>
    have HX : Hid (decide ((-1 : Int) < 0) = prioLt a b) := by show _ = _; rw [hp]; rfl
    clear hp h3
    go_wp2
    go_ret
    exact cmp_mk HX.out HB.out
  | false =>
    rw [l1, Bool.false_or] at l2
    cases m2 with
    | true =>
      have HX : Hid (decide ((1 : Int) < 0) = prioLt a b) := by show _ = _; rw [hp]; rfl
      clear hp h3
      go_wp2
      go_ret
      exact cmp_mk HX.out HB.out
    | false =>
      have HX : Hid (decide ((0 : Int) < 0) = prioLt a b) := by show _ = _; rw [hp]; rfl
      clear hp h3
      go_wp2
      go_ret
      exact cmp_mk HX.out HB.out
end Go.Proofs.YtnmhicgbdalniaaGreatDoor
namespace Go.Proofs.YtnmhicgbdalniaaGreatDoor
open Go.RowKit Go.Sort

/-! Pending: the reference's side. -/
set_option maxHeartbeats 8000000 in
set_option maxRecDepth 100000 in
theorem RPending_calls (vs : Value) (s : St) (w : World) (hs : Kd.state.V (vw w []) vs s) (hpn : s.pods.length ≤ 1000) :
    Calls Tryz.prog 88 #[vs] w (PodsDone (pendV s) w) := by
  obtain ⟨i0, hi, hz0, hz1, hz2⟩ := info_parts info_OfAll7
  obtain ⟨cs, rfl, hks⟩ := hs
  obtain ⟨A1, c1, A2, c2, A3, c3, rfl, -, s2, -⟩ := hks
  obtain ⟨-, f2, f2'⟩ := s2.form
  have S2 := Lib.hid s2
  clear s2
  go_enter Tryz.func88, Tryz.ntmps88
  go_upto_region 1 with fail
  have hbw := alloc_below w (.cells #[.slice A1 s.nodes.length c1, .slice A2 s.pods.length c2, .slice A3 s.budgets.length c3] 51)
  have hk := blk_last w (.cells #[.slice A1 s.nodes.length c1, .slice A2 s.pods.length c2, .slice A3 s.budgets.length c3] 51)
  generalize w.alloc (.cells #[.slice A1 s.nodes.length c1, .slice A2 s.pods.length c2, .slice A3 s.budgets.length c3] 51) = W at hbw hk ⊢
  have HK := Lib.hid hk
  have HBW := Lib.hid hbw
  obtain ⟨z, zf⟩ := blk_all hk
  clear hbw hk
  go_wp2
  clear z zf
  go_loopw [3, 4] (fun o i wr => ∃ k : Nat, k ≤ s.pods.length ∧ i = .int .i64 k ∧ Hid (Kd.pod.Row0 w [] wr W.heap.size 45 o (sortP ((s.pods.take k).filter pendB))) ∧ Hid (Below W.heap.size W wr)) (fun _ i _ => s.pods.length - (intOf i).toNat)
  case atStart => exact ⟨0, Nat.zero_le _, rfl, Kd.Row0.nil _ _ _ _ _ _, Below.refl _ _⟩
  case round =>
    obtain ⟨k, hk, rfl, HO, HBX⟩ := hrel
    have HB := Lib.hid (Below.then HBW.out HBX.out)
    obtain ⟨z, zf⟩ := blk_all ((HBX.out.block _ (blk_lt HK.out)).trans HK.out)
    by_cases hlt : k < s.pods.length
    · have hsn := sortP_filter pendB s.pods hlt
      have hle : (sortP ((s.pods.take k).filter pendB)).length ≤ k := by
        rw [sortP_len]; exact filt_le pendB s.pods k
      have hor := sortP_ordered ((s.pods.take k).filter pendB)
      obtain ⟨b, off, cs, rfl, hn, hc⟩ := S2.out.bothM HB.out k hlt
      obtain ⟨x, hx⟩ : ∃ x, s.pods[k] = x := ⟨_, rfl⟩
      obtain ⟨ls, hL⟩ : ∃ ls, sortP ((s.pods.take k).filter pendB) = ls := ⟨_, rfl⟩
      rw [hx] at hn hsn
      rw [hL] at hsn hle HO hor
      have HKX := Lib.hid hn
      obtain ⟨B1, d1, B2, d2, B3, d3, B4, d4, rfl, -⟩ := hn
      have HC : Hid (wr.rangeAt b (off + k * 11) _) := hc
      have e1 := empty_beq x.node
      have hon : pendB x = (decide (x.node = ⟨#[]⟩) && !x.hold) := rfl
      obtain ⟨a, ha⟩ : ∃ a, decide (x.node = ⟨#[]⟩) = a := ⟨_, rfl⟩
      obtain ⟨d, hd⟩ : ∃ d, x.hold = d := ⟨_, rfl⟩
      rw [ha] at e1 hon
      rw [hd] at hon HC HKX
      have HON := Lib.hid hon
      have HSN := Lib.hid hsn
      have HOR := Lib.hid hor
      clear hc hsn hx hL ha hon hd hor
      have hwr := HBX.out.size
      have hbq := alloc_below wr (.cells #[.string x.name, .string x.owner, .int .i64 x.prio, .slice B1 x.need.length d1, .slice B2 x.labels.length d2, .slice B3 x.sel.length d3, .slice B4 x.tols.length d4, .string x.key, .int .i64 x.most, .string x.node, .bool d] 45)
      have hyq := blk_last wr (.cells #[.string x.name, .string x.owner, .int .i64 x.prio, .slice B1 x.need.length d1, .slice B2 x.labels.length d2, .slice B3 x.sel.length d3, .slice B4 x.tols.length d4, .string x.key, .int .i64 x.most, .string x.node, .bool d] 45)
      go_upto_region 6 with (with_reducible refine wpList_load_mid rfl 45 _ rfl b (off + k * 11) rfl _ _ HC.out Tryz.underlying45 rfl (by kernel_rfl) ?_)
      generalize wr.alloc (.cells #[.string x.name, .string x.owner, .int .i64 x.prio, .slice B1 x.need.length d1, .slice B2 x.labels.length d2, .slice B3 x.sel.length d3, .slice B4 x.tols.length d4, .string x.key, .int .i64 x.most, .string x.node, .bool d] 45) = V at hbq hyq ⊢
      have HBV := Lib.hid (Below.then HBX.out hbq)
      have HOV := Lib.hid (HO.out.below hbq)
      have HYX := Lib.hid hyq
      obtain ⟨y, yf⟩ := blk_all hyq
      have hVs := hbq.size
      clear hbq hyq HC HO z zf
      cases a with
      | false =>
        have hn : pendB x = false := by rw [HON.out]; rfl
        have HS : Hid (sortP ((s.pods.take (k + 1)).filter pendB) = ls) := by
          show _ = _
          rw [HSN.out, hn, if_neg (by decide)]
        clear hn
        go_wp2
        go_roundw
        case rel => exact ⟨k + 1, by omega, by go_num, by rw [HS.out]; exact HOV.out, HBV.out⟩
        case measure => simp [intOf]; omega
      | true =>
        cases d with
        | true =>
          have hn : pendB x = false := by rw [HON.out]; rfl
          have HS : Hid (sortP ((s.pods.take (k + 1)).filter pendB) = ls) := by
            show _ = _
            rw [HSN.out, hn, if_neg (by decide)]
          clear hn
          go_wp2
          go_roundw
          case rel => exact ⟨k + 1, by omega, by go_num, by rw [HS.out]; exact HOV.out, HBV.out⟩
          case measure => simp [intOf]; omega
        | false =>
          have hn : pendB x = true := by rw [HON.out]; rfl
          have HS : Hid (sortP ((s.pods.take (k + 1)).filter pendB) = insP x ls) := by
            show _ = _
            rw [HSN.out, hn, if_pos rfl]
          clear hn
          generalize wr.heap.size = pb at HYX y yf ⊢
          rcases HOV.out.form with ⟨rfl, rfl⟩ | ⟨g, cap, css, rfl, hg, hcap, hcm, hcl, hrw, hkk⟩
          · have HIN : Hid (insP x [] = List.take 0 [] ++ x :: List.drop 0 []) := rfl
            go_wp2
            go_loopw [6] (fun j wq => j = .int .i64 0 ∧ Hid (Below V.heap.size V wq)) (fun _ _ => 0)
            case atStart => exact ⟨rfl, Below.refl _ _⟩
            case round =>
              obtain ⟨rfl, HBQ⟩ := hrel
              clear y yf
              go_upto_region 8 with fail
              go_quiet (fail)
              have HBQ2 : Hid (Below V.heap.size V (wr.drewN nq)) := drewN_then HBQ.out nq
              generalize wr.drewN nq = wq at HBQ2 ⊢
              have HPX := Lib.hid ((HBQ2.out.block _ (blk_lt HYX.out)).trans HYX.out)
              have HWQ := Lib.hid (Below.then HBV.out HBQ2.out)
              have lx := blk_lt HPX.out
              have yq := (blk_all HPX.out).1
              go_upto_region 10 with fail
              refine wp_region_slots [43, 44, 45, 46, 47, 48, 49, 50, 7] (fun L vs W' => ∃ s43 s44 s45 s46 s47 s48 s49 s50 s7 : Value, vs = [s43, s44, s45, s46, s47, s48, s49, s50, s7] ∧ (L 1 = true → s44 = .slice none 0 0) ∧ (L 2 = true → s45 = .int .i64 0) ∧ (L 3 = true → s46 = .slice none 0 0) ∧ (L 5 = true → s48 = .agg #[.string x.name, .string x.owner, .int .i64 x.prio, .slice B1 x.need.length d1, .slice B2 x.labels.length d2, .slice B3 x.sel.length d3, .slice B4 x.tols.length d4, .string x.key, .int .i64 x.most, .string x.node, .bool false]) ∧ (L 8 = true → L 7 = true ∧ s7 = s50) ∧ Kd.InsJ Kd.pod w [] wq 45 (([] : List Pd).take 0) (x) [.string x.name, .string x.owner, .int .i64 x.prio, .slice B1 x.need.length d1, .slice B2 x.labels.length d2, .slice B3 x.sel.length d3, .slice B4 x.tols.length d4, .string x.key, .int .i64 x.most, .string x.node, .bool false] (L 0) (L 4) (L 6) (L 7) s43 s47 s49 s50 W') (by kernel_rfl) (by kernel_rfl) ?start (And.intro ?o0 (And.intro ?o1 (And.intro ?o2 (And.intro ?o3 (And.intro ?o4 (And.intro ?o5 (And.intro ?o6 (And.intro ?o7 (And.intro ?o8 trivial))))))))) ?rest
              case start =>
                intro L vs hL hlen
                obtain ⟨s43, s44, s45, s46, s47, s48, s49, s50, s7, rfl⟩ := list_of9 hlen
                have h0 := hL 0 (by simp)
                have h1 := hL 1 (by simp)
                have h2 := hL 2 (by simp)
                have h3 := hL 3 (by simp)
                have h4 := hL 4 (by simp)
                have h5 := hL 5 (by simp)
                have h6 := hL 6 (by simp)
                have h7 := hL 7 (by simp)
                have h8 := hL 8 (by simp)
                refine ⟨s43, s44, s45, s46, s47, s48, s49, s50, s7, rfl, (fun h => by rw [h1] at h; cases h), (fun h => by rw [h2] at h; cases h), (fun h => by rw [h3] at h; cases h), (fun h => by rw [h5] at h; cases h), (fun h => by rw [h8] at h; cases h), ?_⟩
                rw [h0, h4, h6, h7]; exact Kd.InsJ.start (drew_below _)
              case o0 =>
                rintro L a' W' K ⟨vs, rfl, s43, s44, s45, s46, s47, s48, s49, s50, s7, rfl, f1, f2, f3, f5, d8, hJ⟩ hL hd hK
                simp only [putAll, Act.put, List.setIfInBounds_toArray, List.set_cons_zero, List.set_cons_succ]
                rw [hL] at hJ
                go_simp
                exact hK _ _ ⟨[.slice (some ⟨W'.heap.size, 0, none⟩) 0 0, s44, s45, s46, s47, s48, s49, s50, s7], (by simp only [putAll, Act.put, List.setIfInBounds_toArray, List.set_cons_zero, List.set_cons_succ]), .slice (some ⟨W'.heap.size, 0, none⟩) 0 0, s44, s45, s46, s47, s48, s49, s50, s7, rfl, f1, f2, f3, f5, d8, hJ.alloc0⟩
              case o1 =>
                rintro L a' W' K ⟨vs, rfl, s43, s44, s45, s46, s47, s48, s49, s50, s7, rfl, f1, f2, f3, f5, d8, hJ⟩ hL hd hK
                simp only [putAll, Act.put, List.setIfInBounds_toArray, List.set_cons_zero, List.set_cons_succ]
                go_simp
                exact hK _ _ ⟨[s43, .slice none 0 0, s45, s46, s47, s48, s49, s50, s7], (by simp only [putAll, Act.put, List.setIfInBounds_toArray, List.set_cons_zero, List.set_cons_succ]), s43, .slice none 0 0, s45, s46, s47, s48, s49, s50, s7, rfl, (fun _ => rfl), f2, f3, f5, d8, hJ⟩
              case o2 =>
                rintro L a' W' K ⟨vs, rfl, s43, s44, s45, s46, s47, s48, s49, s50, s7, rfl, f1, f2, f3, f5, d8, hJ⟩ hL hd hK
                simp only [putAll, Act.put, List.setIfInBounds_toArray, List.set_cons_zero, List.set_cons_succ]
                go_simp
                exact hK _ _ ⟨[s43, s44, .int .i64 0, s46, s47, s48, s49, s50, s7], (by simp only [putAll, Act.put, List.setIfInBounds_toArray, List.set_cons_zero, List.set_cons_succ]), s43, s44, .int .i64 0, s46, s47, s48, s49, s50, s7, rfl, f1, (fun _ => rfl), f3, f5, d8, hJ⟩
              case o3 =>
                rintro L a' W' K ⟨vs, rfl, s43, s44, s45, s46, s47, s48, s49, s50, s7, rfl, f1, f2, f3, f5, d8, hJ⟩ hL hd hK
                simp only [putAll, Act.put, List.setIfInBounds_toArray, List.set_cons_zero, List.set_cons_succ]
                obtain rfl := f1 (hd 1 (by decide))
                obtain rfl := f2 (hd 2 (by decide))
                go_simp
                exact hK _ _ ⟨[s43, .slice none 0 0, .int .i64 0, .slice none 0 0, s47, s48, s49, s50, s7], (by simp only [putAll, Act.put, List.setIfInBounds_toArray, List.set_cons_zero, List.set_cons_succ]), s43, .slice none 0 0, .int .i64 0, .slice none 0 0, s47, s48, s49, s50, s7, rfl, f1, f2, (fun _ => rfl), f5, d8, hJ⟩
              case o4 =>
                rintro L a' W' K ⟨vs, rfl, s43, s44, s45, s46, s47, s48, s49, s50, s7, rfl, f1, f2, f3, f5, d8, hJ⟩ hL hd hK
                simp only [putAll, Act.put, List.setIfInBounds_toArray, List.set_cons_zero, List.set_cons_succ]
                have h0 := hd 0 (by decide)
                obtain rfl := f3 (hd 3 (by decide))
                rw [hL] at hJ
                rw [if_pos (by rfl)]
                refine Kd.wp_piece (d := Kd.pod) _ w [] wq.heap.size 48 45 i0 _ 184 Tryz.underlying48 hi hz0 hz1 hz2 rfl (by decide) _ [] (hJ.row0 h0) none 0 0 (([] : List Pd).take 0) ((Kd.Piece.nil _ _ _ _ _).below hJ.1) pod_ones (by simp only [maxLen, List.length_nil]; omega) (by simp only [List.length_nil]; omega) hJ.1.size _ _ rfl rfl rfl ?_
                intro v' W2 hr hg _
                exact hK _ _ ⟨[s43, s44, s45, .slice none 0 0, v', s48, s49, s50, s7], (by simp only [putAll, Act.put, List.setIfInBounds_toArray, List.set_cons_zero, List.set_cons_succ]), s43, s44, s45, .slice none 0 0, v', s48, s49, s50, s7, rfl, f1, f2, f3, f5, d8, hJ.app h0 (by simpa using hr) hg⟩
              case o5 =>
                rintro L a' W' K ⟨vs, rfl, s43, s44, s45, s46, s47, s48, s49, s50, s7, rfl, f1, f2, f3, f5, d8, hJ⟩ hL hd hK
                simp only [putAll, Act.put, List.setIfInBounds_toArray, List.set_cons_zero, List.set_cons_succ]
                have zz : ∀ j, W'.cell? ⟨pb, j, none⟩ = #[.string x.name, .string x.owner, .int .i64 x.prio, .slice B1 x.need.length d1, .slice B2 x.labels.length d2, .slice B3 x.sel.length d3, .slice B4 x.tols.length d4, .string x.key, .int .i64 x.most, .string x.node, .bool false][j]? := fun j => (hJ.1.cell (p := ⟨pb, j, none⟩) lx).trans (yq j)
                go_simp
                exact hK _ _ ⟨[s43, s44, s45, s46, s47, .agg #[.string x.name, .string x.owner, .int .i64 x.prio, .slice B1 x.need.length d1, .slice B2 x.labels.length d2, .slice B3 x.sel.length d3, .slice B4 x.tols.length d4, .string x.key, .int .i64 x.most, .string x.node, .bool false], s49, s50, s7], (by simp only [putAll, Act.put, List.setIfInBounds_toArray, List.set_cons_zero, List.set_cons_succ]), s43, s44, s45, s46, s47, .agg #[.string x.name, .string x.owner, .int .i64 x.prio, .slice B1 x.need.length d1, .slice B2 x.labels.length d2, .slice B3 x.sel.length d3, .slice B4 x.tols.length d4, .string x.key, .int .i64 x.most, .string x.node, .bool false], s49, s50, s7, rfl, f1, f2, f3, (fun _ => rfl), d8, hJ⟩
              case o6 =>
                rintro L a' W' K ⟨vs, rfl, s43, s44, s45, s46, s47, s48, s49, s50, s7, rfl, f1, f2, f3, f5, d8, hJ⟩ hL hd hK
                simp only [putAll, Act.put, List.setIfInBounds_toArray, List.set_cons_zero, List.set_cons_succ]
                obtain rfl := f5 (hd 5 (by decide))
                rw [hL] at hJ
                go_simp
                exact hK _ _ ⟨[s43, s44, s45, s46, s47, .agg #[.string x.name, .string x.owner, .int .i64 x.prio, .slice B1 x.need.length d1, .slice B2 x.labels.length d2, .slice B3 x.sel.length d3, .slice B4 x.tols.length d4, .string x.key, .int .i64 x.most, .string x.node, .bool false], .slice (some ⟨W'.heap.size, 0, none⟩) 1 1, s50, s7], (by simp only [putAll, Act.put, List.setIfInBounds_toArray, List.set_cons_zero, List.set_cons_succ]), s43, s44, s45, s46, s47, .agg #[.string x.name, .string x.owner, .int .i64 x.prio, .slice B1 x.need.length d1, .slice B2 x.labels.length d2, .slice B3 x.sel.length d3, .slice B4 x.tols.length d4, .string x.key, .int .i64 x.most, .string x.node, .bool false], .slice (some ⟨W'.heap.size, 0, none⟩) 1 1, s50, s7, rfl, f1, f2, f3, f5, d8, hJ.alloc1⟩
              case o7 =>
                rintro L a' W' K ⟨vs, rfl, s43, s44, s45, s46, s47, s48, s49, s50, s7, rfl, f1, f2, f3, f5, d8, hJ⟩ hL hd hK
                simp only [putAll, Act.put, List.setIfInBounds_toArray, List.set_cons_zero, List.set_cons_succ]
                have h4 := hd 4 (by decide)
                have h6 := hd 6 (by decide)
                rw [hL] at hJ
                obtain ⟨g, rfl, hg1⟩ := hJ.one h6
                rw [if_pos (by rfl)]
                refine Kd.wp_piece (d := Kd.pod) _ w [] wq.heap.size 48 45 i0 _ 184 Tryz.underlying48 hi hz0 hz1 hz2 rfl (by decide) _ _ (hJ.row1 h4) (some ⟨g, 0, none⟩) 1 1 [x] (Kd.Piece.one hg1 HKX.out) pod_ones (by simp only [maxLen, List.length_take]; omega) (by simp only [List.length_take]; omega) hJ.1.size _ _ rfl rfl rfl ?_
                intro v' W2 hr hg _
                exact hK _ _ ⟨[s43, s44, s45, s46, s47, s48, .slice (some ⟨g, 0, none⟩) 1 1, v', s7], (by simp only [putAll, Act.put, List.setIfInBounds_toArray, List.set_cons_zero, List.set_cons_succ]), s43, s44, s45, s46, s47, s48, .slice (some ⟨g, 0, none⟩) 1 1, v', s7, rfl, f1, f2, f3, f5, (fun h => by have := (d8 h).1; rw [hL] at this; cases this), hJ.app2 h4 h6 hr hg⟩
              case o8 =>
                rintro L a' W' K ⟨vs, rfl, s43, s44, s45, s46, s47, s48, s49, s50, s7, rfl, f1, f2, f3, f5, d8, hJ⟩ hL hd hK
                simp only [putAll, Act.put, List.setIfInBounds_toArray, List.set_cons_zero, List.set_cons_succ]
                go_simp
                exact hK _ _ ⟨[s43, s44, s45, s46, s47, s48, s49, s50, s50], (by simp only [putAll, Act.put, List.setIfInBounds_toArray, List.set_cons_zero, List.set_cons_succ]), s43, s44, s45, s46, s47, s48, s49, s50, s50, rfl, f1, f2, f3, f5, (fun _ => ⟨hd 7 (by decide), rfl⟩), hJ⟩
              case rest =>
                rintro L vs W5 ⟨s43, s44, s45, s46, s47, s48, s49, s50, s7, rfl, -, -, -, -, d8, hJ⟩ hL
                obtain ⟨-, rfl⟩ := d8 (hL 8)
                rw [hL 7] at hJ
                obtain ⟨hbn, hrow⟩ := hJ.done
                have HBN := Lib.hid hbn
                have HROW := Lib.hid hrow
                have hbns := hbn.size
                clear hbn hrow hL
                simp only [putAll, Act.put, List.setIfInBounds_toArray, List.set_cons_zero, List.set_cons_succ]
                go_wp2_with (at_builtin; refine Kd.wpList_piece (d := Kd.pod) _ w [] wq.heap.size 48 45 i0 _ 184 Tryz.underlying48 hi hz0 hz1 hz2 rfl (by decide) _ _ HROW.out _ _ _ (([] : List Pd).drop 0) (by exact Kd.Piece.nil _ _ _ _ _) pod_ones (by simp only [maxLen, List.length_append, List.length_take, List.length_cons, List.length_nil]; omega) (by simp only [List.length_append, List.length_take, List.length_cons, List.length_nil]; omega) HBN.out.size _ _ rfl rfl rfl rfl ?_)
                all_goals (
                  intro v3 w3 hr3 hg3 _
                  have HRO := Lib.hid (fun q hq => (Kd.Row0.lt HROW.out q hq).1)
                  have hb3 := Below.grown HBN.out hg3 HBN.out.size HRO.out
                  have hr4 : Kd.pod.Row0 w [] w3 W.heap.size 45 v3 (sortP ((s.pods.take (k + 1)).filter pendB)) := by
                    rw [HS.out, HIN.out]
                    have := hr3.base_le HWQ.out.size
                    simpa using this
                  have HR4 := Lib.hid hr4
                  have HB4 : Hid (Below W.heap.size W w3) := Below.then HWQ.out hb3
                  clear hr3 hg3 hb3 hr4
                  go_wp2
                  go_roundw
                  case rel => exact ⟨k + 1, by omega, by go_num, HR4.out, HB4.out⟩
                  case measure => simp [intOf]; omega)
          · have HX := Lib.hid (And.intro hg hcm)
            have HRW := Lib.hid hrw
            have HKK := Lib.hid hkk
            have HCL := Lib.hid hcl
            clear hg hcm hcl hrw hkk
            go_wp2
            clear y yf
            go_loopw [6] (fun j wq => ∃ q : Nat, q ≤ ls.length ∧ j = .int .i64 q ∧ Hid (∀ i, (hi : i < ls.length) → q ≤ i → prioLt x ls[i] = true) ∧ Hid (Below V.heap.size V wq)) (fun j _ => (intOf j).toNat)
            case atStart => exact ⟨ls.length, Nat.le_refl _, by go_num, (fun i hi h => absurd h (by omega)), Below.refl _ _⟩
            case round =>
              obtain ⟨q, hq, rfl, HP, HBQ⟩ := hrel
              have HPX := Lib.hid ((HBQ.out.block _ (blk_lt HYX.out)).trans HYX.out)
              have HWQ := Lib.hid (Below.then HBV.out HBQ.out)
              have HB2 := Lib.hid (Below.then HBW.out HWQ.out)
              by_cases hq0 : 0 < q
              · obtain ⟨j, hj⟩ : ∃ j, q = j + 1 := ⟨q - 1, by omega⟩
                have hjl : j < ls.length := by omega
                have hw1 : IntKind.i64.wrap ((q : Int) - 1) = (j : Int) := by
                  have e : ((q : Int) - 1) = (j : Int) := by omega
                  rw [e]
                  exact IntWalk.i64_in (j : Int) (by omega)
                have b3 : (0 : Int) ≤ (j : Int) := by omega
                have b4 : (j : Int) < (ls.length : Int) := by omega
                have g0 : decide ((0 : Int) < (q : Int)) = true := by simp; omega
                obtain ⟨u, hu⟩ : ∃ u, ls[j] = u := ⟨_, rfl⟩
                obtain ⟨cu, hcu, hku⟩ := HKK.out j u (by rw [List.getElem?_eq_getElem hjl, hu])
                have HKU := Lib.hid hku
                have hcell := (HRW.out.below HBQ.out).at_ j cu hcu
                obtain ⟨C1, e1, C2, e2, C3, e3, C4, e4, rfl, -⟩ := hku
                have q0 : wr.cell? ⟨g, j * 11, none⟩ = some (.string u.name) := hcell 0 _ rfl
                have q1 : wr.cell? ⟨g, j * 11 + 1, none⟩ = some (.string u.owner) := hcell 1 _ rfl
                have q2 : wr.cell? ⟨g, j * 11 + 2, none⟩ = some (.int .i64 u.prio) := hcell 2 _ rfl
                have q3 : wr.cell? ⟨g, j * 11 + 3, none⟩ = some (.slice C1 u.need.length e1) := hcell 3 _ rfl
                have q4 : wr.cell? ⟨g, j * 11 + 4, none⟩ = some (.slice C2 u.labels.length e2) := hcell 4 _ rfl
                have q5 : wr.cell? ⟨g, j * 11 + 5, none⟩ = some (.slice C3 u.sel.length e3) := hcell 5 _ rfl
                have q6 : wr.cell? ⟨g, j * 11 + 6, none⟩ = some (.slice C4 u.tols.length e4) := hcell 6 _ rfl
                have q7 : wr.cell? ⟨g, j * 11 + 7, none⟩ = some (.string u.key) := hcell 7 _ rfl
                have q8 : wr.cell? ⟨g, j * 11 + 8, none⟩ = some (.int .i64 u.most) := hcell 8 _ rfl
                have q9 : wr.cell? ⟨g, j * 11 + 9, none⟩ = some (.string u.node) := hcell 9 _ rfl
                have q10 : wr.cell? ⟨g, j * 11 + 10, none⟩ = some (.bool u.hold) := hcell 10 _ rfl
                obtain ⟨y, yf⟩ := blk_all HPX.out
                have HU := Lib.hid hu
                have HJ := Lib.hid hj
                clear hcell hcu hu hj
                go_upto_region 8 with fail
                go_still_tail 9, (by kernel_rfl)
                change wpList _ _ _ _ _ wr.drew
                have hdb := drew_below wr
                have HB3 := Lib.hid (Below.then HB2.out hdb)
                have HBQ3 := Lib.hid (Below.then HBQ.out hdb)
                generalize wr.drew = U at HB3 HBQ3 ⊢
                clear hdb y yf q0 q1 q2 q3 q4 q5 q6 q7 q8 q9 q10
                go_wp2_with fail
                refine (RCompare_calls _ _ x u _ ⟨_, rfl, Kd.pod.mono (vw_below HB3.out) HKX.out⟩ ⟨_, rfl, Kd.pod.mono (vw_below HB3.out) HKU.out⟩).mono ?_
                rintro e w5 ⟨n, rfl, hn, hb⟩
                obtain ⟨b, hb2⟩ : ∃ b, prioLt x u = b := ⟨_, rfl⟩
                rw [hb2] at hn
                have HLT := Lib.hid hb2
                have HBQ5 := Lib.hid (Below.then HBQ3.out hb)
                clear hb hb2
                cases b with
                | true =>
                  have hj := HJ.out
                  have HP5 : Hid (∀ i, (hi : i < ls.length) → j ≤ i → prioLt x ls[i] = true) := fun i hi hji => by
                    rcases Nat.lt_or_ge i q with h | h
                    · obtain rfl : i = j := by omega
                      rw [HU.out]; exact HLT.out
                    · exact HP.out i hi h
                  clear hj
                  go_wp2
                  have hj := HJ.out
                  go_roundw
                  case rel => exact ⟨j, by omega, by go_num, HP5.out, HBQ5.out⟩
                  case measure => simp [intOf]; omega
                | false =>
                  have HIN : Hid (insP x ls = ls.take q ++ x :: ls.drop q) := insP_here HOR.out hq HP.out (fun hi _ => by
                    have e : ls[q - 1] = u := by have hj := HJ.out; subst hj; exact HU.out
                    rw [e]; exact HLT.out)
                  replace HPX := Lib.hid ((HBQ5.out.block _ (blk_lt HYX.out)).trans HYX.out)
                  replace HWQ := Lib.hid (Below.then HBV.out HBQ5.out)
                  clear HLT HB2 HB3 HBQ3 HBQ
                  go_wp2
                  clear hn
                  have s1 : (0 : Int) ≤ (q : Int) := by omega
                  have s2 : (q : Int) ≤ (cap : Int) := by omega
                  have s3 : (q : Int) ≤ (ls.length : Int) := by omega
                  have lx := blk_lt HPX.out
                  have yq := (blk_all HPX.out).1
                  go_upto_region 10 with fail
                  refine wp_region_slots [43, 44, 45, 46, 47, 48, 49, 50, 7] (fun L vs W' => ∃ s43 s44 s45 s46 s47 s48 s49 s50 s7 : Value, vs = [s43, s44, s45, s46, s47, s48, s49, s50, s7] ∧ (L 1 = true → s44 = .slice (some ⟨g, 0, none⟩) ls.length cap) ∧ (L 2 = true → s45 = .int .i64 (q : Int)) ∧ (L 3 = true → s46 = .slice (some ⟨g, 0, none⟩) q cap) ∧ (L 5 = true → s48 = .agg #[.string x.name, .string x.owner, .int .i64 x.prio, .slice B1 x.need.length d1, .slice B2 x.labels.length d2, .slice B3 x.sel.length d3, .slice B4 x.tols.length d4, .string x.key, .int .i64 x.most, .string x.node, .bool false]) ∧ (L 8 = true → L 7 = true ∧ s7 = s50) ∧ Kd.InsJ Kd.pod w [] w5 45 (ls.take q) (x) [.string x.name, .string x.owner, .int .i64 x.prio, .slice B1 x.need.length d1, .slice B2 x.labels.length d2, .slice B3 x.sel.length d3, .slice B4 x.tols.length d4, .string x.key, .int .i64 x.most, .string x.node, .bool false] (L 0) (L 4) (L 6) (L 7) s43 s47 s49 s50 W') (by kernel_rfl) (by kernel_rfl) ?start (And.intro ?o0 (And.intro ?o1 (And.intro ?o2 (And.intro ?o3 (And.intro ?o4 (And.intro ?o5 (And.intro ?o6 (And.intro ?o7 (And.intro ?o8 trivial))))))))) ?rest
                  case start =>
                    intro L vs hL hlen
                    obtain ⟨s43, s44, s45, s46, s47, s48, s49, s50, s7, rfl⟩ := list_of9 hlen
                    have h0 := hL 0 (by simp)
                    have h1 := hL 1 (by simp)
                    have h2 := hL 2 (by simp)
                    have h3 := hL 3 (by simp)
                    have h4 := hL 4 (by simp)
                    have h5 := hL 5 (by simp)
                    have h6 := hL 6 (by simp)
                    have h7 := hL 7 (by simp)
                    have h8 := hL 8 (by simp)
                    refine ⟨s43, s44, s45, s46, s47, s48, s49, s50, s7, rfl, (fun h => by rw [h1] at h; cases h), (fun h => by rw [h2] at h; cases h), (fun h => by rw [h3] at h; cases h), (fun h => by rw [h5] at h; cases h), (fun h => by rw [h8] at h; cases h), ?_⟩
                    rw [h0, h4, h6, h7]; exact Kd.InsJ.start (drew_below _)
                  case o0 =>
                    rintro L a' W' K ⟨vs, rfl, s43, s44, s45, s46, s47, s48, s49, s50, s7, rfl, f1, f2, f3, f5, d8, hJ⟩ hL hd hK
                    simp only [putAll, Act.put, List.setIfInBounds_toArray, List.set_cons_zero, List.set_cons_succ]
                    rw [hL] at hJ
                    go_simp
                    exact hK _ _ ⟨[.slice (some ⟨W'.heap.size, 0, none⟩) 0 0, s44, s45, s46, s47, s48, s49, s50, s7], (by simp only [putAll, Act.put, List.setIfInBounds_toArray, List.set_cons_zero, List.set_cons_succ]), .slice (some ⟨W'.heap.size, 0, none⟩) 0 0, s44, s45, s46, s47, s48, s49, s50, s7, rfl, f1, f2, f3, f5, d8, hJ.alloc0⟩
                  case o1 =>
                    rintro L a' W' K ⟨vs, rfl, s43, s44, s45, s46, s47, s48, s49, s50, s7, rfl, f1, f2, f3, f5, d8, hJ⟩ hL hd hK
                    simp only [putAll, Act.put, List.setIfInBounds_toArray, List.set_cons_zero, List.set_cons_succ]
                    go_simp
                    exact hK _ _ ⟨[s43, .slice (some ⟨g, 0, none⟩) ls.length cap, s45, s46, s47, s48, s49, s50, s7], (by simp only [putAll, Act.put, List.setIfInBounds_toArray, List.set_cons_zero, List.set_cons_succ]), s43, .slice (some ⟨g, 0, none⟩) ls.length cap, s45, s46, s47, s48, s49, s50, s7, rfl, (fun _ => rfl), f2, f3, f5, d8, hJ⟩
                  case o2 =>
                    rintro L a' W' K ⟨vs, rfl, s43, s44, s45, s46, s47, s48, s49, s50, s7, rfl, f1, f2, f3, f5, d8, hJ⟩ hL hd hK
                    simp only [putAll, Act.put, List.setIfInBounds_toArray, List.set_cons_zero, List.set_cons_succ]
                    go_simp
                    exact hK _ _ ⟨[s43, s44, .int .i64 (q : Int), s46, s47, s48, s49, s50, s7], (by simp only [putAll, Act.put, List.setIfInBounds_toArray, List.set_cons_zero, List.set_cons_succ]), s43, s44, .int .i64 (q : Int), s46, s47, s48, s49, s50, s7, rfl, f1, (fun _ => rfl), f3, f5, d8, hJ⟩
                  case o3 =>
                    rintro L a' W' K ⟨vs, rfl, s43, s44, s45, s46, s47, s48, s49, s50, s7, rfl, f1, f2, f3, f5, d8, hJ⟩ hL hd hK
                    simp only [putAll, Act.put, List.setIfInBounds_toArray, List.set_cons_zero, List.set_cons_succ]
                    obtain rfl := f1 (hd 1 (by decide))
                    obtain rfl := f2 (hd 2 (by decide))
                    go_simp
                    exact hK _ _ ⟨[s43, .slice (some ⟨g, 0, none⟩) ls.length cap, .int .i64 (q : Int), .slice (some ⟨g, 0, none⟩) q cap, s47, s48, s49, s50, s7], (by simp only [putAll, Act.put, List.setIfInBounds_toArray, List.set_cons_zero, List.set_cons_succ]), s43, .slice (some ⟨g, 0, none⟩) ls.length cap, .int .i64 (q : Int), .slice (some ⟨g, 0, none⟩) q cap, s47, s48, s49, s50, s7, rfl, f1, f2, (fun _ => rfl), f5, d8, hJ⟩
                  case o4 =>
                    rintro L a' W' K ⟨vs, rfl, s43, s44, s45, s46, s47, s48, s49, s50, s7, rfl, f1, f2, f3, f5, d8, hJ⟩ hL hd hK
                    simp only [putAll, Act.put, List.setIfInBounds_toArray, List.set_cons_zero, List.set_cons_succ]
                    have h0 := hd 0 (by decide)
                    obtain rfl := f3 (hd 3 (by decide))
                    rw [hL] at hJ
                    rw [if_pos (by rfl)]
                    refine Kd.wp_piece (d := Kd.pod) _ w [] w5.heap.size 48 45 i0 _ 184 Tryz.underlying48 hi hz0 hz1 hz2 rfl (by decide) _ [] (hJ.row0 h0) (some ⟨g, 0, none⟩) q cap (ls.take q) ((Kd.Piece.take (by decide) (HRW.out.below HBQ5.out) HCL.out HKK.out hq).below hJ.1) pod_ones (by simp only [maxLen, List.length_nil]; omega) (by simp only [List.length_nil]; omega) hJ.1.size _ _ rfl rfl rfl ?_
                    intro v' W2 hr hg _
                    exact hK _ _ ⟨[s43, s44, s45, .slice (some ⟨g, 0, none⟩) q cap, v', s48, s49, s50, s7], (by simp only [putAll, Act.put, List.setIfInBounds_toArray, List.set_cons_zero, List.set_cons_succ]), s43, s44, s45, .slice (some ⟨g, 0, none⟩) q cap, v', s48, s49, s50, s7, rfl, f1, f2, f3, f5, d8, hJ.app h0 (by simpa using hr) hg⟩
                  case o5 =>
                    rintro L a' W' K ⟨vs, rfl, s43, s44, s45, s46, s47, s48, s49, s50, s7, rfl, f1, f2, f3, f5, d8, hJ⟩ hL hd hK
                    simp only [putAll, Act.put, List.setIfInBounds_toArray, List.set_cons_zero, List.set_cons_succ]
                    have zz : ∀ j, W'.cell? ⟨pb, j, none⟩ = #[.string x.name, .string x.owner, .int .i64 x.prio, .slice B1 x.need.length d1, .slice B2 x.labels.length d2, .slice B3 x.sel.length d3, .slice B4 x.tols.length d4, .string x.key, .int .i64 x.most, .string x.node, .bool false][j]? := fun j => (hJ.1.cell (p := ⟨pb, j, none⟩) lx).trans (yq j)
                    go_simp
                    exact hK _ _ ⟨[s43, s44, s45, s46, s47, .agg #[.string x.name, .string x.owner, .int .i64 x.prio, .slice B1 x.need.length d1, .slice B2 x.labels.length d2, .slice B3 x.sel.length d3, .slice B4 x.tols.length d4, .string x.key, .int .i64 x.most, .string x.node, .bool false], s49, s50, s7], (by simp only [putAll, Act.put, List.setIfInBounds_toArray, List.set_cons_zero, List.set_cons_succ]), s43, s44, s45, s46, s47, .agg #[.string x.name, .string x.owner, .int .i64 x.prio, .slice B1 x.need.length d1, .slice B2 x.labels.length d2, .slice B3 x.sel.length d3, .slice B4 x.tols.length d4, .string x.key, .int .i64 x.most, .string x.node, .bool false], s49, s50, s7, rfl, f1, f2, f3, (fun _ => rfl), d8, hJ⟩
                  case o6 =>
                    rintro L a' W' K ⟨vs, rfl, s43, s44, s45, s46, s47, s48, s49, s50, s7, rfl, f1, f2, f3, f5, d8, hJ⟩ hL hd hK
                    simp only [putAll, Act.put, List.setIfInBounds_toArray, List.set_cons_zero, List.set_cons_succ]
                    obtain rfl := f5 (hd 5 (by decide))
                    rw [hL] at hJ
                    go_simp
                    exact hK _ _ ⟨[s43, s44, s45, s46, s47, .agg #[.string x.name, .string x.owner, .int .i64 x.prio, .slice B1 x.need.length d1, .slice B2 x.labels.length d2, .slice B3 x.sel.length d3, .slice B4 x.tols.length d4, .string x.key, .int .i64 x.most, .string x.node, .bool false], .slice (some ⟨W'.heap.size, 0, none⟩) 1 1, s50, s7], (by simp only [putAll, Act.put, List.setIfInBounds_toArray, List.set_cons_zero, List.set_cons_succ]), s43, s44, s45, s46, s47, .agg #[.string x.name, .string x.owner, .int .i64 x.prio, .slice B1 x.need.length d1, .slice B2 x.labels.length d2, .slice B3 x.sel.length d3, .slice B4 x.tols.length d4, .string x.key, .int .i64 x.most, .string x.node, .bool false], .slice (some ⟨W'.heap.size, 0, none⟩) 1 1, s50, s7, rfl, f1, f2, f3, f5, d8, hJ.alloc1⟩
                  case o7 =>
                    rintro L a' W' K ⟨vs, rfl, s43, s44, s45, s46, s47, s48, s49, s50, s7, rfl, f1, f2, f3, f5, d8, hJ⟩ hL hd hK
                    simp only [putAll, Act.put, List.setIfInBounds_toArray, List.set_cons_zero, List.set_cons_succ]
                    have h4 := hd 4 (by decide)
                    have h6 := hd 6 (by decide)
                    rw [hL] at hJ
                    obtain ⟨g, rfl, hg1⟩ := hJ.one h6
                    rw [if_pos (by rfl)]
                    refine Kd.wp_piece (d := Kd.pod) _ w [] w5.heap.size 48 45 i0 _ 184 Tryz.underlying48 hi hz0 hz1 hz2 rfl (by decide) _ _ (hJ.row1 h4) (some ⟨g, 0, none⟩) 1 1 [x] (Kd.Piece.one hg1 HKX.out) pod_ones (by simp only [maxLen, List.length_take]; omega) (by simp only [List.length_take]; omega) hJ.1.size _ _ rfl rfl rfl ?_
                    intro v' W2 hr hg _
                    exact hK _ _ ⟨[s43, s44, s45, s46, s47, s48, .slice (some ⟨g, 0, none⟩) 1 1, v', s7], (by simp only [putAll, Act.put, List.setIfInBounds_toArray, List.set_cons_zero, List.set_cons_succ]), s43, s44, s45, s46, s47, s48, .slice (some ⟨g, 0, none⟩) 1 1, v', s7, rfl, f1, f2, f3, f5, (fun h => by have := (d8 h).1; rw [hL] at this; cases this), hJ.app2 h4 h6 hr hg⟩
                  case o8 =>
                    rintro L a' W' K ⟨vs, rfl, s43, s44, s45, s46, s47, s48, s49, s50, s7, rfl, f1, f2, f3, f5, d8, hJ⟩ hL hd hK
                    simp only [putAll, Act.put, List.setIfInBounds_toArray, List.set_cons_zero, List.set_cons_succ]
                    go_simp
                    exact hK _ _ ⟨[s43, s44, s45, s46, s47, s48, s49, s50, s50], (by simp only [putAll, Act.put, List.setIfInBounds_toArray, List.set_cons_zero, List.set_cons_succ]), s43, s44, s45, s46, s47, s48, s49, s50, s50, rfl, f1, f2, f3, f5, (fun _ => ⟨hd 7 (by decide), rfl⟩), hJ⟩
                  case rest =>
                    rintro L vs W5 ⟨s43, s44, s45, s46, s47, s48, s49, s50, s7, rfl, -, -, -, -, d8, hJ⟩ hL
                    obtain ⟨-, rfl⟩ := d8 (hL 8)
                    rw [hL 7] at hJ
                    obtain ⟨hbn, hrow⟩ := hJ.done
                    have HBN := Lib.hid hbn
                    have HROW := Lib.hid hrow
                    have hbns := hbn.size
                    have HRW5 := Lib.hid (HRW.out.below (Below.then (HBQ5.out) HBN.out))
                    clear hbn hrow hL
                    simp only [putAll, Act.put, List.setIfInBounds_toArray, List.set_cons_zero, List.set_cons_succ]
                    go_wp2_with (at_builtin; refine Kd.wpList_piece (d := Kd.pod) _ w [] w5.heap.size 48 45 i0 _ 184 Tryz.underlying48 hi hz0 hz1 hz2 rfl (by decide) _ _ HROW.out _ _ _ (ls.drop q) (by first | (split <;> first | exact Kd.Piece.none_left (by omega) | exact Kd.Piece.drop (by decide) HRW5.out HCL.out HKK.out q (by rfl)) | exact Kd.Piece.none_left (by omega) | exact Kd.Piece.drop (d := Kd.pod) (by decide) HRW5.out HCL.out HKK.out q rfl) pod_ones (by simp only [maxLen, List.length_append, List.length_take, List.length_cons, List.length_nil]; omega) (by simp only [List.length_append, List.length_take, List.length_cons, List.length_nil]; omega) HBN.out.size _ _ rfl rfl rfl rfl ?_)
                    all_goals (
                      intro v3 w3 hr3 hg3 _
                      have HRO := Lib.hid (fun q hq => (Kd.Row0.lt HROW.out q hq).1)
                      have hb3 := Below.grown HBN.out hg3 HBN.out.size HRO.out
                      have hr4 : Kd.pod.Row0 w [] w3 W.heap.size 45 v3 (sortP ((s.pods.take (k + 1)).filter pendB)) := by
                        rw [HS.out, HIN.out]
                        have := hr3.base_le HWQ.out.size
                        simpa using this
                      have HR4 := Lib.hid hr4
                      have HB4 : Hid (Below W.heap.size W w3) := Below.then HWQ.out hb3
                      clear hr3 hg3 hb3 hr4
                      go_wp2
                      go_roundw
                      case rel => exact ⟨k + 1, by omega, by go_num, HR4.out, HB4.out⟩
                      case measure => simp [intOf]; omega)
              · have HIN : Hid (insP x ls = ls.take q ++ x :: ls.drop q) := insP_here HOR.out hq HP.out (fun _ h => absurd h (by omega))
                have g0 : decide ((0 : Int) < (q : Int)) = false := decide_eq_false (by omega)
                have g1 : decide (0 < q) = false := decide_eq_false (by omega)
                have s1 : (0 : Int) ≤ (q : Int) := by omega
                have s2 : (q : Int) ≤ (cap : Int) := by omega
                have s3 : (q : Int) ≤ (ls.length : Int) := by omega
                clear HPX HWQ HB2 hq0
                go_upto_region 8 with fail
                go_quiet (fail)
                have HBQ2 : Hid (Below V.heap.size V (wr.drewN nq)) := drewN_then HBQ.out nq
                generalize wr.drewN nq = wq at HBQ2 ⊢
                have HPX := Lib.hid ((HBQ2.out.block _ (blk_lt HYX.out)).trans HYX.out)
                have HWQ := Lib.hid (Below.then HBV.out HBQ2.out)
                clear g0 g1
                have lx := blk_lt HPX.out
                have yq := (blk_all HPX.out).1
                go_upto_region 10 with fail
                refine wp_region_slots [43, 44, 45, 46, 47, 48, 49, 50, 7] (fun L vs W' => ∃ s43 s44 s45 s46 s47 s48 s49 s50 s7 : Value, vs = [s43, s44, s45, s46, s47, s48, s49, s50, s7] ∧ (L 1 = true → s44 = .slice (some ⟨g, 0, none⟩) ls.length cap) ∧ (L 2 = true → s45 = .int .i64 (q : Int)) ∧ (L 3 = true → s46 = .slice (some ⟨g, 0, none⟩) q cap) ∧ (L 5 = true → s48 = .agg #[.string x.name, .string x.owner, .int .i64 x.prio, .slice B1 x.need.length d1, .slice B2 x.labels.length d2, .slice B3 x.sel.length d3, .slice B4 x.tols.length d4, .string x.key, .int .i64 x.most, .string x.node, .bool false]) ∧ (L 8 = true → L 7 = true ∧ s7 = s50) ∧ Kd.InsJ Kd.pod w [] wq 45 (ls.take q) (x) [.string x.name, .string x.owner, .int .i64 x.prio, .slice B1 x.need.length d1, .slice B2 x.labels.length d2, .slice B3 x.sel.length d3, .slice B4 x.tols.length d4, .string x.key, .int .i64 x.most, .string x.node, .bool false] (L 0) (L 4) (L 6) (L 7) s43 s47 s49 s50 W') (by kernel_rfl) (by kernel_rfl) ?start (And.intro ?o0 (And.intro ?o1 (And.intro ?o2 (And.intro ?o3 (And.intro ?o4 (And.intro ?o5 (And.intro ?o6 (And.intro ?o7 (And.intro ?o8 trivial))))))))) ?rest
                case start =>
                  intro L vs hL hlen
                  obtain ⟨s43, s44, s45, s46, s47, s48, s49, s50, s7, rfl⟩ := list_of9 hlen
                  have h0 := hL 0 (by simp)
                  have h1 := hL 1 (by simp)
                  have h2 := hL 2 (by simp)
                  have h3 := hL 3 (by simp)
                  have h4 := hL 4 (by simp)
                  have h5 := hL 5 (by simp)
                  have h6 := hL 6 (by simp)
                  have h7 := hL 7 (by simp)
                  have h8 := hL 8 (by simp)
                  refine ⟨s43, s44, s45, s46, s47, s48, s49, s50, s7, rfl, (fun h => by rw [h1] at h; cases h), (fun h => by rw [h2] at h; cases h), (fun h => by rw [h3] at h; cases h), (fun h => by rw [h5] at h; cases h), (fun h => by rw [h8] at h; cases h), ?_⟩
                  rw [h0, h4, h6, h7]; exact Kd.InsJ.start (drew_below _)
                case o0 =>
                  rintro L a' W' K ⟨vs, rfl, s43, s44, s45, s46, s47, s48, s49, s50, s7, rfl, f1, f2, f3, f5, d8, hJ⟩ hL hd hK
                  simp only [putAll, Act.put, List.setIfInBounds_toArray, List.set_cons_zero, List.set_cons_succ]
                  rw [hL] at hJ
                  go_simp
                  exact hK _ _ ⟨[.slice (some ⟨W'.heap.size, 0, none⟩) 0 0, s44, s45, s46, s47, s48, s49, s50, s7], (by simp only [putAll, Act.put, List.setIfInBounds_toArray, List.set_cons_zero, List.set_cons_succ]), .slice (some ⟨W'.heap.size, 0, none⟩) 0 0, s44, s45, s46, s47, s48, s49, s50, s7, rfl, f1, f2, f3, f5, d8, hJ.alloc0⟩
                case o1 =>
                  rintro L a' W' K ⟨vs, rfl, s43, s44, s45, s46, s47, s48, s49, s50, s7, rfl, f1, f2, f3, f5, d8, hJ⟩ hL hd hK
                  simp only [putAll, Act.put, List.setIfInBounds_toArray, List.set_cons_zero, List.set_cons_succ]
                  go_simp
                  exact hK _ _ ⟨[s43, .slice (some ⟨g, 0, none⟩) ls.length cap, s45, s46, s47, s48, s49, s50, s7], (by simp only [putAll, Act.put, List.setIfInBounds_toArray, List.set_cons_zero, List.set_cons_succ]), s43, .slice (some ⟨g, 0, none⟩) ls.length cap, s45, s46, s47, s48, s49, s50, s7, rfl, (fun _ => rfl), f2, f3, f5, d8, hJ⟩
                case o2 =>
                  rintro L a' W' K ⟨vs, rfl, s43, s44, s45, s46, s47, s48, s49, s50, s7, rfl, f1, f2, f3, f5, d8, hJ⟩ hL hd hK
                  simp only [putAll, Act.put, List.setIfInBounds_toArray, List.set_cons_zero, List.set_cons_succ]
                  go_simp
                  exact hK _ _ ⟨[s43, s44, .int .i64 (q : Int), s46, s47, s48, s49, s50, s7], (by simp only [putAll, Act.put, List.setIfInBounds_toArray, List.set_cons_zero, List.set_cons_succ]), s43, s44, .int .i64 (q : Int), s46, s47, s48, s49, s50, s7, rfl, f1, (fun _ => rfl), f3, f5, d8, hJ⟩
                case o3 =>
                  rintro L a' W' K ⟨vs, rfl, s43, s44, s45, s46, s47, s48, s49, s50, s7, rfl, f1, f2, f3, f5, d8, hJ⟩ hL hd hK
                  simp only [putAll, Act.put, List.setIfInBounds_toArray, List.set_cons_zero, List.set_cons_succ]
                  obtain rfl := f1 (hd 1 (by decide))
                  obtain rfl := f2 (hd 2 (by decide))
                  go_simp
                  exact hK _ _ ⟨[s43, .slice (some ⟨g, 0, none⟩) ls.length cap, .int .i64 (q : Int), .slice (some ⟨g, 0, none⟩) q cap, s47, s48, s49, s50, s7], (by simp only [putAll, Act.put, List.setIfInBounds_toArray, List.set_cons_zero, List.set_cons_succ]), s43, .slice (some ⟨g, 0, none⟩) ls.length cap, .int .i64 (q : Int), .slice (some ⟨g, 0, none⟩) q cap, s47, s48, s49, s50, s7, rfl, f1, f2, (fun _ => rfl), f5, d8, hJ⟩
                case o4 =>
                  rintro L a' W' K ⟨vs, rfl, s43, s44, s45, s46, s47, s48, s49, s50, s7, rfl, f1, f2, f3, f5, d8, hJ⟩ hL hd hK
                  simp only [putAll, Act.put, List.setIfInBounds_toArray, List.set_cons_zero, List.set_cons_succ]
                  have h0 := hd 0 (by decide)
                  obtain rfl := f3 (hd 3 (by decide))
                  rw [hL] at hJ
                  rw [if_pos (by rfl)]
                  refine Kd.wp_piece (d := Kd.pod) _ w [] wq.heap.size 48 45 i0 _ 184 Tryz.underlying48 hi hz0 hz1 hz2 rfl (by decide) _ [] (hJ.row0 h0) (some ⟨g, 0, none⟩) q cap (ls.take q) ((Kd.Piece.take (by decide) (HRW.out.below HBQ2.out) HCL.out HKK.out hq).below hJ.1) pod_ones (by simp only [maxLen, List.length_nil]; omega) (by simp only [List.length_nil]; omega) hJ.1.size _ _ rfl rfl rfl ?_
                  intro v' W2 hr hg _
                  exact hK _ _ ⟨[s43, s44, s45, .slice (some ⟨g, 0, none⟩) q cap, v', s48, s49, s50, s7], (by simp only [putAll, Act.put, List.setIfInBounds_toArray, List.set_cons_zero, List.set_cons_succ]), s43, s44, s45, .slice (some ⟨g, 0, none⟩) q cap, v', s48, s49, s50, s7, rfl, f1, f2, f3, f5, d8, hJ.app h0 (by simpa using hr) hg⟩
                case o5 =>
                  rintro L a' W' K ⟨vs, rfl, s43, s44, s45, s46, s47, s48, s49, s50, s7, rfl, f1, f2, f3, f5, d8, hJ⟩ hL hd hK
                  simp only [putAll, Act.put, List.setIfInBounds_toArray, List.set_cons_zero, List.set_cons_succ]
                  have zz : ∀ j, W'.cell? ⟨pb, j, none⟩ = #[.string x.name, .string x.owner, .int .i64 x.prio, .slice B1 x.need.length d1, .slice B2 x.labels.length d2, .slice B3 x.sel.length d3, .slice B4 x.tols.length d4, .string x.key, .int .i64 x.most, .string x.node, .bool false][j]? := fun j => (hJ.1.cell (p := ⟨pb, j, none⟩) lx).trans (yq j)
                  go_simp
                  exact hK _ _ ⟨[s43, s44, s45, s46, s47, .agg #[.string x.name, .string x.owner, .int .i64 x.prio, .slice B1 x.need.length d1, .slice B2 x.labels.length d2, .slice B3 x.sel.length d3, .slice B4 x.tols.length d4, .string x.key, .int .i64 x.most, .string x.node, .bool false], s49, s50, s7], (by simp only [putAll, Act.put, List.setIfInBounds_toArray, List.set_cons_zero, List.set_cons_succ]), s43, s44, s45, s46, s47, .agg #[.string x.name, .string x.owner, .int .i64 x.prio, .slice B1 x.need.length d1, .slice B2 x.labels.length d2, .slice B3 x.sel.length d3, .slice B4 x.tols.length d4, .string x.key, .int .i64 x.most, .string x.node, .bool false], s49, s50, s7, rfl, f1, f2, f3, (fun _ => rfl), d8, hJ⟩
                case o6 =>
                  rintro L a' W' K ⟨vs, rfl, s43, s44, s45, s46, s47, s48, s49, s50, s7, rfl, f1, f2, f3, f5, d8, hJ⟩ hL hd hK
                  simp only [putAll, Act.put, List.setIfInBounds_toArray, List.set_cons_zero, List.set_cons_succ]
                  obtain rfl := f5 (hd 5 (by decide))
                  rw [hL] at hJ
                  go_simp
                  exact hK _ _ ⟨[s43, s44, s45, s46, s47, .agg #[.string x.name, .string x.owner, .int .i64 x.prio, .slice B1 x.need.length d1, .slice B2 x.labels.length d2, .slice B3 x.sel.length d3, .slice B4 x.tols.length d4, .string x.key, .int .i64 x.most, .string x.node, .bool false], .slice (some ⟨W'.heap.size, 0, none⟩) 1 1, s50, s7], (by simp only [putAll, Act.put, List.setIfInBounds_toArray, List.set_cons_zero, List.set_cons_succ]), s43, s44, s45, s46, s47, .agg #[.string x.name, .string x.owner, .int .i64 x.prio, .slice B1 x.need.length d1, .slice B2 x.labels.length d2, .slice B3 x.sel.length d3, .slice B4 x.tols.length d4, .string x.key, .int .i64 x.most, .string x.node, .bool false], .slice (some ⟨W'.heap.size, 0, none⟩) 1 1, s50, s7, rfl, f1, f2, f3, f5, d8, hJ.alloc1⟩
                case o7 =>
                  rintro L a' W' K ⟨vs, rfl, s43, s44, s45, s46, s47, s48, s49, s50, s7, rfl, f1, f2, f3, f5, d8, hJ⟩ hL hd hK
                  simp only [putAll, Act.put, List.setIfInBounds_toArray, List.set_cons_zero, List.set_cons_succ]
                  have h4 := hd 4 (by decide)
                  have h6 := hd 6 (by decide)
                  rw [hL] at hJ
                  obtain ⟨g, rfl, hg1⟩ := hJ.one h6
                  rw [if_pos (by rfl)]
                  refine Kd.wp_piece (d := Kd.pod) _ w [] wq.heap.size 48 45 i0 _ 184 Tryz.underlying48 hi hz0 hz1 hz2 rfl (by decide) _ _ (hJ.row1 h4) (some ⟨g, 0, none⟩) 1 1 [x] (Kd.Piece.one hg1 HKX.out) pod_ones (by simp only [maxLen, List.length_take]; omega) (by simp only [List.length_take]; omega) hJ.1.size _ _ rfl rfl rfl ?_
                  intro v' W2 hr hg _
                  exact hK _ _ ⟨[s43, s44, s45, s46, s47, s48, .slice (some ⟨g, 0, none⟩) 1 1, v', s7], (by simp only [putAll, Act.put, List.setIfInBounds_toArray, List.set_cons_zero, List.set_cons_succ]), s43, s44, s45, s46, s47, s48, .slice (some ⟨g, 0, none⟩) 1 1, v', s7, rfl, f1, f2, f3, f5, (fun h => by have := (d8 h).1; rw [hL] at this; cases this), hJ.app2 h4 h6 hr hg⟩
                case o8 =>
                  rintro L a' W' K ⟨vs, rfl, s43, s44, s45, s46, s47, s48, s49, s50, s7, rfl, f1, f2, f3, f5, d8, hJ⟩ hL hd hK
                  simp only [putAll, Act.put, List.setIfInBounds_toArray, List.set_cons_zero, List.set_cons_succ]
                  go_simp
                  exact hK _ _ ⟨[s43, s44, s45, s46, s47, s48, s49, s50, s50], (by simp only [putAll, Act.put, List.setIfInBounds_toArray, List.set_cons_zero, List.set_cons_succ]), s43, s44, s45, s46, s47, s48, s49, s50, s50, rfl, f1, f2, f3, f5, (fun _ => ⟨hd 7 (by decide), rfl⟩), hJ⟩
                case rest =>
                  rintro L vs W5 ⟨s43, s44, s45, s46, s47, s48, s49, s50, s7, rfl, -, -, -, -, d8, hJ⟩ hL
                  obtain ⟨-, rfl⟩ := d8 (hL 8)
                  rw [hL 7] at hJ
                  obtain ⟨hbn, hrow⟩ := hJ.done
                  have HBN := Lib.hid hbn
                  have HROW := Lib.hid hrow
                  have hbns := hbn.size
                  have HRW5 := Lib.hid (HRW.out.below (Below.then (HBQ2.out) HBN.out))
                  clear hbn hrow hL
                  simp only [putAll, Act.put, List.setIfInBounds_toArray, List.set_cons_zero, List.set_cons_succ]
                  go_wp2_with (at_builtin; refine Kd.wpList_piece (d := Kd.pod) _ w [] wq.heap.size 48 45 i0 _ 184 Tryz.underlying48 hi hz0 hz1 hz2 rfl (by decide) _ _ HROW.out _ _ _ (ls.drop q) (by first | (split <;> first | exact Kd.Piece.none_left (by omega) | exact Kd.Piece.drop (by decide) HRW5.out HCL.out HKK.out q (by rfl)) | exact Kd.Piece.none_left (by omega) | exact Kd.Piece.drop (d := Kd.pod) (by decide) HRW5.out HCL.out HKK.out q rfl) pod_ones (by simp only [maxLen, List.length_append, List.length_take, List.length_cons, List.length_nil]; omega) (by simp only [List.length_append, List.length_take, List.length_cons, List.length_nil]; omega) HBN.out.size _ _ rfl rfl rfl rfl ?_)
                  all_goals (
                    intro v3 w3 hr3 hg3 _
                    have HRO := Lib.hid (fun q hq => (Kd.Row0.lt HROW.out q hq).1)
                    have hb3 := Below.grown HBN.out hg3 HBN.out.size HRO.out
                    have hr4 : Kd.pod.Row0 w [] w3 W.heap.size 45 v3 (sortP ((s.pods.take (k + 1)).filter pendB)) := by
                      rw [HS.out, HIN.out]
                      have := hr3.base_le HWQ.out.size
                      simpa using this
                    have HR4 := Lib.hid hr4
                    have HB4 : Hid (Below W.heap.size W w3) := Below.then HWQ.out hb3
                    clear hr3 hg3 hb3 hr4
                    go_wp2
                    go_roundw
                    case rel => exact ⟨k + 1, by omega, by go_num, HR4.out, HB4.out⟩
                    case measure => simp [intOf]; omega)
    · obtain rfl : k = s.pods.length := by omega
      have ho := HO.out
      rw [List.take_length] at ho
      have hl : (pendV s).length ≤ s.pods.length := by
        unfold pendV; rw [sortP_len]; exact List.length_filter_le _ _
      have hS := ho.S HB.out HBW.out.size (by simp) (show (pendV s).length ≤ _ by omega)
      obtain ⟨G, gc, rfl, hS⟩ := hS.val
      have HS : Hid (Kd.pod.S (vw wr []) (.slice G (pendV s).length gc) (pendV s)) := hS
      clear ho hS HO
      go_wp2
      go_ret
      exact ⟨G, gc, rfl, HS.out, HB.out⟩
end Go.Proofs.YtnmhicgbdalniaaGreatDoor
namespace Go.Proofs.YtnmhicgbdalniaaGreatDoor
open Go.RowKit Go.Sort

/-! Move: the reference's side. -/
set_option maxHeartbeats 8000000 in
set_option maxRecDepth 100000 in
theorem RMove_calls (v : Value) (s : St) (name to_ : ByteArray) (w : World) {M : List Nat} (hv : Kd.state.V (vw w M) v s) (hl : s.pods.length ≤ 1000) (hto : sok to_) (hM : ∀ b ∈ M, b < w.heap.size := by simp) :
    Calls Tryz.prog 91 #[v, .string name, .string to_] w (StDone M (moveS s name to_) w) := by
  obtain ⟨i0, hi, hz0, hz1, hz2⟩ := info_parts info_OfAll7
  obtain ⟨cs, rfl, A1, c1, A2, c2, A3, c3, rfl, s1, s2, s3⟩ := hv
  obtain ⟨css, hcl, hck, hcn, hcc⟩ := s2.lists
  have S1 := Lib.hid s1
  have S3 := Lib.hid s3
  have HTO := Lib.hid hto
  have hlen : ∀ c ∈ css, c.length = 11 := fun c hc => by
    obtain ⟨t, ht, rfl⟩ := List.getElem_of_mem hc
    exact Kd.pod.len (hck t (by omega) ht)
  have hfl := flatten_len css hlen
  have hfl2 : css.flatten.length = s.pods.length * 11 := by rw [hfl, hcl]
  have HCC := Lib.hid hcc
  have HCN := Lib.hid hcn
  have HCK := Lib.hid hck
  have HCL := Lib.hid hcl
  have HLEN := Lib.hid hlen
  have HFL := Lib.hid hfl2
  have HONE : Hid (∀ u ∈ css.flatten, u.oneCell' = true) := fun u hu => by
    obtain ⟨c, hc, hu⟩ := List.mem_flatten.1 hu
    obtain ⟨t, ht, rfl⟩ := List.getElem_of_mem hc
    obtain ⟨B1, d1, B2, d2, B3, d3, B4, d4, e, -⟩ := hck t (by omega) ht
    rw [e] at hu
    simp at hu
    rcases hu with rfl | rfl | rfl | rfl | rfl | rfl | rfl | rfl | rfl | rfl | rfl <;> rfl
  clear s1 s2 s3 hto hcc hcn hck hcl hlen hfl hfl2
  go_enter Tryz.func91, Tryz.ntmps91
  go_upto_region 1 with fail
  obtain ⟨W, hW, hbw, hk, hk2, hWs⟩ := al2 w (.cells #[.slice A1 s.nodes.length c1, .slice A2 s.pods.length c2, .slice A3 s.budgets.length c3] 51) (.cells #[.slice none 0 0, .slice none 0 0, .slice none 0 0] 51)
  rw [← hW]
  obtain ⟨z, zf⟩ := blk_all ((blk_old W (.cells #[] 45) (blk_lt hk)).trans hk)
  have HB := Lib.hid hbw
  have HK := Lib.hid hk
  have HK2 := Lib.hid hk2
  have HWS := Lib.hid hWs
  have NEWS : Hid (∀ ad2, A2 = some ad2 → ∀ j u, css.flatten[j]? = some u → (W.alloc (.cells #[] 45)).cell? (ad2.add j) = some u) := fun ad2 e j u hu => by
    refine Lib.cell?_alloc_some _ ((hbw.cell ?_).trans (HCC.out ad2 e j u hu))
    have := HCC.out ad2 e j u hu
    unfold World.cell? at this
    split at this
    · rename_i e; exact blk_lt e
    · cases this
  clear hW hbw hk hk2 hWs
  go_wp2_with (at_builtin; refine wpList_app _ W.heap.size 48 45 i0 _ 11 184 Tryz.underlying48 hi hz0 hz1 hz2 rfl (by decide) _ 0 [] (own_emptyN W 45 11) A2 s.pods.length c2 css.flatten HFL.out HCN.out NEWS.out HONE.out (by simp only [maxLen]; omega) (by omega) (by simp) _ _ rfl rfl rfl rfl ?_)
  intro v1 w1 ho1 hg1 hv1
  have HB1 := Lib.hid ((alloc_below W (.cells #[] 45)).grown hg1 (by simp) (fun q hq => ((own_emptyN W 45 11).lt q hq).1))
  have HO1 := Lib.hid ho1
  clear ho1 hg1 hv1 z zf
  rcases Nat.eq_zero_or_pos s.pods.length with h0 | hp
  · have hpe : (moveS s name to_).pods = [] := by rw [moveS_pods, List.eq_nil_of_length_eq_zero h0]; rfl
    obtain ⟨G, gc, rfl⟩ := Kd.row_form0 HO1.out
    have hgn := Kd.own_none HO1.out
    have HPE := Lib.hid hpe
    have HGN := Lib.hid hgn
    have HBX := Lib.hid (Below.then HB.out HB1.out)
    have HKA := Lib.hid ((HB1.out.block _ (blk_lt HK.out)).trans HK.out)
    have HKB := Lib.hid ((HB1.out.block _ (blk_lt HK2.out)).trans HK2.out)
    obtain ⟨z, zf⟩ := blk_all HKA.out
    clear hpe hgn NEWS HCC HCN HCK
    rw [h0]
    go_wp2
    go_loopw [8] (fun i wr => i = .int .i64 0 ∧ wr = w1) (fun _ _ => 0)
    case atStart => exact ⟨rfl, rfl⟩
    case round =>
      obtain ⟨rfl, rfl⟩ := hrel
      go_wp2_with fail
      refine (RWith_calls A1 A2 A3 G _ c1 _ c2 _ c3 _ gc _).mono ?_
      rintro e w2 ⟨rfl, hb⟩
      have HQ2 := Lib.hid ((hb.block _ (blk_lt HKB.out)).trans HKB.out)
      have HB2 := Lib.hid (Below.then HBX.out hb)
      have HBC := Lib.hid hb
      clear hb z zf
      obtain ⟨z, zf⟩ := blk_all HQ2.out
      go_wp2
      have hbel := Below.setCell (Below.setCell (Below.setCell HB2.out (p := ⟨w.heap.size + 1, 0, none⟩) (Nat.le_succ _) (.slice A1 s.nodes.length c1)) (p := ⟨w.heap.size + 1, 1, none⟩) (Nat.le_succ _) (.slice G 0 gc)) (p := ⟨w.heap.size + 1, 2, none⟩) (Nat.le_succ _) (.slice A3 s.budgets.length c3)
      have hpl : (moveS s name to_).pods.length = s.pods.length := by rw [moveS_pods, List.length_map]
      refine ret_row1 (cs := [.slice A1 s.nodes.length c1, .slice G 0 gc, .slice A3 s.budgets.length c3]) rfl rfl ((blk_set (blk_set (blk_set HQ2.out _) _) _).trans rfl) Tryz.underlying51 rfl (by kernel_rfl) rfl ⟨_, rfl, ⟨A1, c1, G, gc, A3, c3, ?_, S1.out.mono (vw_below hbel), ?_, S3.out.mono (vw_below hbel)⟩, hbel⟩
      · rw [HPE.out]; rfl
      · rw [HPE.out]; exact Kd.S.empty _ _ _ _ HGN.out

  · obtain ⟨g, cap, rfl, hg, hc1, hc2, hr⟩ := Rw.of_own HO1.out HCL.out HLEN.out hp
    have hgw : w.heap.size + 2 ≤ g := by have := HWS.out; omega
    have HBX := Lib.hid (Below.then HB.out HB1.out)
    have HKA := Lib.hid ((HB1.out.block _ (blk_lt HK.out)).trans HK.out)
    have HKB := Lib.hid ((HB1.out.block _ (blk_lt HK2.out)).trans HK2.out)
    have HRU := Lib.hid hr
    obtain ⟨z, zf⟩ := blk_all HKA.out
    clear hr NEWS HCC HCN hg
    go_wp2
    clear z zf
    go_loopw [8] (fun i wr => ∃ (k : Nat) (cur : List (List Value)), k ≤ s.pods.length ∧ i = .int .i64 k ∧ cur.length = s.pods.length ∧ Hid (wr.heap[w.heap.size]? = some (.cells #[.slice A1 s.nodes.length c1, .slice A2 s.pods.length c2, .slice A3 s.budgets.length c3] 51 (0, 0)) ∧ wr.heap[w.heap.size + 1]? = some (.cells #[.slice none 0 0, .slice none 0 0, .slice none 0 0] 51 (0, 0)))
      ∧ Hid (Rw wr g 11 cur) ∧ Hid (∀ (t : Nat) (ht : t < s.pods.length) (hc : t < cur.length), Kd.pod.K (vw w M) (if t < k then mvP name to_ s.pods[t] else s.pods[t]) cur[t]) ∧ Hid (Below w.heap.size w wr)) (fun i _ => s.pods.length - (intOf i).toNat)
    case atStart => exact ⟨0, css, Nat.zero_le _, rfl, HCL.out, ⟨HKA.out, HKB.out⟩, HRU.out, (fun t ht hc => by rw [if_neg (by omega)]; exact HCK.out t ht hc), HBX.out⟩
    case round =>
      clear HRU HBX HCK HKA HKB HCL
      obtain ⟨k, cur, hk, rfl, hcl, HG, HR, HCK, HBX⟩ := hrel
      have HCL := Lib.hid hcl
      obtain ⟨z, zf⟩ := blk_all HG.out.1
      by_cases hlt : k < s.pods.length
      · have hlc : k < cur.length := by omega
        have hkk := HCK.out k hlt hlc
        rw [if_neg (by omega)] at hkk
        obtain ⟨cx, hcx⟩ : ∃ cx, cur[k] = cx := ⟨_, rfl⟩
        have hget : cur[k]? = some cx := by rw [List.getElem?_eq_getElem hlc, hcx]
        rw [hcx] at hkk
        obtain ⟨x, hx⟩ : ∃ x, s.pods[k] = x := ⟨_, rfl⟩
        rw [hx] at hkk
        have HX := Lib.hid hx
        have HKX := Lib.hid hkk
        have HGET := Lib.hid hget
        obtain ⟨B1, d1, B2, d2, B3, d3, B4, d4, rfl, -⟩ := hkk
        have c0 : wr.cell? ⟨g, k * 11, none⟩ = some (.string x.name) := HR.out.at_ k _ hget 0 _ rfl
        have e1 := eq_beq x.name name
        obtain ⟨m, hm⟩ : ∃ m, decide (x.name = name) = m := ⟨_, rfl⟩
        rw [hm] at e1
        have HM := Lib.hid hm
        have hwr := HBX.out.size
        clear hx hget hcx hm
        cases m with
        | false =>
          have hne : ¬ x.name = name := of_decide_eq_false HM.out
          have HCK2 : Hid (∀ (t : Nat) (ht : t < s.pods.length) (hc : t < cur.length), Kd.pod.K (vw w M) (if t < k + 1 then mvP name to_ s.pods[t] else s.pods[t]) cur[t]) := fun t ht hc => by
            by_cases e : t = k
            · subst e
              have := HCK.out t ht hc
              rw [if_neg (by omega)] at this
              rw [if_pos (by omega), HX.out]
              unfold mvP
              rw [if_neg hne, ← HX.out]
              exact this
            · have := HCK.out t ht hc
              by_cases e2 : t < k
              · rw [if_pos e2] at this; rw [if_pos (by omega)]; exact this
              · rw [if_neg e2] at this; rw [if_neg (by omega)]; exact this
          clear hne
          go_wp2
          go_roundw
          case rel => exact ⟨k + 1, cur, by omega, by go_num, HCL.out, HG.out, HR.out, HCK2.out, HBX.out⟩
          case measure => simp [intOf]; omega
        | true =>
          have he : x.name = name := of_decide_eq_true HM.out
          have HCK2 : Hid (∀ (t : Nat) (ht : t < s.pods.length) (hc : t < (cur.set k ([Value.string x.name, .string x.owner, .int .i64 x.prio, .slice B1 x.need.length d1, .slice B2 x.labels.length d2, .slice B3 x.sel.length d3, .slice B4 x.tols.length d4, .string x.key, .int .i64 x.most, .string x.node, .bool x.hold].set 9 (.string to_))).length), Kd.pod.K (vw w M) (if t < k + 1 then mvP name to_ s.pods[t] else s.pods[t]) (cur.set k ([Value.string x.name, .string x.owner, .int .i64 x.prio, .slice B1 x.need.length d1, .slice B2 x.labels.length d2, .slice B3 x.sel.length d3, .slice B4 x.tols.length d4, .string x.key, .int .i64 x.most, .string x.node, .bool x.hold].set 9 (.string to_)))[t]) := fun t ht hc => by
            by_cases e : t = k
            · subst e
              rw [if_pos (by omega), HX.out, List.getElem_set_self]
              unfold mvP
              rw [if_pos he]
              exact pod_moved HKX.out HTO.out
            · rw [List.getElem_set_ne (Ne.symm e)]
              have := HCK.out t ht (by rw [List.length_set] at hc; exact hc)
              by_cases e2 : t < k
              · rw [if_pos e2] at this; rw [if_pos (by omega)]; exact this
              · rw [if_neg e2] at this; rw [if_neg (by omega)]; exact this
          have c9 : wr.cell? ⟨g, k * 11 + 9, none⟩ = some (.string x.node) := HR.out.at_ k _ HGET.out 9 _ rfl
          have f9 : wr.frozen? ⟨g, k * 11 + 9, none⟩ = false := HR.out.free _
          have HRP := Lib.hid (HR.out.put HGET.out (j := 9) (by decide) (.string to_))
          have HBP : Hid (Below w.heap.size w (wr.setCell ⟨g, k * 11 + 9, none⟩ (.string to_))) := Below.setCell HBX.out (p := ⟨g, k * 11 + 9, none⟩) (by show _ ≤ g; omega) _
          have HGP : Hid ((wr.setCell ⟨g, k * 11 + 9, none⟩ (.string to_)).heap[w.heap.size]? = _ ∧ (wr.setCell ⟨g, k * 11 + 9, none⟩ (.string to_)).heap[w.heap.size + 1]? = _) :=
            ⟨(Below.heap_setCell wr ⟨g, k * 11 + 9, none⟩ _ w.heap.size (by show _ ≠ g; omega)).trans HG.out.1, (Below.heap_setCell wr ⟨g, k * 11 + 9, none⟩ _ (w.heap.size + 1) (by show _ ≠ g; omega)).trans HG.out.2⟩
          clear he
          go_wp2
          go_roundw
          case rel => exact ⟨k + 1, _, by omega, by go_num, by rw [List.length_set]; exact HCL.out, HGP.out, HRP.out, HCK2.out, HBP.out⟩
          case measure => simp [intOf]; omega
      · obtain rfl : k = s.pods.length := by omega
        have HKB := Lib.hid HG.out.2
        go_wp2_with fail
        refine (RWith_calls A1 A2 A3 (some ⟨g, 0, none⟩) _ c1 _ c2 _ c3 _ cap _).mono ?_
        rintro e w2 ⟨rfl, hb⟩
        have HQ2 := Lib.hid ((hb.block _ (blk_lt HKB.out)).trans HKB.out)
        have HB2 := Lib.hid (Below.then HBX.out hb)
        have HBC := Lib.hid hb
        clear hb z zf
        obtain ⟨z, zf⟩ := blk_all HQ2.out
        go_wp2
        have hbel := Below.setCell (Below.setCell (Below.setCell HB2.out (p := ⟨w.heap.size + 1, 0, none⟩) (Nat.le_succ _) (.slice A1 s.nodes.length c1)) (p := ⟨w.heap.size + 1, 1, none⟩) (Nat.le_succ _) (.slice (some ⟨g, 0, none⟩) s.pods.length cap)) (p := ⟨w.heap.size + 1, 2, none⟩) (Nat.le_succ _) (.slice A3 s.budgets.length c3)
        have hpl : (moveS s name to_).pods.length = s.pods.length := by rw [moveS_pods, List.length_map]
        have hoth := (((HR.out.below HBC.out).other (w' := w2.setCell ⟨w.heap.size + 1, 0, none⟩ (.slice A1 s.nodes.length c1)) (Below.heap_setCell _ _ _ g (by show g ≠ w.heap.size + 1; omega)) (by simp [World.setCell])).other (w' := (w2.setCell ⟨w.heap.size + 1, 0, none⟩ (.slice A1 s.nodes.length c1)).setCell ⟨w.heap.size + 1, 1, none⟩ (.slice (some ⟨g, 0, none⟩) s.pods.length cap)) (Below.heap_setCell _ _ _ g (by show g ≠ w.heap.size + 1; omega)) (by simp [World.setCell])).other (w' := ((w2.setCell ⟨w.heap.size + 1, 0, none⟩ (.slice A1 s.nodes.length c1)).setCell ⟨w.heap.size + 1, 1, none⟩ (.slice (some ⟨g, 0, none⟩) s.pods.length cap)).setCell ⟨w.heap.size + 1, 2, none⟩ (.slice A3 s.budgets.length c3)) (Below.heap_setCell _ _ _ g (by show g ≠ w.heap.size + 1; omega)) (by simp [World.setCell])
        refine ret_row1 (cs := [.slice A1 s.nodes.length c1, .slice (some ⟨g, 0, none⟩) s.pods.length cap, .slice A3 s.budgets.length c3]) rfl rfl ((blk_set (blk_set (blk_set HQ2.out _) _) _).trans rfl) Tryz.underlying51 rfl (by kernel_rfl) rfl ⟨_, rfl, ⟨A1, c1, some ⟨g, 0, none⟩, cap, A3, c3, ?_, S1.out.mono (vw_below hbel), ?_, S3.out.mono (vw_below hbel)⟩, hbel⟩
        · rw [hpl]; rfl
        · refine Rw.S (d := Kd.pod) (fun hm => by have := hM _ hm; omega) hoth (by rw [hpl, HCL.out]; exact Nat.le_refl _) (fun t ht => ?_) (by rw [hpl]; exact hc1) (by rw [hpl]; omega)
          have ht' : t < s.pods.length := by rw [← hpl]; exact ht
          have := HCK.out t ht' (by rw [HCL.out]; exact ht')
          rw [if_pos ht'] at this
          have e : (moveS s name to_).pods[t] = mvP name to_ s.pods[t] := by simp only [moveS_pods, List.getElem_map]
          rw [e]
          exact Kd.pod.mono (vw_below hbel) this
end Go.Proofs.YtnmhicgbdalniaaGreatDoor
namespace Go.Proofs.YtnmhicgbdalniaaGreatDoor
open Go.RowKit

/-! 'x, y := f(..), g(..)' of structs, the calls in any order, the variables in memory of their own. -/
/-- What there is, whatever has been done of it: c: called, a: the variable made, t: written. -/
def PairJ {α β : Type} (d1 : Kd α) (x : α) (T1 : TypeId) (d2 : Kd β) (y : β) (T2 : TypeId) (w : World) (c1 c2 a1 a2 t1 t2 : Bool) (v1 v2 p1 p2 : Value) (W : World) : Prop :=
  Below w.heap.size w W ∧ ∃ (M : List Nat) (b1 b2 : Nat), (∀ k, k ∈ M → k < W.heap.size) ∧
    (c1 = true → ∃ cs : List Value, v1 = .agg cs.toArray ∧ d1.K (vw W M) x cs) ∧
    (c2 = true → ∃ cs : List Value, v2 = .agg cs.toArray ∧ d2.K (vw W M) y cs) ∧
    (a1 = true → p1 = .pointer (some ⟨b1, 0, none⟩) ∧ w.heap.size ≤ b1 ∧ b1 ∈ M ∧ ∃ old : List Value, old.length = d1.sz ∧ W.heap[b1]? = some (.cells old.toArray T1 (0, 0))) ∧
    (a2 = true → p2 = .pointer (some ⟨b2, 0, none⟩) ∧ w.heap.size ≤ b2 ∧ b2 ∈ M ∧ ∃ old : List Value, old.length = d2.sz ∧ W.heap[b2]? = some (.cells old.toArray T2 (0, 0))) ∧
    (a1 = true → a2 = true → b1 ≠ b2) ∧
    (t1 = true → ∃ cs : List Value, v1 = .agg cs.toArray ∧ W.heap[b1]? = some (.cells cs.toArray T1 (0, 0))) ∧
    (t2 = true → ∃ cs : List Value, v2 = .agg cs.toArray ∧ W.heap[b2]? = some (.cells cs.toArray T2 (0, 0)))
section
variable {α β : Type} {d1 : Kd α} {x : α} {T1 : TypeId} {d2 : Kd β} {y : β} {T2 : TypeId} {w W : World} {c1 c2 a1 a2 t1 t2 : Bool} {v1 v2 p1 p2 : Value}
theorem PairJ.start (h : Below w.heap.size w W) : PairJ d1 x T1 d2 y T2 w false false false false false false v1 v2 p1 p2 W :=
  ⟨h, [], 0, 0, (fun k hk => by simp at hk), (fun e => by cases e), (fun e => by cases e), (fun e => by cases e), (fun e => by cases e), (fun e => by cases e), (fun e => by cases e), (fun e => by cases e)⟩
theorem PairJ.bel (h : PairJ d1 x T1 d2 y T2 w c1 c2 a1 a2 t1 t2 v1 v2 p1 p2 W) : Below w.heap.size w W := h.1
theorem PairJ.call1 (h : PairJ d1 x T1 d2 y T2 w c1 c2 a1 a2 t1 t2 v1 v2 p1 p2 W) (ht : t1 = false) {W' : World} (hb : Below W.heap.size W W') {cs : List Value} (hk : d1.K (nx W' W.heap.size none) x cs) :
    PairJ d1 x T1 d2 y T2 w true c2 a1 a2 t1 t2 (.agg cs.toArray) v2 p1 p2 W' := by
  subst ht
  obtain ⟨h0, M, b1, b2, hM, -, k2, l1, l2, ne, -, s2⟩ := h
  refine ⟨Below.then h0 hb, M, b1, b2, fun k hk => Nat.lt_of_lt_of_le (hM k hk) hb.size, fun _ => ⟨cs, rfl, d1.mono (nx_vw (fun k hk => .inl (hM k hk))) hk⟩, fun e => ?_, fun e => ?_, fun e => ?_, ne, (fun e => by cases e), fun e => ?_⟩
  · obtain ⟨c, e1, e2⟩ := k2 e
    exact ⟨c, e1, d2.mono (vw_below hb) e2⟩
  · obtain ⟨e1, e2, e3, old, e4, e5⟩ := l1 e
    exact ⟨e1, e2, e3, old, e4, (hb.block _ (hM _ e3)).trans e5⟩
  · obtain ⟨e1, e2, e3, old, e4, e5⟩ := l2 e
    exact ⟨e1, e2, e3, old, e4, (hb.block _ (hM _ e3)).trans e5⟩
  · obtain ⟨c, e1, e2⟩ := s2 e
    exact ⟨c, e1, (hb.block _ (blk_lt e2)).trans e2⟩
theorem PairJ.swap (h : PairJ d1 x T1 d2 y T2 w c1 c2 a1 a2 t1 t2 v1 v2 p1 p2 W) : PairJ d2 y T2 d1 x T1 w c2 c1 a2 a1 t2 t1 v2 v1 p2 p1 W := by
  obtain ⟨h0, M, b1, b2, hM, k1, k2, l1, l2, ne, s1, s2⟩ := h
  exact ⟨h0, M, b2, b1, hM, k2, k1, l2, l1, fun e1 e2 => Ne.symm (ne e2 e1), s2, s1⟩
theorem PairJ.call2 (h : PairJ d1 x T1 d2 y T2 w c1 c2 a1 a2 t1 t2 v1 v2 p1 p2 W) (ht : t2 = false) {W' : World} (hb : Below W.heap.size W W') {cs : List Value} (hk : d2.K (nx W' W.heap.size none) y cs) :
    PairJ d1 x T1 d2 y T2 w c1 true a1 a2 t1 t2 v1 (.agg cs.toArray) p1 p2 W' := (h.swap.call1 ht hb hk).swap
theorem PairJ.alloc1 (h : PairJ d1 x T1 d2 y T2 w c1 c2 a1 a2 t1 t2 v1 v2 p1 p2 W) (ha : a1 = false) (ht : t1 = false) {old : List Value} (ho : old.length = d1.sz) :
    PairJ d1 x T1 d2 y T2 w c1 c2 true a2 t1 t2 v1 v2 (.pointer (some ⟨W.heap.size, 0, none⟩)) p2 (W.alloc (.cells old.toArray T1)) := by
  subst ha ht
  obtain ⟨h0, M, b1, b2, hM, k1, k2, -, l2, -, -, s2⟩ := h
  have hb := alloc_below W (.cells old.toArray T1)
  have hv : (vw W M).le (vw (W.alloc (.cells old.toArray T1)) (W.heap.size :: M)) := vw_grow hb (fun b e => by
    rcases List.mem_cons.1 e with rfl | e
    · exact .inr (Nat.le_refl _)
    · exact .inl e)
  refine ⟨Below.then h0 hb, W.heap.size :: M, W.heap.size, b2, fun k hk => ?_, fun e => ?_, fun e => ?_, fun _ => ⟨rfl, h0.size, List.mem_cons_self .., old, ho, blk_last _ _⟩, fun e => ?_, fun _ e => ?_, (fun e => by cases e), fun e => ?_⟩
  · have hsz : (W.alloc (.cells old.toArray T1)).heap.size = W.heap.size + 1 := by simp
    rcases List.mem_cons.1 hk with rfl | hk
    · omega
    · have := hM k hk
      omega
  · obtain ⟨c, e1, e2⟩ := k1 e
    exact ⟨c, e1, d1.mono hv e2⟩
  · obtain ⟨c, e1, e2⟩ := k2 e
    exact ⟨c, e1, d2.mono hv e2⟩
  · obtain ⟨e1, e2, e3, o2, e4, e5⟩ := l2 e
    exact ⟨e1, e2, List.mem_cons_of_mem _ e3, o2, e4, (hb.block _ (hM _ e3)).trans e5⟩
  · have := hM _ (l2 e).2.2.1
    omega
  · obtain ⟨c, e1, e2⟩ := s2 e
    exact ⟨c, e1, (hb.block _ (blk_lt e2)).trans e2⟩
theorem PairJ.alloc2 (h : PairJ d1 x T1 d2 y T2 w c1 c2 a1 a2 t1 t2 v1 v2 p1 p2 W) (ha : a2 = false) (ht : t2 = false) {old : List Value} (ho : old.length = d2.sz) :
    PairJ d1 x T1 d2 y T2 w c1 c2 a1 true t1 t2 v1 v2 p1 (.pointer (some ⟨W.heap.size, 0, none⟩)) (W.alloc (.cells old.toArray T2)) := (h.swap.alloc1 ha ht ho).swap
/-- The first variable is written: what is at hand, and what comes of it. -/
theorem PairJ.store1 (h : PairJ d1 x T1 d2 y T2 w c1 c2 a1 a2 t1 t2 v1 v2 p1 p2 W) (hc : c1 = true) (ha : a1 = true) (h2 : t2 = true → a2 = true) :
    ∃ (b : Nat) (cs : List Value), v1 = .agg cs.toArray ∧ p1 = .pointer (some ⟨b, 0, none⟩) ∧ cs.length = d1.sz ∧ W.there b 0 cs.length ∧ (∃ k, d1.K k x cs) ∧ PairJ d1 x T1 d2 y T2 w c1 c2 a1 a2 true t2 v1 v2 p1 p2 (W.setCells b 0 cs) := by
  subst hc ha
  obtain ⟨h0, M, b1, b2, hM, k1, k2, l1, l2, ne, -, s2⟩ := h
  obtain ⟨cs, rfl, hk⟩ := k1 rfl
  obtain ⟨rfl, hw, hm, old, ho, hq⟩ := l1 rfl
  have hl := d1.len hk
  have hset := setCells_all (cs := cs) hq (by omega)
  have hsz := setCells_size b1 cs 0 W
  have hv : (vw W M).le (vw (W.setCells b1 0 cs) M) := fun k o hk => by
    obtain ⟨q1, q2⟩ := vw_eq hk
    exact vw_mk q1 ((setCells_far b1 cs 0 W k (fun e => q1 (e ▸ hm))).trans q2)
  refine ⟨b1, cs, rfl, rfl, hl, there_block hq _ (by omega), ⟨_, hk⟩, Below.setCells h0 hw cs 0, M, b1, b2, fun k hk => by rw [hsz]; exact hM k hk, fun _ => ⟨cs, rfl, d1.mono hv hk⟩, fun e => ?_, fun _ => ⟨rfl, hw, hm, cs, hl, hset⟩, fun e => ?_, ne, fun _ => ⟨cs, rfl, hset⟩, fun e => ?_⟩
  · obtain ⟨c, e1, e2⟩ := k2 e
    exact ⟨c, e1, d2.mono hv e2⟩
  · obtain ⟨e1, e2, e3, o2, e4, e5⟩ := l2 e
    exact ⟨e1, e2, e3, o2, e4, (setCells_far b1 cs 0 W b2 (Ne.symm (ne rfl e))).trans e5⟩
  · obtain ⟨c, e1, e2⟩ := s2 e
    exact ⟨c, e1, (setCells_far b1 cs 0 W b2 (Ne.symm (ne rfl (h2 e)))).trans e2⟩
theorem PairJ.store2 (h : PairJ d1 x T1 d2 y T2 w c1 c2 a1 a2 t1 t2 v1 v2 p1 p2 W) (hc : c2 = true) (ha : a2 = true) (h1 : t1 = true → a1 = true) :
    ∃ (b : Nat) (cs : List Value), v2 = .agg cs.toArray ∧ p2 = .pointer (some ⟨b, 0, none⟩) ∧ cs.length = d2.sz ∧ W.there b 0 cs.length ∧ (∃ k, d2.K k y cs) ∧ PairJ d1 x T1 d2 y T2 w c1 c2 a1 a2 t1 true v1 v2 p1 p2 (W.setCells b 0 cs) := by
  obtain ⟨b, cs, e1, e2, e3, e4, e5, e6⟩ := h.swap.store1 hc ha h1
  exact ⟨b, cs, e1, e2, e3, e4, e5, e6.swap⟩
/-- All done. -/
theorem PairJ.done (h : PairJ d1 x T1 d2 y T2 w true true true true true true v1 v2 p1 p2 W) :
    ∃ (b1 b2 : Nat) (cs1 cs2 : List Value), p1 = .pointer (some ⟨b1, 0, none⟩) ∧ p2 = .pointer (some ⟨b2, 0, none⟩) ∧ W.heap[b1]? = some (.cells cs1.toArray T1 (0, 0)) ∧ W.heap[b2]? = some (.cells cs2.toArray T2 (0, 0)) ∧
      d1.K (vw W []) x cs1 ∧ d2.K (vw W []) y cs2 ∧ w.heap.size ≤ b1 ∧ w.heap.size ≤ b2 ∧ b1 ≠ b2 ∧ Below w.heap.size w W := by
  obtain ⟨h0, M, b1, b2, hM, k1, k2, l1, l2, ne, s1, s2⟩ := h
  obtain ⟨cs1, rfl, hk1⟩ := k1 rfl
  obtain ⟨cs2, rfl, hk2⟩ := k2 rfl
  obtain ⟨c1', e1, q1⟩ := s1 rfl
  obtain ⟨c2', e2, q2⟩ := s2 rfl
  injection e1 with e1
  injection e2 with e2
  rw [← e1] at q1
  rw [← e2] at q2
  exact ⟨b1, b2, cs1, cs2, (l1 rfl).1, (l2 rfl).1, q1, q2, d1.mono (vw_sub (by simp)) hk1, d2.mono (vw_sub (by simp)) hk2, (l1 rfl).2.1, (l2 rfl).2.1, ne rfl rfl, h0⟩
end
end Go.Proofs.YtnmhicgbdalniaaGreatDoor
namespace Go.Proofs.YtnmhicgbdalniaaGreatDoor
open Go.RowKit

/-! 'x, ok := f(.., g(..))': one struct, the calls and the making of the variable in any order: PairJ, its second variable never made. -/
section
variable {α β : Type} {d1 : Kd α} {x : α} {T1 : TypeId} {d2 : Kd β} {y : β} {T2 : TypeId} {w W : World} {c1 c2 a1 a2 t1 t2 : Bool} {v1 v2 p1 p2 : Value}
/-- What the second call told. -/
theorem PairJ.arg (h : PairJ d1 x T1 d2 y T2 w c1 c2 a1 a2 t1 t2 v1 v2 p1 p2 W) (hc : c2 = true) : ∃ cs : List Value, v2 = .agg cs.toArray ∧ d2.K (vw W []) y cs := by
  obtain ⟨h0, M, b1, b2, hM, k1, k2, -⟩ := h
  obtain ⟨cs, e1, e2⟩ := k2 hc
  exact ⟨cs, e1, d2.mono (vw_sub (by simp)) e2⟩
/-- A call beside. -/
theorem PairJ.below (h : PairJ d1 x T1 d2 y T2 w c1 c2 a1 a2 t1 t2 v1 v2 p1 p2 W) {W' : World} (hb : Below W.heap.size W W') : PairJ d1 x T1 d2 y T2 w c1 c2 a1 a2 t1 t2 v1 v2 p1 p2 W' := by
  obtain ⟨h0, M, b1, b2, hM, k1, k2, l1, l2, ne, s1, s2⟩ := h
  refine ⟨Below.then h0 hb, M, b1, b2, fun k hk => Nat.lt_of_lt_of_le (hM k hk) hb.size, fun e => ?_, fun e => ?_, fun e => ?_, fun e => ?_, ne, fun e => ?_, fun e => ?_⟩
  · obtain ⟨cs, e1, e2⟩ := k1 e
    exact ⟨cs, e1, d1.mono (vw_below hb) e2⟩
  · obtain ⟨cs, e1, e2⟩ := k2 e
    exact ⟨cs, e1, d2.mono (vw_below hb) e2⟩
  · obtain ⟨e1, e2, e3, old, e4, e5⟩ := l1 e
    exact ⟨e1, e2, e3, old, e4, (hb.block _ (hM _ e3)).trans e5⟩
  · obtain ⟨e1, e2, e3, old, e4, e5⟩ := l2 e
    exact ⟨e1, e2, e3, old, e4, (hb.block _ (hM _ e3)).trans e5⟩
  · obtain ⟨cs, e1, e2⟩ := s1 e
    exact ⟨cs, e1, (hb.block _ (blk_lt e2)).trans e2⟩
  · obtain ⟨cs, e1, e2⟩ := s2 e
    exact ⟨cs, e1, (hb.block _ (blk_lt e2)).trans e2⟩
theorem PairJ.done1 (h : PairJ d1 x T1 d2 y T2 w true c2 true a2 true t2 v1 v2 p1 p2 W) :
    ∃ (b : Nat) (cs : List Value), v1 = .agg cs.toArray ∧ p1 = .pointer (some ⟨b, 0, none⟩) ∧ W.heap[b]? = some (.cells cs.toArray T1 (0, 0)) ∧ d1.K (vw W []) x cs ∧ w.heap.size ≤ b ∧ Below w.heap.size w W := by
  obtain ⟨h0, M, b1, b2, hM, k1, -, l1, -, -, s1, -⟩ := h
  obtain ⟨cs1, rfl, hk1⟩ := k1 rfl
  obtain ⟨c1', e1, q1⟩ := s1 rfl
  injection e1 with e1
  rw [← e1] at q1
  exact ⟨b1, cs1, rfl, (l1 rfl).1, q1, d1.mono (vw_sub (by simp)) hk1, (l1 rfl).2.1, h0⟩
end
end Go.Proofs.YtnmhicgbdalniaaGreatDoor
namespace Go.Proofs.YtnmhicgbdalniaaGreatDoor
open Go.RowKit Go.Sort

/-! preempt.Next, preempt.Do. -/
theorem pend_mem_len (s : St) : (pendV s).length ≤ s.pods.length := by
  rw [show (pendV s).length = (s.pods.filter pendB).length from (sortP_sorted _).1.length_eq]
  exact List.length_filter_le _ _
set_option maxHeartbeats 8000000 in
set_option maxRecDepth 100000 in
theorem Next_calls (vs : Value) (s : St) (w : World) (hs : Kd.state.V (vw w []) vs s) (hn : s.nodes.length ≤ 1000) (hpn : s.pods.length ≤ 1000) (hap : Apart s.pods) :
    Calls Tryz.prog 25 #[vs] w (WyDone (nextW fitQ s) w) := by
  obtain ⟨cs, rfl, hks⟩ := hs
  have hvs : Kd.state.V (vw w []) (.agg cs.toArray) s := ⟨cs, rfl, hks⟩
  obtain ⟨A1, c1, A2, c2, A3, c3, rfl, -⟩ := hks
  have HVS : Hid (Kd.state.V (vw w []) (.agg #[.slice A1 s.nodes.length c1, .slice A2 s.pods.length c2, .slice A3 s.budgets.length c3]) s) := hvs
  have HAP := Lib.hid hap
  obtain ⟨R, hR⟩ : ∃ R, nextW fitQ s = R := ⟨_, rfl⟩
  rw [hR]
  have HR : Hid (nextGo fitQ s ((pendV s).drop 0) = R) := hR
  clear hvs hap hR
  go_enter Tryz.func25, Tryz.ntmps25
  go_upto_region 1 with fail
  obtain ⟨W, hW, hbw, k1, k2, hWs⟩ := al2 w (.cells #[.slice A1 s.nodes.length c1, .slice A2 s.pods.length c2, .slice A3 s.budgets.length c3] 26) (.cells #[.string ⟨#[]⟩, .string ⟨#[]⟩, .slice none 0 0] 55)
  rw [← hW]
  have HBW := Lib.hid hbw
  have HK := Lib.hid (And.intro k1 k2)
  have l1 := blk_lt k1
  have l2 := blk_lt k2
  obtain ⟨z, zf⟩ := blk_all k1
  clear hW hbw k1 k2
  go_wp2_with fail
  refine (Pending_calls _ s _ (V_below HVS.out HBW.out) hpn HAP.out).mono ?_
  rintro e w1 ⟨G, gc, rfl, hS, hb⟩
  have hlp := pend_mem_len s
  obtain ⟨L, hL⟩ : ∃ L, pendV s = L := ⟨_, rfl⟩
  rw [hL] at hS hlp HR ⊢
  obtain ⟨-, f1, f2⟩ := hS.form
  have SL := Lib.hid hS
  have HX1 := Lib.hid hb
  clear hS hb hL z zf
  go_wp2
  go_loopw [11] (fun i wr => ∃ k : Nat, k ≤ L.length ∧ i = .int .i64 k ∧ Hid (Below w1.heap.size w1 wr) ∧ Hid (nextGo fitQ s (L.drop k) = R)) (fun i _ => L.length - (intOf i).toNat)
  case atStart => exact ⟨0, Nat.zero_le _, rfl, Below.refl _ _, HR.out⟩
  case round =>
    obtain ⟨k, hk, rfl, HB, HGO⟩ := hrel
    have HBX := Lib.hid (Below.then (Below.then HBW.out HX1.out) HB.out)
    have HBW2 := Lib.hid (Below.then HX1.out HB.out)
    by_cases hlt : k < L.length
    · have hgo := HGO.out
      rw [nextGo_at fitQ s hlt] at hgo
      obtain ⟨b, off, cx, rfl, hkx, hc⟩ := SL.out.both HB.out k hlt
      obtain ⟨x, hx⟩ : ∃ x, L[k] = x := ⟨_, rfl⟩
      rw [hx] at hkx hgo
      have HKX := Lib.hid hkx
      obtain ⟨B1, d1, B2, d2, B3, d3, B4, d4, rfl, -⟩ := hkx
      have HC : Hid (wr.rangeAt b (off + k * 11) _) := hc
      have HG := Lib.hid hgo
      clear hc hx hgo HGO
      have HV := Lib.hid (alloc_below wr (.cells #[.string x.name, .string x.owner, .int .i64 x.prio, .slice B1 x.need.length d1, .slice B2 x.labels.length d2, .slice B3 x.sel.length d3, .slice B4 x.tols.length d4, .string x.key, .int .i64 x.most, .string x.node, .bool x.hold] 35))
      have hy := blk_last wr (.cells #[.string x.name, .string x.owner, .int .i64 x.prio, .slice B1 x.need.length d1, .slice B2 x.labels.length d2, .slice B3 x.sel.length d3, .slice B4 x.tols.length d4, .string x.key, .int .i64 x.most, .string x.node, .bool x.hold] 35)
      go_upto_region 4 with (with_reducible refine wpList_load_mid rfl 35 _ rfl b (off + k * 11) rfl _ _ HC.out Tryz.underlying35 rfl (by kernel_rfl) ?_)
      generalize wr.alloc (.cells #[.string x.name, .string x.owner, .int .i64 x.prio, .slice B1 x.need.length d1, .slice B2 x.labels.length d2, .slice B3 x.sel.length d3, .slice B4 x.tols.length d4, .string x.key, .int .i64 x.most, .string x.node, .bool x.hold] 35) = V at HV hy ⊢
      have HBV := Lib.hid (Below.then HB.out HV.out)
      have HBVw := Lib.hid (Below.then HBX.out HV.out)
      have hks : Kd.pod.V (vw V []) (.agg #[.string x.name, .string x.owner, .int .i64 x.prio, .slice B1 x.need.length d1, .slice B2 x.labels.length d2, .slice B3 x.sel.length d3, .slice B4 x.tols.length d4, .string x.key, .int .i64 x.most, .string x.node, .bool x.hold]) x := ⟨_, rfl, Kd.pod.mono (vw_below HBV.out) HKX.out⟩
      have HVX := Lib.hid hks
      have g1 := ((Below.then HBW2.out HV.out).block _ l1).trans HK.out.1
      obtain ⟨z, zf⟩ := blk_all g1
      obtain ⟨y, yf⟩ := blk_all hy
      clear g1 hy HC hks
      go_wp2_with fail
      refine (For_calls _ _ s x _ (V_below HVS.out HBVw.out) HVX.out hn hpn).mono ?_
      obtain ⟨aw, ab, ha⟩ : ∃ aw ab, forW fitQ s x = (aw, ab) := ⟨_, _, rfl⟩
      have hg := HG.out
      rw [ha] at hg ⊢
      rintro e w5 ⟨cw, rfl, hd, hb⟩
      simp only at hd
      have HD := Lib.hid hd
      obtain ⟨D, d, rfl, -⟩ := hd
      have HB5 := Lib.hid (Below.then HBVw.out hb)
      have HB51 := Lib.hid (Below.then HBV.out hb)
      clear z zf y yf ha hb
      cases ab with
      | false =>
        have HG5 : Hid (nextGo fitQ s (L.drop (k + 1)) = R) := hg
        clear hg
        go_wp2
        go_roundw
        case rel => exact ⟨k + 1, by omega, by go_num, Below.then HB51.out (alloc_below _ _), HG5.out⟩
        case measure => simp [intOf]; omega
      | true =>
        have HR2 : Hid (R = (aw, true)) := hg.symm
        have g2 := ((HX1.out.trans (HB51.out.mono HX1.out.size)).block _ l2).trans HK.out.2
        have hl5 := blk_lt g2
        have g6 := (blk_old w5 (.cells #[.string aw.pod, .string aw.to_, .slice D aw.holds.length d] 55) hl5).trans g2
        have HB6 := Lib.hid (Below.then HB5.out (alloc_below w5 (.cells #[.string aw.pod, .string aw.to_, .slice D aw.holds.length d] 55)))
        have hy6 := blk_last w5 (.cells #[.string aw.pod, .string aw.to_, .slice D aw.holds.length d] 55)
        have HD6 := Lib.hid (Kd.way.mono (nx_below (alloc_below w5 (.cells #[.string aw.pod, .string aw.to_, .slice D aw.holds.length d] 55))) HD.out)
        go_upto_region 6 with fail
        generalize w5.alloc (.cells #[.string aw.pod, .string aw.to_, .slice D aw.holds.length d] 55) = V6 at g6 HB6 hy6 HD6 ⊢
        have HQ := Lib.hid g6
        obtain ⟨y, yf⟩ := blk_all g6
        obtain ⟨v, vf⟩ := blk_all hy6
        clear hg g2 g6 hy6
        go_wp2
        rw [show (((V6.setCell ⟨w.heap.size + 1, 0, none⟩ (.string aw.pod)).setCell ⟨w.heap.size + 1, 1, none⟩ (.string aw.to_)).setCell ⟨w.heap.size + 1, 2, none⟩ (.slice D aw.holds.length d)) = V6.setCells (w.heap.size + 1) 0 [.string aw.pod, .string aw.to_, .slice D aw.holds.length d] from rfl]
        have hset := setCells_all (cs := [.string aw.pod, .string aw.to_, .slice D aw.holds.length d]) HQ.out rfl
        refine ret_row2 (cs := [.string aw.pod, .string aw.to_, .slice D aw.holds.length d]) rfl rfl hset Tryz.underlying55 rfl (by kernel_rfl) rfl (wy_is HR2.out ?_ (Below.setCells HB6.out (by omega) _ _))
        exact Kd.way.mono (nx_setCells _ _ (by have := HBVw.out.size; have := HBW2.out.size; have := HV.out.size; omega) (by have := HBVw.out.size; omega)) HD6.out
    · obtain rfl : k = L.length := by omega
      have hg := HGO.out
      rw [List.drop_length] at hg
      have HR2 : Hid (R = (zWy, false)) := hg.symm
      have g2 := (HBW2.out.block _ l2).trans HK.out.2
      have HQ := Lib.hid g2
      obtain ⟨y, yf⟩ := blk_all g2
      clear hg g2 HGO
      go_wp2
      rw [show (((wr.setCell ⟨w.heap.size + 1, 0, none⟩ (.string ⟨#[]⟩)).setCell ⟨w.heap.size + 1, 1, none⟩ (.string ⟨#[]⟩)).setCell ⟨w.heap.size + 1, 2, none⟩ (.slice none 0 0)) = wr.setCells (w.heap.size + 1) 0 [.string ⟨#[]⟩, .string ⟨#[]⟩, .slice none 0 0] from rfl]
      have hset := setCells_all (cs := [.string ⟨#[]⟩, .string ⟨#[]⟩, .slice none 0 0]) HQ.out rfl
      exact ret_row2 (cs := [.string ⟨#[]⟩, .string ⟨#[]⟩, .slice none 0 0]) rfl rfl hset Tryz.underlying55 rfl (by kernel_rfl) rfl (wy_is HR2.out (way_zero _) (Below.setCells HBX.out (by omega) _ _))
end Go.Proofs.YtnmhicgbdalniaaGreatDoor
