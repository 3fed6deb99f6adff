import Derived.Test.YtnmhicgbdalniaaGreatDoorShelf
import Derived.Test.YtnmhicgbdalniaaGreatDoorMf1
import Derived.Deep.RegionHeld3
import Derived.Deep.DeepCutAuto
import Derived.Deep.CutBlock
import Derived.Deep.AppendLies
import Derived.OwnWalk
import Derived.Sort.OwnSorted
import Derived.Sort.Grow
import Derived.Lib.OwnBridge
import Derived.Laws.AppendOwnNone
import Derived.Deep.QuietTactic
import Derived.BigQuiet
import Derived.Sort.Walk0
namespace Go.Proofs.YtnmhicgbdalniaaGreatDoor
open Go.RowKit

/-! Rows of a call's own, of whatever elements. -/
/-- All blocks from lo on, but for one. -/
def nx (w : World) (lo : Nat) (own : Option Nat) : View := fun b => if b < lo ∨ own = some b then none else w.heap[b]?
theorem nx_eq {w : World} {lo : Nat} {own : Option Nat} {b : Nat} {o : Obj} (h : nx w lo own b = some o) : ¬ b < lo ∧ own ≠ some b ∧ w.heap[b]? = some o := by
  unfold nx at h
  split at h
  · cases h
  · rename_i k
    exact ⟨fun e => k (.inl e), fun e => k (.inr e), h⟩
theorem nx_mk {w : World} {lo : Nat} {own : Option Nat} {b : Nat} {o : Obj} (h : lo ≤ b) (h2 : own ≠ some b) (h3 : w.heap[b]? = some o) : nx w lo own b = some o := by
  unfold nx
  rw [if_neg (by rintro (e | e); omega; exact h2 e)]; exact h3
theorem nx_vw {w : World} {lo : Nat} {own : Option Nat} {M : List Nat} (h : ∀ x, x ∈ M → x < lo ∨ own = some x) : (nx w lo own).le (vw w M) := fun b o hb => by
  obtain ⟨h1, h2, h3⟩ := nx_eq hb
  exact vw_mk (fun hm => by rcases h b hm with e | e; exact h1 e; exact h2 e) h3
theorem vw_nx {w : World} {lo : Nat} {own : Option Nat} {M : List Nat} (h : ∀ b, (b < lo ∨ own = some b) → b ∈ M) : (vw w M).le (nx w lo own) := fun b o hb => by
  obtain ⟨h1, h2⟩ := vw_eq hb
  exact nx_mk (by rcases Nat.lt_or_ge b lo with e | e; exact absurd (h b (.inl e)) h1; exact e) (fun e => h1 (h b (.inr e))) h2
theorem nx_below {w w' : World} {lo : Nat} {own : Option Nat} (h : Below w.heap.size w w') : (nx w lo own).le (nx w' lo own) := fun b o hb => by
  obtain ⟨h1, h2, h3⟩ := nx_eq hb
  exact nx_mk (by omega) h2 ((h.block b (blk_lt h3)).trans h3)
/-- What is new and what was read: both lie apart from a row of the call's own. -/
theorem nx_new {w w' : World} {lo lo' : Nat} {own own' : Option Nat} (h : lo ≤ lo') (k : ∀ b, own = some b → b < lo' ∨ own' = some b) (e : w = w') : (nx w lo' own').le (nx w' lo own) := fun b o hb => by
  subst e
  obtain ⟨h1, h2, h3⟩ := nx_eq hb
  exact nx_mk (by omega) (fun e => by rcases k b e with q | q; exact h1 q; exact h2 q) h3
theorem vw_own {w w' : World} {own : Option Nat} (h : Below w.heap.size w w') (k : ∀ b, own = some b → w.heap.size ≤ b) : (vw w []).le (nx w' 0 own) := fun b o hb => by
  obtain ⟨_, h2⟩ := vw_eq hb
  have := blk_lt h2
  exact nx_mk (Nat.zero_le _) (fun e => by have := k b e; omega) ((h.block b this).trans h2)
theorem nx_grown {w w' : World} {lo : Nat} {own own' : Option Nat} (h : w.grownBy w' own) (k : own' = own ∨ own' = some w.heap.size) : (nx w lo own).le (nx w' lo own') := fun b o hb => by
  obtain ⟨h1, h2, h3⟩ := nx_eq hb
  have h4 := blk_lt h3
  refine nx_mk (by omega) (fun e => ?_) ((h.block b h4 (Ne.symm h2)).trans h3)
  rcases k with k | k
  · exact h2 (k ▸ e)
  · rw [k] at e; injection e with e; omega
theorem flatten_len {n : Nat} : ∀ (css : List (List Value)), (∀ c ∈ css, c.length = n) → css.flatten.length = css.length * n
  | [], _ => by simp
  | c :: r, h => by
    rw [List.flatten_cons, List.length_append, flatten_len r (fun x hx => h x (List.mem_cons_of_mem _ hx)), h c (List.mem_cons_self ..), List.length_cons, Nat.add_mul]; omega
theorem flatten_get {n : Nat} : ∀ (css : List (List Value)), (∀ c ∈ css, c.length = n) → ∀ (j i : Nat) (c : List Value), css[j]? = some c → i < n → css.flatten[j * n + i]? = c[i]?
  | [], _, j, i, c, h, _ => by simp at h
  | a :: r, hn, 0, i, c, h, hi => by
    simp only [List.getElem?_cons_zero, Option.some.injEq] at h
    subst h
    have := hn a (List.mem_cons_self ..)
    rw [List.flatten_cons, Nat.zero_mul, Nat.zero_add, List.getElem?_append_left (by omega)]
  | a :: r, hn, j + 1, i, c, h, hi => by
    have h1 := hn a (List.mem_cons_self ..)
    rw [List.flatten_cons, Nat.add_mul, Nat.one_mul, List.getElem?_append_right (by omega), show j * n + n + i - a.length = j * n + i by omega]
    exact flatten_get r (fun x hx => hn x (List.mem_cons_of_mem _ hx)) j i c (by simpa using h) hi
namespace Kd
variable {α : Type}
def Own (d : Kd α) (w : World) (base : Nat) (e : TypeId) (lo : Nat) (v : Value) (xs : List α) : Prop :=
  ∃ css : List (List Value), css.length = xs.length ∧ (∀ (j : Nat) (x : α), xs[j]? = some x → ∃ cs, css[j]? = some cs ∧ d.K (nx w lo v.ownBlock) x cs) ∧ w.ownsRow base e d.sz v xs.length css.flatten
theorem Own.nil (d : Kd α) (w : World) (base : Nat) (e : TypeId) (lo : Nat) : d.Own w base e lo (.slice none 0 0) [] := ⟨[], rfl, fun j x h => by simp at h, World.ownsRow_nil _ _ _ _⟩
theorem Own.row {d : Kd α} {w : World} {base : Nat} {e : TypeId} {lo : Nat} {v : Value} {xs : List α} (h : d.Own w base e lo v xs) : ∃ cs, w.ownsRow base e d.sz v xs.length cs := by
  obtain ⟨css, _, _, h⟩ := h
  exact ⟨_, h⟩
theorem Own.below {d : Kd α} {w w' : World} {base : Nat} {e : TypeId} {lo : Nat} {v : Value} {xs : List α} (h : d.Own w base e lo v xs) (hb : Below w.heap.size w w') : d.Own w' base e lo v xs := by
  obtain ⟨css, h1, h2, h3⟩ := h
  exact ⟨css, h1, fun j x hx => by obtain ⟨cs, a, b⟩ := h2 j x hx; exact ⟨cs, a, d.mono (nx_below hb) b⟩, own_below h3 hb⟩
/-- One element more. -/
theorem Own.snoc {d : Kd α} {w w1 w' : World} {base : Nat} {e : TypeId} {lo : Nat} {v v' : Value} {xs : List α} {x : α} {cs : List Value} {css : List (List Value)} (h1 : css.length = xs.length)
    (h2 : ∀ (j : Nat) (x : α), xs[j]? = some x → ∃ cs, css[j]? = some cs ∧ d.K (nx w lo v.ownBlock) x cs) (hk : d.K (nx w1 lo v.ownBlock) x cs) (hb : Below w.heap.size w w1)
    (ho : w'.ownsRow base e d.sz v' (xs.length + 1) (css.flatten ++ cs)) (hg : w1.grownBy w' v.ownBlock) (hv : v'.ownBlock = v.ownBlock ∨ v'.ownBlock = some w1.heap.size) :
    d.Own w' base e lo v' (xs ++ [x]) := by
  have hm := nx_grown (lo := lo) hg hv
  refine ⟨css ++ [cs], by simp [h1], fun j y hy => ?_, by rw [List.length_append, List.flatten_append]; simpa using ho⟩
  rcases Nat.lt_or_ge j xs.length with hlt | hge
  · rw [List.getElem?_append_left hlt] at hy
    obtain ⟨c, a, b⟩ := h2 j y hy
    exact ⟨c, by rw [List.getElem?_append_left (by omega)]; exact a, d.mono hm (d.mono (nx_below hb) b)⟩
  · rw [List.getElem?_append_right hge] at hy
    have hj : j = xs.length := by
      have := (List.getElem?_eq_some_iff.1 hy).1
      simp at this; omega
    subst hj
    simp only [Nat.sub_self, List.getElem?_cons_zero, Option.some.injEq] at hy
    subst hy
    exact ⟨cs, by rw [List.getElem?_append_right (by omega), ← h1, Nat.sub_self]; rfl, d.mono hm hk⟩
theorem Own.S {d : Kd α} {w : World} {base : Nat} {e : TypeId} {lo : Nat} {v : Value} {xs : List α} (h : d.Own w base e lo v xs) (hlo : lo ≤ base) (hl : xs.length ≤ 140737488351232) : d.S (nx w lo none) v xs := by
  obtain ⟨css, h1, h2, h3⟩ := h
  have hlen : ∀ c ∈ css, c.length = d.sz := fun c hc => by
    obtain ⟨j, hj, rfl⟩ := List.getElem_of_mem hc
    obtain ⟨cs, a, b⟩ := h2 j xs[j] (List.getElem?_eq_getElem (by omega))
    rw [List.getElem?_eq_getElem hj] at a
    injection a with a
    rw [a]; exact d.len b
  rcases h3.2 with ⟨rfl, h0⟩ | ⟨g, cap, cur, rfl, hg, hh, hn, hc, hs, ht⟩
  · have : xs = [] := List.eq_nil_of_length_eq_zero h0
    subst this
    exact S.nil _ _
  · refine ⟨_, cap, rfl, hn, hl, fun e => (by cases e), fun _ => ⟨g, 0, rfl, fun j x hx => ?_⟩⟩
    obtain ⟨cs, a, b⟩ := h2 j x hx
    refine ⟨cs, d.mono (fun b o hb => ?_) b, fun i u hu => ?_⟩
    · obtain ⟨q1, q2, q3⟩ := nx_eq hb
      exact nx_mk (by omega) (by simp) q3
    · have hi : i < d.sz := by have := (List.getElem?_eq_some_iff.1 hu).1; rw [d.len b] at this; exact this
      have hj : j < xs.length := (List.getElem?_eq_some_iff.1 hx).1
      have h4 := flatten_get css hlen j i cs a hi
      rw [hu, ← ht, List.getElem?_take, if_pos (by
        have : j * d.sz + i < (j + 1) * d.sz := by rw [Nat.add_mul]; omega
        have := Nat.mul_le_mul_right d.sz (show j + 1 ≤ xs.length by omega)
        omega)] at h4
      have : (nx w lo none) g = some (.cells cur e (0, 0)) := nx_mk (by omega) (by simp) hh
      simp [View.cell?, this]
      simpa using h4
end Kd
end Go.Proofs.YtnmhicgbdalniaaGreatDoor
namespace Go.Proofs.YtnmhicgbdalniaaGreatDoor
open Go.RowKit

/-- A copy of a list, in memory that is new. -/
def OfDone {α : Type} (d : Kd α) (l : List α) (w : World) (e : Ending) (w' : World) : Prop := ∃ A c, e = .returned (.slice A l.length c) ∧ d.S (nx w' w.heap.size none) (.slice A l.length c) l ∧ Below w.heap.size w w'
theorem grown_then {w wr w1 w2 : World} {own : Option Nat} (h : Below w.heap.size w wr) (h1 : Below wr.heap.size wr w1) (hg : w1.grownBy w2 own) (ho : ∀ q, own = some q → w.heap.size ≤ q) : Below w.heap.size w w2 :=
  Below.grown (Below.then h h1) hg (Below.then h h1).size ho

theorem info_Of2 : (Tryz.prog.info? 217).map (fun i => (i.zero, i.size, i.bytes)) = some (some (.agg #[.string ⟨#[]⟩, .int .i64 0]), 2, 24) := by kernel_rfl
set_option maxHeartbeats 2000000 in
set_option maxRecDepth 100000 in
theorem Of2_calls (v : Value) (l : List Amt) (w : World) (hs : Kd.amt.S (vw w []) v l) (hl : l.length ≤ 1000) : Calls Tryz.prog 79 #[v] w (OfDone Kd.amt l w) := by
  obtain ⟨i0, hi, hz0, hz1, hz2⟩ := info_parts info_Of2
  obtain ⟨A, cap, rfl, hs⟩ := hs.val
  have HS := Lib.hid hs
  clear hs
  go_enter Tryz.func79, Tryz.ntmps79
  go_wp2
  go_loopw [3, 4] (fun o i wr => ∃ k : Nat, k ≤ l.length ∧ i = .int .i64 k ∧ Hid (Kd.amt.Own wr w.heap.size 217 w.heap.size o (l.take k)) ∧ Hid (Below w.heap.size w wr)) (fun _ i _ => l.length - (intOf i).toNat)
  case atStart => exact ⟨0, Nat.zero_le _, rfl, Kd.Own.nil _ _ _ _ _, Below.refl _ _⟩
  case round =>
    obtain ⟨k, hk, rfl, HO, HB⟩ := hrel
    by_cases hlt : k < l.length
    · obtain ⟨b, off, cs, rfl, ⟨-, hp⟩, -⟩ := HS.out.both HB.out k hlt
      have HP := Lib.hid hp
      have HCELL : Hid (∀ w2, Below w.heap.size w w2 → w2.cell? ⟨b, off + k * 2, none⟩ = some (.string l[k].name) ∧ w2.cell? ⟨b, off + k * 2 + 1, none⟩ = some (.int .i64 l[k].n)) := fun w2 h2 => by
        obtain ⟨b', off', hA, hc, -⟩ := (HS.out.mono (vw_below h2)).elemN k hlt
        injection hA with hA
        injection hA with e1 e2
        subst e1 e2
        exact ⟨hc 0 _ rfl, hc 1 _ rfl⟩
      obtain ⟨c0, c1⟩ := HCELL.out wr HB.out
      obtain ⟨css, k1, k2, k3⟩ := HO.out
      rw [show (l.take k).length = k by rw [List.length_take]; omega] at k3
      have HK1 := Lib.hid k1
      have HK2 := Lib.hid k2
      have HK3 := Lib.hid k3
      clear k1 k2 k3 hp
      have hsz := HB.out.size
      have b1 : (0 : Int) ≤ (k : Int) := by omega
      have b2 : (k : Int) < (l.length : Int) := by omega
      go_upto_region 5 with fail
      go_region_held3 (fun w' => w'.cell? ⟨b, off + k * 2, none⟩ = some (.string l[k].name) ∧ w'.cell? ⟨b, off + k * 2 + 1, none⟩ = some (.int .i64 l[k].n)) (first | go_keep | exact HCELL.out _ (by exact HB2.out))
        ((
          refine step_app _ w.heap.size 40 217 i0 (.agg #[.string ⟨#[]⟩, .int .i64 0]) 2 24 Tryz.underlying40 hi hz0 hz1 hz2 rfl (by decide) _ k css.flatten (by exact own_below HK3.out ⟨rfl, rfl, rfl, by simp, fun k hk => blk_old _ _ hk⟩) (some ⟨wr.heap.size, 0, none⟩) 1 1 [.string l[k].name, .int .i64 l[k].n] rfl (fun e => by cases e) ?_ (by simp [Value.oneCell']) (by simp only [maxLen]; omega) (by omega) (by simp; omega) _ _ (by rfl) (by rfl) (by rfl) (by rfl) ?_
          · rintro ad h
            cases h
            exact World.news_of_block (cs := #[.string l[k].name, .int .i64 l[k].n]) (t := 217) (fr := (0, 0)) (heap_alloc_new wr _)
          intro v2 w2 ho2 hg2 hv2
          have HB1 : Hid (Below wr.heap.size wr (wr.alloc (.cells #[.string l[k].name, .int .i64 l[k].n] 217)).drew) := ⟨rfl, rfl, rfl, by simp, fun k hk => blk_old wr _ hk⟩
          have HB2 : Hid (Below w.heap.size w w2) := grown_then HB.out HB1.out hg2 (fun q hq => (HK3.out.lt q hq).1)
          have HO2 : Hid (Kd.amt.Own w2 w.heap.size 217 w.heap.size v2 (l.take (k + 1))) := by
            show Kd.Own _ _ _ _ _ _ _
            rw [List.take_succ_eq_append_getElem hlt]
            exact Kd.Own.snoc HK1.out HK2.out ⟨rfl, HP.out⟩ HB1.out (by rw [show (l.take k).length = k by rw [List.length_take]; omega]; exact ho2) hg2 hv2
          clear ho2 hg2 hv2))
      all_goals
        go_wp2
        go_roundw
        case rel => exact ⟨k + 1, by omega, by go_num, HO2.out, HB2.out⟩
        case measure => simp [intOf]; omega
    · obtain rfl : k = l.length := by omega
      have ho := HO.out
      rw [List.take_length] at ho
      obtain ⟨A2, c2, rfl, s2⟩ := (ho.S (Nat.le_refl _) (by omega)).val
      have S2 := Lib.hid s2
      clear ho HO s2
      go_wp2
      go_ret
      exact ⟨_, _, rfl, S2.out, HB.out⟩

theorem info_Of4 : (Tryz.prog.info? 237).map (fun i => (i.zero, i.size, i.bytes)) = some (some (.agg #[.string ⟨#[]⟩, .string ⟨#[]⟩]), 2, 32) := by kernel_rfl
set_option maxHeartbeats 2000000 in
set_option maxRecDepth 100000 in
theorem Of4_calls (v : Value) (l : List Pair) (w : World) (hs : Kd.pair.S (vw w []) v l) (hl : l.length ≤ 1000) : Calls Tryz.prog 80 #[v] w (OfDone Kd.pair l w) := by
  obtain ⟨i0, hi, hz0, hz1, hz2⟩ := info_parts info_Of4
  obtain ⟨A, cap, rfl, hs⟩ := hs.val
  have HS := Lib.hid hs
  clear hs
  go_enter Tryz.func80, Tryz.ntmps80
  go_wp2
  go_loopw [3, 4] (fun o i wr => ∃ k : Nat, k ≤ l.length ∧ i = .int .i64 k ∧ Hid (Kd.pair.Own wr w.heap.size 237 w.heap.size o (l.take k)) ∧ Hid (Below w.heap.size w wr)) (fun _ i _ => l.length - (intOf i).toNat)
  case atStart => exact ⟨0, Nat.zero_le _, rfl, Kd.Own.nil _ _ _ _ _, Below.refl _ _⟩
  case round =>
    obtain ⟨k, hk, rfl, HO, HB⟩ := hrel
    by_cases hlt : k < l.length
    · obtain ⟨b, off, cs, rfl, ⟨-, hp⟩, -⟩ := HS.out.both HB.out k hlt
      have HP := Lib.hid hp
      have HCELL : Hid (∀ w2, Below w.heap.size w w2 → w2.cell? ⟨b, off + k * 2, none⟩ = some (.string l[k].key) ∧ w2.cell? ⟨b, off + k * 2 + 1, none⟩ = some (.string l[k].val)) := fun w2 h2 => by
        obtain ⟨b', off', hA, hc, -⟩ := (HS.out.mono (vw_below h2)).elemN k hlt
        injection hA with hA
        injection hA with e1 e2
        subst e1 e2
        exact ⟨hc 0 _ rfl, hc 1 _ rfl⟩
      obtain ⟨c0, c1⟩ := HCELL.out wr HB.out
      obtain ⟨css, k1, k2, k3⟩ := HO.out
      rw [show (l.take k).length = k by rw [List.length_take]; omega] at k3
      have HK1 := Lib.hid k1
      have HK2 := Lib.hid k2
      have HK3 := Lib.hid k3
      clear k1 k2 k3 hp
      have hsz := HB.out.size
      have b1 : (0 : Int) ≤ (k : Int) := by omega
      have b2 : (k : Int) < (l.length : Int) := by omega
      go_upto_region 5 with fail
      go_region_held3 (fun w' => w'.cell? ⟨b, off + k * 2, none⟩ = some (.string l[k].key) ∧ w'.cell? ⟨b, off + k * 2 + 1, none⟩ = some (.string l[k].val)) (first | go_keep | exact HCELL.out _ (by exact HB2.out))
        ((
          refine step_app _ w.heap.size 41 237 i0 (.agg #[.string ⟨#[]⟩, .string ⟨#[]⟩]) 2 32 Tryz.underlying41 hi hz0 hz1 hz2 rfl (by decide) _ k css.flatten (by exact own_below HK3.out ⟨rfl, rfl, rfl, by simp, fun k hk => blk_old _ _ hk⟩) (some ⟨wr.heap.size, 0, none⟩) 1 1 [.string l[k].key, .string l[k].val] rfl (fun e => by cases e) ?_ (by simp [Value.oneCell']) (by simp only [maxLen]; omega) (by omega) (by simp; omega) _ _ (by rfl) (by rfl) (by rfl) (by rfl) ?_
          · rintro ad h
            cases h
            exact World.news_of_block (cs := #[.string l[k].key, .string l[k].val]) (t := 237) (fr := (0, 0)) (heap_alloc_new wr _)
          intro v2 w2 ho2 hg2 hv2
          have HB1 : Hid (Below wr.heap.size wr (wr.alloc (.cells #[.string l[k].key, .string l[k].val] 237)).drew) := ⟨rfl, rfl, rfl, by simp, fun k hk => blk_old wr _ hk⟩
          have HB2 : Hid (Below w.heap.size w w2) := grown_then HB.out HB1.out hg2 (fun q hq => (HK3.out.lt q hq).1)
          have HO2 : Hid (Kd.pair.Own w2 w.heap.size 237 w.heap.size v2 (l.take (k + 1))) := by
            show Kd.Own _ _ _ _ _ _ _
            rw [List.take_succ_eq_append_getElem hlt]
            exact Kd.Own.snoc HK1.out HK2.out ⟨rfl, HP.out⟩ HB1.out (by rw [show (l.take k).length = k by rw [List.length_take]; omega]; exact ho2) hg2 hv2
          clear ho2 hg2 hv2))
      all_goals
        go_wp2
        go_roundw
        case rel => exact ⟨k + 1, by omega, by go_num, HO2.out, HB2.out⟩
        case measure => simp [intOf]; omega
    · obtain rfl : k = l.length := by omega
      have ho := HO.out
      rw [List.take_length] at ho
      obtain ⟨A2, c2, rfl, s2⟩ := (ho.S (Nat.le_refl _) (by omega)).val
      have S2 := Lib.hid s2
      clear ho HO s2
      go_wp2
      go_ret
      exact ⟨_, _, rfl, S2.out, HB.out⟩

theorem info_OfSel4 : (Tryz.prog.info? 238).map (fun i => (i.zero, i.size, i.bytes)) = some (some (.agg #[.int .i64 0, .string ⟨#[]⟩, .string ⟨#[]⟩]), 3, 40) := by kernel_rfl
set_option maxHeartbeats 2000000 in
set_option maxRecDepth 100000 in
theorem OfSel4_calls (v : Value) (l : List Term) (w : World) (hs : Kd.term.S (vw w []) v l) (hl : l.length ≤ 1000) : Calls Tryz.prog 81 #[v] w (OfDone Kd.term l w) := by
  obtain ⟨i0, hi, hz0, hz1, hz2⟩ := info_parts info_OfSel4
  obtain ⟨A, cap, rfl, hs⟩ := hs.val
  have HS := Lib.hid hs
  clear hs
  go_enter Tryz.func81, Tryz.ntmps81
  go_wp2
  go_loopw [3, 4] (fun o i wr => ∃ k : Nat, k ≤ l.length ∧ i = .int .i64 k ∧ Hid (Kd.term.Own wr w.heap.size 238 w.heap.size o (l.take k)) ∧ Hid (Below w.heap.size w wr)) (fun _ i _ => l.length - (intOf i).toNat)
  case atStart => exact ⟨0, Nat.zero_le _, rfl, Kd.Own.nil _ _ _ _ _, Below.refl _ _⟩
  case round =>
    obtain ⟨k, hk, rfl, HO, HB⟩ := hrel
    by_cases hlt : k < l.length
    · obtain ⟨b, off, cs, rfl, ⟨-, hp⟩, -⟩ := HS.out.both HB.out k hlt
      have HP := Lib.hid hp
      have HCELL : Hid (∀ w2, Below w.heap.size w w2 → w2.cell? ⟨b, off + k * 3, none⟩ = some (.int .i64 l[k].op) ∧ w2.cell? ⟨b, off + k * 3 + 1, none⟩ = some (.string l[k].key) ∧ w2.cell? ⟨b, off + k * 3 + 2, none⟩ = some (.string l[k].val)) := fun w2 h2 => by
        obtain ⟨b', off', hA, hc, -⟩ := (HS.out.mono (vw_below h2)).elemN k hlt
        injection hA with hA
        injection hA with e1 e2
        subst e1 e2
        exact ⟨hc 0 _ rfl, hc 1 _ rfl, hc 2 _ rfl⟩
      obtain ⟨c0, c1, c2⟩ := HCELL.out wr HB.out
      obtain ⟨css, k1, k2, k3⟩ := HO.out
      rw [show (l.take k).length = k by rw [List.length_take]; omega] at k3
      have HK1 := Lib.hid k1
      have HK2 := Lib.hid k2
      have HK3 := Lib.hid k3
      clear k1 k2 k3 hp
      have hsz := HB.out.size
      have b1 : (0 : Int) ≤ (k : Int) := by omega
      have b2 : (k : Int) < (l.length : Int) := by omega
      go_upto_region 5 with fail
      go_region_held3 (fun w' => w'.cell? ⟨b, off + k * 3, none⟩ = some (.int .i64 l[k].op) ∧ w'.cell? ⟨b, off + k * 3 + 1, none⟩ = some (.string l[k].key) ∧ w'.cell? ⟨b, off + k * 3 + 2, none⟩ = some (.string l[k].val)) (first | go_keep | exact HCELL.out _ (by exact HB2.out))
        ((
          refine step_app _ w.heap.size 42 238 i0 (.agg #[.int .i64 0, .string ⟨#[]⟩, .string ⟨#[]⟩]) 3 40 Tryz.underlying42 hi hz0 hz1 hz2 rfl (by decide) _ k css.flatten (by exact own_below HK3.out ⟨rfl, rfl, rfl, by simp, fun k hk => blk_old _ _ hk⟩) (some ⟨wr.heap.size, 0, none⟩) 1 1 [.int .i64 l[k].op, .string l[k].key, .string l[k].val] rfl (fun e => by cases e) ?_ (by simp [Value.oneCell']) (by simp only [maxLen]; omega) (by omega) (by simp; omega) _ _ (by rfl) (by rfl) (by rfl) (by rfl) ?_
          · rintro ad h
            cases h
            exact World.news_of_block (cs := #[.int .i64 l[k].op, .string l[k].key, .string l[k].val]) (t := 238) (fr := (0, 0)) (heap_alloc_new wr _)
          intro v2 w2 ho2 hg2 hv2
          have HB1 : Hid (Below wr.heap.size wr (wr.alloc (.cells #[.int .i64 l[k].op, .string l[k].key, .string l[k].val] 238)).drew) := ⟨rfl, rfl, rfl, by simp, fun k hk => blk_old wr _ hk⟩
          have HB2 : Hid (Below w.heap.size w w2) := grown_then HB.out HB1.out hg2 (fun q hq => (HK3.out.lt q hq).1)
          have HO2 : Hid (Kd.term.Own w2 w.heap.size 238 w.heap.size v2 (l.take (k + 1))) := by
            show Kd.Own _ _ _ _ _ _ _
            rw [List.take_succ_eq_append_getElem hlt]
            exact Kd.Own.snoc HK1.out HK2.out ⟨rfl, HP.out⟩ HB1.out (by rw [show (l.take k).length = k by rw [List.length_take]; omega]; exact ho2) hg2 hv2
          clear ho2 hg2 hv2))
      all_goals
        go_wp2
        go_roundw
        case rel => exact ⟨k + 1, by omega, by go_num, HO2.out, HB2.out⟩
        case measure => simp [intOf]; omega
    · obtain rfl : k = l.length := by omega
      have ho := HO.out
      rw [List.take_length] at ho
      obtain ⟨A2, c2, rfl, s2⟩ := (ho.S (Nat.le_refl _) (by omega)).val
      have S2 := Lib.hid s2
      clear ho HO s2
      go_wp2
      go_ret
      exact ⟨_, _, rfl, S2.out, HB.out⟩

theorem info_Of5 : (Tryz.prog.info? 211).map (fun i => (i.zero, i.size, i.bytes)) = some (some (.agg #[.string ⟨#[]⟩, .string ⟨#[]⟩, .bool false]), 3, 40) := by kernel_rfl
set_option maxHeartbeats 2000000 in
set_option maxRecDepth 100000 in
theorem Of5_calls (v : Value) (l : List Tnt) (w : World) (hs : Kd.tnt.S (vw w []) v l) (hl : l.length ≤ 1000) : Calls Tryz.prog 239 #[v] w (OfDone Kd.tnt l w) := by
  obtain ⟨i0, hi, hz0, hz1, hz2⟩ := info_parts info_Of5
  obtain ⟨A, cap, rfl, hs⟩ := hs.val
  have HS := Lib.hid hs
  clear hs
  go_enter Tryz.func239, Tryz.ntmps239
  go_wp2
  go_loopw [3, 4] (fun o i wr => ∃ k : Nat, k ≤ l.length ∧ i = .int .i64 k ∧ Hid (Kd.tnt.Own wr w.heap.size 211 w.heap.size o (l.take k)) ∧ Hid (Below w.heap.size w wr)) (fun _ i _ => l.length - (intOf i).toNat)
  case atStart => exact ⟨0, Nat.zero_le _, rfl, Kd.Own.nil _ _ _ _ _, Below.refl _ _⟩
  case round =>
    obtain ⟨k, hk, rfl, HO, HB⟩ := hrel
    by_cases hlt : k < l.length
    · obtain ⟨b, off, cs, rfl, ⟨-, hp⟩, -⟩ := HS.out.both HB.out k hlt
      have HP := Lib.hid hp
      have HCELL : Hid (∀ w2, Below w.heap.size w w2 → w2.cell? ⟨b, off + k * 3, none⟩ = some (.string l[k].key) ∧ w2.cell? ⟨b, off + k * 3 + 1, none⟩ = some (.string l[k].val) ∧ w2.cell? ⟨b, off + k * 3 + 2, none⟩ = some (.bool l[k].b)) := fun w2 h2 => by
        obtain ⟨b', off', hA, hc, -⟩ := (HS.out.mono (vw_below h2)).elemN k hlt
        injection hA with hA
        injection hA with e1 e2
        subst e1 e2
        exact ⟨hc 0 _ rfl, hc 1 _ rfl, hc 2 _ rfl⟩
      obtain ⟨c0, c1, c2⟩ := HCELL.out wr HB.out
      obtain ⟨css, k1, k2, k3⟩ := HO.out
      rw [show (l.take k).length = k by rw [List.length_take]; omega] at k3
      have HK1 := Lib.hid k1
      have HK2 := Lib.hid k2
      have HK3 := Lib.hid k3
      clear k1 k2 k3 hp
      have hsz := HB.out.size
      have b1 : (0 : Int) ≤ (k : Int) := by omega
      have b2 : (k : Int) < (l.length : Int) := by omega
      go_upto_region 5 with fail
      go_region_held3 (fun w' => w'.cell? ⟨b, off + k * 3, none⟩ = some (.string l[k].key) ∧ w'.cell? ⟨b, off + k * 3 + 1, none⟩ = some (.string l[k].val) ∧ w'.cell? ⟨b, off + k * 3 + 2, none⟩ = some (.bool l[k].b)) (first | go_keep | exact HCELL.out _ (by exact HB2.out))
        ((
          refine step_app _ w.heap.size 148 211 i0 (.agg #[.string ⟨#[]⟩, .string ⟨#[]⟩, .bool false]) 3 40 Tryz.underlying148 hi hz0 hz1 hz2 rfl (by decide) _ k css.flatten (by exact own_below HK3.out ⟨rfl, rfl, rfl, by simp, fun k hk => blk_old _ _ hk⟩) (some ⟨wr.heap.size, 0, none⟩) 1 1 [.string l[k].key, .string l[k].val, .bool l[k].b] rfl (fun e => by cases e) ?_ (by simp [Value.oneCell']) (by simp only [maxLen]; omega) (by omega) (by simp; omega) _ _ (by rfl) (by rfl) (by rfl) (by rfl) ?_
          · rintro ad h
            cases h
            exact World.news_of_block (cs := #[.string l[k].key, .string l[k].val, .bool l[k].b]) (t := 211) (fr := (0, 0)) (heap_alloc_new wr _)
          intro v2 w2 ho2 hg2 hv2
          have HB1 : Hid (Below wr.heap.size wr (wr.alloc (.cells #[.string l[k].key, .string l[k].val, .bool l[k].b] 211)).drew) := ⟨rfl, rfl, rfl, by simp, fun k hk => blk_old wr _ hk⟩
          have HB2 : Hid (Below w.heap.size w w2) := grown_then HB.out HB1.out hg2 (fun q hq => (HK3.out.lt q hq).1)
          have HO2 : Hid (Kd.tnt.Own w2 w.heap.size 211 w.heap.size v2 (l.take (k + 1))) := by
            show Kd.Own _ _ _ _ _ _ _
            rw [List.take_succ_eq_append_getElem hlt]
            exact Kd.Own.snoc HK1.out HK2.out ⟨rfl, HP.out⟩ HB1.out (by rw [show (l.take k).length = k by rw [List.length_take]; omega]; exact ho2) hg2 hv2
          clear ho2 hg2 hv2))
      all_goals
        go_wp2
        go_roundw
        case rel => exact ⟨k + 1, by omega, by go_num, HO2.out, HB2.out⟩
        case measure => simp [intOf]; omega
    · obtain rfl : k = l.length := by omega
      have ho := HO.out
      rw [List.take_length] at ho
      obtain ⟨A2, c2, rfl, s2⟩ := (ho.S (Nat.le_refl _) (by omega)).val
      have S2 := Lib.hid s2
      clear ho HO s2
      go_wp2
      go_ret
      exact ⟨_, _, rfl, S2.out, HB.out⟩

theorem info_OfTols5 : (Tryz.prog.info? 239).map (fun i => (i.zero, i.size, i.bytes)) = some (some (.agg #[.string ⟨#[]⟩, .string ⟨#[]⟩, .bool false]), 3, 40) := by kernel_rfl
set_option maxHeartbeats 2000000 in
set_option maxRecDepth 100000 in
theorem OfTols5_calls (v : Value) (l : List Tnt) (w : World) (hs : Kd.tnt.S (vw w []) v l) (hl : l.length ≤ 1000) : Calls Tryz.prog 82 #[v] w (OfDone Kd.tnt l w) := by
  obtain ⟨i0, hi, hz0, hz1, hz2⟩ := info_parts info_OfTols5
  obtain ⟨A, cap, rfl, hs⟩ := hs.val
  have HS := Lib.hid hs
  clear hs
  go_enter Tryz.func82, Tryz.ntmps82
  go_wp2
  go_loopw [3, 4] (fun o i wr => ∃ k : Nat, k ≤ l.length ∧ i = .int .i64 k ∧ Hid (Kd.tnt.Own wr w.heap.size 239 w.heap.size o (l.take k)) ∧ Hid (Below w.heap.size w wr)) (fun _ i _ => l.length - (intOf i).toNat)
  case atStart => exact ⟨0, Nat.zero_le _, rfl, Kd.Own.nil _ _ _ _ _, Below.refl _ _⟩
  case round =>
    obtain ⟨k, hk, rfl, HO, HB⟩ := hrel
    by_cases hlt : k < l.length
    · obtain ⟨b, off, cs, rfl, ⟨-, hp⟩, -⟩ := HS.out.both HB.out k hlt
      have HP := Lib.hid hp
      have HCELL : Hid (∀ w2, Below w.heap.size w w2 → w2.cell? ⟨b, off + k * 3, none⟩ = some (.string l[k].key) ∧ w2.cell? ⟨b, off + k * 3 + 1, none⟩ = some (.string l[k].val) ∧ w2.cell? ⟨b, off + k * 3 + 2, none⟩ = some (.bool l[k].b)) := fun w2 h2 => by
        obtain ⟨b', off', hA, hc, -⟩ := (HS.out.mono (vw_below h2)).elemN k hlt
        injection hA with hA
        injection hA with e1 e2
        subst e1 e2
        exact ⟨hc 0 _ rfl, hc 1 _ rfl, hc 2 _ rfl⟩
      obtain ⟨c0, c1, c2⟩ := HCELL.out wr HB.out
      obtain ⟨css, k1, k2, k3⟩ := HO.out
      rw [show (l.take k).length = k by rw [List.length_take]; omega] at k3
      have HK1 := Lib.hid k1
      have HK2 := Lib.hid k2
      have HK3 := Lib.hid k3
      clear k1 k2 k3 hp
      have hsz := HB.out.size
      have b1 : (0 : Int) ≤ (k : Int) := by omega
      have b2 : (k : Int) < (l.length : Int) := by omega
      go_upto_region 5 with fail
      go_region_held3 (fun w' => w'.cell? ⟨b, off + k * 3, none⟩ = some (.string l[k].key) ∧ w'.cell? ⟨b, off + k * 3 + 1, none⟩ = some (.string l[k].val) ∧ w'.cell? ⟨b, off + k * 3 + 2, none⟩ = some (.bool l[k].b)) (first | go_keep | exact HCELL.out _ (by exact HB2.out))
        ((
          refine step_app _ w.heap.size 43 239 i0 (.agg #[.string ⟨#[]⟩, .string ⟨#[]⟩, .bool false]) 3 40 Tryz.underlying43 hi hz0 hz1 hz2 rfl (by decide) _ k css.flatten (by exact own_below HK3.out ⟨rfl, rfl, rfl, by simp, fun k hk => blk_old _ _ hk⟩) (some ⟨wr.heap.size, 0, none⟩) 1 1 [.string l[k].key, .string l[k].val, .bool l[k].b] rfl (fun e => by cases e) ?_ (by simp [Value.oneCell']) (by simp only [maxLen]; omega) (by omega) (by simp; omega) _ _ (by rfl) (by rfl) (by rfl) (by rfl) ?_
          · rintro ad h
            cases h
            exact World.news_of_block (cs := #[.string l[k].key, .string l[k].val, .bool l[k].b]) (t := 239) (fr := (0, 0)) (heap_alloc_new wr _)
          intro v2 w2 ho2 hg2 hv2
          have HB1 : Hid (Below wr.heap.size wr (wr.alloc (.cells #[.string l[k].key, .string l[k].val, .bool l[k].b] 239)).drew) := ⟨rfl, rfl, rfl, by simp, fun k hk => blk_old wr _ hk⟩
          have HB2 : Hid (Below w.heap.size w w2) := grown_then HB.out HB1.out hg2 (fun q hq => (HK3.out.lt q hq).1)
          have HO2 : Hid (Kd.tnt.Own w2 w.heap.size 239 w.heap.size v2 (l.take (k + 1))) := by
            show Kd.Own _ _ _ _ _ _ _
            rw [List.take_succ_eq_append_getElem hlt]
            exact Kd.Own.snoc HK1.out HK2.out ⟨rfl, HP.out⟩ HB1.out (by rw [show (l.take k).length = k by rw [List.length_take]; omega]; exact ho2) hg2 hv2
          clear ho2 hg2 hv2))
      all_goals
        go_wp2
        go_roundw
        case rel => exact ⟨k + 1, by omega, by go_num, HO2.out, HB2.out⟩
        case measure => simp [intOf]; omega
    · obtain rfl : k = l.length := by omega
      have ho := HO.out
      rw [List.take_length] at ho
      obtain ⟨A2, c2, rfl, s2⟩ := (ho.S (Nat.le_refl _) (by omega)).val
      have S2 := Lib.hid s2
      clear ho HO s2
      go_wp2
      go_ret
      exact ⟨_, _, rfl, S2.out, HB.out⟩

end Go.Proofs.YtnmhicgbdalniaaGreatDoor
namespace Go.Proofs.YtnmhicgbdalniaaGreatDoor
open Go.RowKit Go.Sort

/-- A row of strings, in memory that is new. -/
def DomsDone (l : List (List UInt8)) (w : World) (e : Ending) (w' : World) : Prop := ∃ sv, e = .returned sv ∧ w'.ownsRow w.heap.size 9 1 sv l.length (l.map encStr) ∧ Below w.heap.size w w'
theorem doms_left {w w1 : World} {g cap n nn q : Nat} {os : Array Obj} {ss : List (List UInt8)} (hown : w1.ownsRow w.heap.size 9 1 (.slice (some ⟨g, 0, none⟩) n cap) n (ss.map encStr)) (hbel : Below w.heap.size w w1) (hbg : w.heap.size ≤ g) (hlen : ss.length = n) :
    DomsDone (insAll ss) w (.returned (.slice (some ⟨g, 0, none⟩) (Lib.compact (ss.mergeSort fun x y => decide (x ≤ y))).length cap))
      (putRow encStr (Sort.ahead (grow (putRow encStr (Sort.ahead w1 nn) g 0 (ss.mergeSort fun x y => decide (x ≤ y)).toArray) os) q) g 0 (Lib.compact (ss.mergeSort fun x y => decide (x ≤ y)) ++ List.replicate (n - (Lib.compact (ss.mergeSort fun x y => decide (x ≤ y))).length) []).toArray) := by
  have hl2 : (ss.mergeSort fun x y => decide (x ≤ y)).length = ss.length := List.length_mergeSort ss
  have hle := Lib.compact_length_le (ss.mergeSort fun x y => decide (x ≤ y))
  subst hlen
  rw [insAll_eq]
  rcases hown.2 with ⟨h0, _⟩ | ⟨g', cap', cur, hv, hbase, hb, h1, h2, h3, h4⟩
  · cases h0
  cases hv
  have hs := ownsRow_sorted (n := nn) (os := os) (ts := ss.mergeSort fun x y => decide (x ≤ y)) hl2 hbase hb h1 h2 h3
  have hc := Lib.ownsRow_putRow (q := q) (k := (Lib.compact (ss.mergeSort fun x y => decide (x ≤ y))).length) (ys := Lib.compact (ss.mergeSort fun x y => decide (x ≤ y)) ++ List.replicate (ss.length - (Lib.compact (ss.mergeSort fun x y => decide (x ≤ y))).length) []) hs (by simp; omega) (by omega)
  rw [List.take_left] at hc
  exact ⟨_, rfl, hc, Lib.below_putRow (hbel.grown (grownBy_sorted _) hbel.size (fun j hj => by cases hj; exact hbase)) hbg⟩
theorem own_base {w : World} {base base' : Nat} {e : TypeId} {size : Nat} {v : Value} {n : Nat} {xs : List Value} (h : w.ownsRow base e size v n xs) (hb : base' ≤ base) : w.ownsRow base' e size v n xs := by
  obtain ⟨h1, h2 | ⟨g, cap, cur, h3, h4, h5⟩⟩ := h
  · exact ⟨h1, .inl h2⟩
  · exact ⟨h1, .inr ⟨g, cap, cur, h3, by omega, h5⟩⟩
theorem info_str : (Tryz.prog.info? 9).map (fun i => (i.zero, i.size, i.bytes)) = some (some (.string ⟨#[]⟩), 1, 16) := by kernel_rfl
set_option maxHeartbeats 4000000 in
set_option maxRecDepth 100000 in
theorem Domains_calls (vs : Value) (s : St) (key : ByteArray) (w : World) (hs : Kd.state.V (vw w []) vs s) (hn : s.nodes.length ≤ 1000) :
    Calls Tryz.prog 179 #[vs, .string key] w (DomsDone (domsV s.nodes key) w) := by
  obtain ⟨i0, hi, hz0, hz1, hz2⟩ := info_parts info_str
  obtain ⟨cs, rfl, hks⟩ := hs
  obtain ⟨A1, c1, A2, c2, A3, c3, rfl, s1, -, -⟩ := hks
  have S1 := Lib.hid s1
  clear s1
  go_enter Tryz.func179, Tryz.ntmps179
  go_wp2
  obtain ⟨W, hW⟩ : ∃ W : World, W = w.alloc (.cells #[.slice A1 s.nodes.length c1, .slice A2 s.pods.length c2, .slice A3 s.budgets.length c3] 26) := ⟨_, rfl⟩
  rw [← hW]
  have hbw : Below w.heap.size w W := by rw [hW]; exact alloc_below _ _
  have k1 : W.heap[w.heap.size]? = some (.cells #[.slice A1 s.nodes.length c1, .slice A2 s.pods.length c2, .slice A3 s.budgets.length c3] 26 (0, 0)) := by
    rw [hW]; exact blk_last _ _
  have HBW := Lib.hid hbw
  obtain ⟨z, zf⟩ := blk_all k1
  clear hbw k1 hW
  go_wp2
  go_loopw [5, 13] (fun o i wr => ∃ k : Nat, k ≤ s.nodes.length ∧ i = .int .i64 k ∧ Hid (wr.ownsRow W.heap.size 9 1 o (domsL (s.nodes.take k) key).length (((domsL (s.nodes.take k) key).map bs).map encStr)) ∧ Hid (Below W.heap.size W wr)) (fun _ i _ => s.nodes.length - (intOf i).toNat)
  case atStart => exact ⟨0, Nat.zero_le _, rfl, World.ownsRow_nil _ _ _ _, Below.refl _ _⟩
  case round =>
    obtain ⟨k, hk, rfl, HO, HB⟩ := hrel
    clear z zf
    by_cases hlt : k < s.nodes.length
    · have hdl : (domsL (s.nodes.take k) key).length ≤ k := by
        have := domsL_len (s.nodes.take k) key
        rw [List.length_take] at this; omega
      have hsn := domsL_snoc s.nodes key hlt
      obtain ⟨b, off, cs, rfl, hn2, hc⟩ := S1.out.both (Below.then HBW.out HB.out) k hlt
      obtain ⟨x, hx⟩ : ∃ x, s.nodes[k] = x := ⟨_, rfl⟩
      rw [hx] at hn2 hsn
      obtain ⟨D1, g1, D2, g2, D3, g3, rfl, -, -, t2, -⟩ := hn2
      have T2 : Hid (Kd.pair.S (vw w []) (.slice D2 x.labels.length g2) x.labels) := t2
      have HC : Hid (wr.rangeAt b (off + k * 5) _) := hc
      have HSN := Lib.hid hsn
      clear hc hsn hx t2
      obtain ⟨d, ok, hd⟩ : ∃ d ok, getV x.labels key = (d, ok) := ⟨_, _, rfl⟩
      have HD := Lib.hid hd
      clear hd
      have hsz := HB.out.size
      have HB2 : Hid (Below W.heap.size W (wr.alloc (.cells #[.string x.name, .slice D1 x.cap.length g1, .slice D2 x.labels.length g2, .slice D3 x.taints.length g3, .bool x.cordon] 94))) := Below.then HB.out (alloc_below _ _)
      go_upto_region 5 with (with_reducible refine wpList_load_mid rfl 94 _ rfl b (off + k * 5) rfl _ _ HC.out Tryz.underlying94 rfl (by kernel_rfl) ?_)
      generalize hU : wr.alloc (.cells #[.string x.name, .slice D1 x.cap.length g1, .slice D2 x.labels.length g2, .slice D3 x.taints.length g3, .bool x.cordon] 94) = U at HB2 ⊢
      have hub : U.heap[wr.heap.size]? = some (.cells #[.string x.name, .slice D1 x.cap.length g1, .slice D2 x.labels.length g2, .slice D3 x.taints.length g3, .bool x.cordon] 94 (0, 0)) := by rw [← hU]; exact blk_last _ _
      have hue : Below wr.heap.size wr U := by rw [← hU]; exact alloc_below _ _
      have HOU := Lib.hid (own_below HO.out hue)
      have TU : Hid (Kd.pair.S (vw U []) (.slice D2 x.labels.length g2) x.labels) := T2.out.mono (vw_below (Below.then HBW.out HB2.out))
      obtain ⟨y, yf⟩ := blk_all hub
      clear hU hub hue
      go_wp2_with fail
      refine (Get_calls _ x.labels key _ TU.out).mono ?_
      unfold GetDone
      rw [HD.out]
      rintro e w1 ⟨rfl, hb1⟩
      have HB3 := Lib.hid (Below.then HB2.out hb1)
      have HO1 := Lib.hid (own_below HOU.out hb1)
      clear hb1 y yf
      simp only
      rw [HD.out] at HSN
      cases ok with
      | false =>
        have hs2 : domsL (s.nodes.take (k + 1)) key = domsL (s.nodes.take k) key := by rw [HSN.out]; simp
        have HS2 := Lib.hid hs2
        clear hs2
        go_wp2
        go_roundw
        case rel => exact ⟨k + 1, by omega, by go_num, by rw [HS2.out]; exact HO1, HB3.out⟩
        case measure => simp [intOf]; omega
      | true =>
        have hs2 : domsL (s.nodes.take (k + 1)) key = domsL (s.nodes.take k) key ++ [d] := by rw [HSN.out]; simp
        have HS2 := Lib.hid hs2
        clear hs2
        have hsz1 := HB3.out.size
        go_wp2_with (at_builtin; refine wpList_append_own _ rfl _ _ 53 rfl W.heap.size 9 i0 (.string ⟨#[]⟩) 1 16 Tryz.underlying53 hi hz0 hz1 hz2 rfl (by decide) _ _ _ rfl (HO1.out.alloc _) ⟨w1.heap.size, 0, none⟩ 1 1 [.string d] rfl rfl (one_new _ _ _) (by simp [Value.oneCell']) (by simp only [maxLen]; omega) (by omega) (by simp; omega) ?_)
        intro v' w2 hown' hgrow _
        have HO2 : Hid (w2.ownsRow W.heap.size 9 1 v' (domsL (s.nodes.take (k + 1)) key).length (((domsL (s.nodes.take (k + 1)) key).map bs).map encStr)) := by
          show World.ownsRow _ _ _ _ _ _ _
          rw [HS2.out, List.length_append, List.map_append, List.map_append, List.map_map]; exact hown'
        have HB4 := Lib.hid ((HB3.out.alloc hsz1 _).grown hgrow (by simp; omega) (fun q hq => (HO1.out.lt q hq).1))
        clear hown' hgrow
        go_wp2
        go_roundw
        case rel => exact ⟨k + 1, by omega, by go_num, HO2.out, HB4.out⟩
        case measure => simp [intOf]; omega
    · obtain rfl : k = s.nodes.length := by omega
      have ho := HO.out
      rw [List.take_length] at ho
      have hdl := domsL_len s.nodes key
      have hdv : domsV s.nodes key = insAll ((domsL s.nodes key).map bs) := rfl
      obtain ⟨ss, hss⟩ : ∃ ss, (domsL s.nodes key).map bs = ss := ⟨_, rfl⟩
      have hsl : (domsL s.nodes key).length = ss.length := by rw [← hss, List.length_map]
      rw [hss, hsl] at ho
      rw [hss] at hdv
      have HDV := Lib.hid hdv
      rw [hsl] at hdl
      have HO3 := Lib.hid (own_base ho HBW.out.size)
      have HB3 := Lib.hid (Below.then HBW.out HB.out)
      clear HO ho hss hsl hdv
      rcases HO3.out.2 with ⟨rfl, h0⟩ | ⟨g1, cap1, cur1, rfl, -⟩
      · have he : ss = [] := List.eq_nil_of_length_eq_zero h0
        clear h0
        have HE := Lib.hid he
        clear he
        go_wp2_with (first
          | (go_at_call 257; refine (Tryz.slices_Sort_string_none none 0 _).mono ?_; rintro e w' ⟨rfl, rfl⟩)
          | (go_at_call 258; refine (Tryz.slices_Compact_string_empty none 0 _).mono ?_; rintro e w' ⟨rfl, rfl⟩))
        go_ret
        rw [HDV.out, HE.out]
        exact ⟨_, rfl, World.ownsRow_nil _ _ _ _, HB3.out⟩
      · obtain ⟨g, cap, hv, hbg, hgl, hncap, hcm, hlen, hH⟩ := Lib.holds_of_ownsRow HO3.out (by simp)
        cases hv
        have hsort := Tryz.slices_Sort_string g1 0 cap1 ss wr hH hgl (by omega)
        have HX := Lib.hid (And.intro hbg (And.intro hgl (And.intro hncap hH)))
        have HSO := Lib.hid hsort
        clear hsort hbg hgl hncap hH
        go_wp2_with fail
        refine HSO.out.mono ?_
        rintro e w2 ⟨rfl, nn, os, rfl⟩
        have hl2 : (ss.mergeSort fun x y => decide (x ≤ y)).length = ss.length := List.length_mergeSort ss
        have hH2 : Holds encStr (grow (putRow encStr (Sort.ahead wr nn) g1 0 (ss.mergeSort fun x y => decide (x ≤ y)).toArray) os) g1 0 (ss.mergeSort fun x y => decide (x ≤ y)).toArray :=
          holds_grow encStr _ os g1 0 _ (by simpa [putRow, mapBlock, Sort.ahead] using HX.out.2.1) (holds_putRow encStr _ g1 0 _ _ (holds_ahead encStr wr nn g1 0 _ HX.out.2.2.2) (by simp))
        have hcomp := Tryz.slices_Compact_string g1 0 cap1 (ss.mergeSort fun x y => decide (x ≤ y)) _ hH2 (by omega) (by have := HX.out.2.2.1; omega)
        rw [hl2] at hcomp
        have HCO := Lib.hid hcomp
        clear hcomp hH2 hl2
        go_wp2_with fail
        refine HCO.out.mono ?_
        rintro e w3 ⟨rfl, q, rfl⟩
        go_wp2
        go_ret
        rw [HDV.out]
        exact doms_left HO3.out HB3.out HX.out.1 rfl
end Go.Proofs.YtnmhicgbdalniaaGreatDoor
namespace Go.Proofs.YtnmhicgbdalniaaGreatDoor
open Go.RowKit Go.Sort

theorem own_empty (w : World) (T : TypeId) : (w.alloc (.cells #[] T)).ownsRow w.heap.size T 1 (.slice (some ⟨w.heap.size, 0, none⟩) 0 0) 0 [] :=
  ⟨rfl, .inr ⟨w.heap.size, 0, #[], rfl, Nat.le_refl _, blk_last _ _, Nat.le_refl _, by simp [maxLen], rfl, rfl⟩⟩
/-- What a row of strings of the call's own is, to read. -/
theorem own_view {w : World} {base : Nat} {v : Value} {l : List (List UInt8)} (h : w.ownsRow base 9 1 v l.length (l.map encStr)) :
    (v = .slice none 0 0 ∧ l = []) ∨ ∃ g c, v = .slice (some ⟨g, 0, none⟩) l.length c ∧ base ≤ g ∧ g < w.heap.size ∧ l.length ≤ c ∧ c ≤ maxLen ∧ ∀ j, (hj : j < l.length) → w.cell? ⟨g, j, none⟩ = some (.string (ba l[j])) := by
  rcases h.2 with ⟨h1, h0⟩ | ⟨g1, cap1, cur1, h1, -⟩
  · exact .inl ⟨h1, List.eq_nil_of_length_eq_zero h0⟩
  · obtain ⟨g, c, h2, hb, hg, hn, hm, -, hH⟩ := Lib.holds_of_ownsRow h (by rw [h1]; simp)
    refine .inr ⟨g, c, h2, hb, hg, hn, hm, fun j hj => ?_⟩
    have := (hH j (by simpa using hj)).1
    rw [Nat.zero_add, getElem!_pos _ j (by simpa using hj)] at this
    simpa [encStr, ba] using this
theorem insB_pass {v : List UInt8} : ∀ {l : List (List UInt8)} {q : Nat}, q ≤ l.length → (∀ j, (hj : j < l.length) → j < q → l[j] < v) → insB v l = l.take q ++ insB v (l.drop q)
  | l, 0, _, _ => by simp
  | [], q + 1, h, _ => by simp at h
  | a :: r, q + 1, h, hp => by
    have h0 : a < v := hp 0 (by simp) (by omega)
    rw [insB, if_pos h0, List.take_succ_cons, List.drop_succ_cons, List.cons_append, insB_pass (q := q) (by simpa using h) (fun j hj hq => by have := hp (j + 1) (by simpa using hj) (by omega); simpa using this)]
theorem insB_all {v : List UInt8} {l : List (List UInt8)} (hp : ∀ j, (hj : j < l.length) → j < l.length → l[j] < v) : insB v l = l ++ [v] := by
  rw [insB_pass (Nat.le_refl _) hp, List.take_length, List.drop_length]; rfl
theorem insB_same {v : List UInt8} {l : List (List UInt8)} {q : Nat} (h : q < l.length) (hp : ∀ j, (hj : j < l.length) → j < q → l[j] < v) (hv : l[q] = v) : insB v l = l := by
  rw [insB_pass (Nat.le_of_lt h) hp, List.drop_eq_getElem_cons h, insB, if_neg (by rw [hv]; exact Std.lt_irrefl), if_pos hv, ← List.drop_eq_getElem_cons h, List.take_append_drop]
theorem insB_here {v : List UInt8} {l : List (List UInt8)} {q : Nat} (h : q < l.length) (hp : ∀ j, (hj : j < l.length) → j < q → l[j] < v) (h1 : ¬ l[q] < v) (h2 : l[q] ≠ v) : insB v l = l.take q ++ v :: l.drop q := by
  rw [insB_pass (Nat.le_of_lt h) hp]
  congr 1
  rw [List.drop_eq_getElem_cons h, insB, if_neg h1, if_neg h2]
end Go.Proofs.YtnmhicgbdalniaaGreatDoor
namespace Go.Proofs.YtnmhicgbdalniaaGreatDoor
open Go.RowKit Go.Sort

theorem pass_next {l : List (List UInt8)} {v : List UInt8} {q : Nat} (hp : ∀ i, (hi : i < l.length) → i < q → l[i] < v) {hq : q < l.length} (h : l[q] < v) : ∀ i, (hi : i < l.length) → i < q + 1 → l[i] < v := fun i hi hiq => by
  rcases Nat.lt_or_ge i q with h1 | h1
  · exact hp i hi h1
  · have e : i = q := by omega
    subst e
    exact h
theorem strs_at {w : World} {g : Nat} {l : List (List UInt8)} (h : ∀ j, (hj : j < l.length) → w.cell? ⟨g, j, none⟩ = some (.string (ba l[j]))) (q : Nat) : ∀ j u, ((l.drop q).map encStr)[j]? = some u → w.cell? ⟨g, q + j, none⟩ = some u := fun j u hu => by
  have hj : q + j < l.length := by have := (List.getElem?_eq_some_iff.1 hu).1; simp at this; omega
  rw [h (q + j) hj]
  simp only [List.getElem?_map, List.getElem?_drop, List.getElem?_eq_getElem hj, Option.map_some, Option.some.injEq] at hu
  rw [← hu]; rfl
theorem strs_take {w : World} {g : Nat} {l : List (List UInt8)} (h : ∀ j, (hj : j < l.length) → w.cell? ⟨g, j, none⟩ = some (.string (ba l[j]))) (q : Nat) : ∀ j u, ((l.take q).map encStr)[j]? = some u → w.cell? ⟨g, j, none⟩ = some u := fun j u hu => by
  have hj : j < l.length ∧ j < q := by have := (List.getElem?_eq_some_iff.1 hu).1; simp at this; omega
  rw [h j hj.1]
  simp only [List.getElem?_map, List.getElem?_take, if_pos hj.2, List.getElem?_eq_getElem hj.1, Option.map_some, Option.some.injEq] at hu
  rw [← hu]; rfl
theorem strs_below {w w' : World} {g : Nat} {l : List (List UInt8)} (h : ∀ j, (hj : j < l.length) → w.cell? ⟨g, j, none⟩ = some (.string (ba l[j]))) (hg : g < w.heap.size) (hb : Below w.heap.size w w') : ∀ j, (hj : j < l.length) → w'.cell? ⟨g, j, none⟩ = some (.string (ba l[j])) := fun j hj =>
  (hb.cell (p := ⟨g, j, none⟩) hg).trans (h j hj)
theorem strs_one (l : List (List UInt8)) : ∀ u ∈ l.map encStr, u.oneCell' = true := fun u hu => by
  obtain ⟨c, _, rfl⟩ := List.mem_map.1 hu
  rfl
set_option maxHeartbeats 4000000 in
set_option maxRecDepth 100000 in
theorem rDomains_calls (vs : Value) (s : St) (key : ByteArray) (w : World) (hs : Kd.state.V (vw w []) vs s) (hn : s.nodes.length ≤ 1000) :
    Calls Tryz.prog 220 #[vs, .string key] w (DomsDone (domsV s.nodes key) w) := by
  obtain ⟨i0, hi, hz0, hz1, hz2⟩ := info_parts info_str
  obtain ⟨cs, rfl, hks⟩ := hs
  obtain ⟨A1, c1, A2, c2, A3, c3, rfl, s1, -, -⟩ := hks
  have S1 := Lib.hid s1
  clear s1
  go_enter Tryz.func220, Tryz.ntmps220
  go_wp2
  obtain ⟨W, hW⟩ : ∃ W : World, W = w.alloc (.cells #[.slice A1 s.nodes.length c1, .slice A2 s.pods.length c2, .slice A3 s.budgets.length c3] 51) := ⟨_, rfl⟩
  rw [← hW]
  have hbw : Below w.heap.size w W := by rw [hW]; exact alloc_below _ _
  have k1 : W.heap[w.heap.size]? = some (.cells #[.slice A1 s.nodes.length c1, .slice A2 s.pods.length c2, .slice A3 s.budgets.length c3] 51 (0, 0)) := by
    rw [hW]; exact blk_last _ _
  have HK0 := Lib.hid k1
  have HBW := Lib.hid hbw
  clear hbw k1 hW
  go_wp2
  go_loopw [5, 6] (fun o i wr => ∃ k : Nat, k ≤ s.nodes.length ∧ i = .int .i64 k ∧ Hid (wr.ownsRow W.heap.size 9 1 o (domsV (s.nodes.take k) key).length ((domsV (s.nodes.take k) key).map encStr)) ∧ Hid (Below W.heap.size W wr)) (fun _ i _ => s.nodes.length - (intOf i).toNat)
  case atStart => exact ⟨0, Nat.zero_le _, rfl, World.ownsRow_nil _ _ _ _, Below.refl _ _⟩
  case round =>
    obtain ⟨k, hk, rfl, HO, HB⟩ := hrel
    have q1 := (HB.out.block _ (blk_lt HK0.out)).trans HK0.out
    obtain ⟨z, zf⟩ := blk_all q1
    clear q1
    by_cases hlt : k < s.nodes.length
    · have hdl : (domsV (s.nodes.take k) key).length ≤ k := by
        have := domsV_len (s.nodes.take k) key
        rw [List.length_take] at this; omega
      have hsn := domsV_snoc s.nodes key hlt
      obtain ⟨b, off, cs, rfl, hn2, hc⟩ := S1.out.both (Below.then HBW.out HB.out) k hlt
      obtain ⟨x, hx⟩ : ∃ x, s.nodes[k] = x := ⟨_, rfl⟩
      rw [hx] at hn2 hsn
      obtain ⟨D1, g1, D2, g2, D3, g3, rfl, -, -, t2, -⟩ := hn2
      have T2 : Hid (Kd.pair.S (vw w []) (.slice D2 x.labels.length g2) x.labels) := t2
      have m2 : wr.cell? ⟨b, off + k * 5 + 2, none⟩ = some (.slice D2 x.labels.length g2) := hc 2 _ rfl
      obtain ⟨d, ok, hd⟩ : ∃ d ok, getV x.labels key = (d, ok) := ⟨_, _, rfl⟩
      rw [hd] at hsn
      have HD := Lib.hid hd
      obtain ⟨l, hl⟩ : ∃ l, domsV (s.nodes.take k) key = l := ⟨_, rfl⟩
      rw [hl] at hsn HO hdl
      have HSN := Lib.hid hsn
      clear hc hsn hx t2 hd hl
      have hsz := HB.out.size
      go_wp2_with fail
      refine (Label_calls _ x.labels key _ (T2.out.mono (vw_below (Below.then HBW.out HB.out)))).mono ?_
      unfold GetSame
      rw [HD.out]
      rintro e w2 ⟨rfl, rfl⟩
      clear m2
      simp only
      cases ok with
      | false =>
        have hs2 : domsV (s.nodes.take (k + 1)) key = l := by rw [HSN.out]; simp
        have HS2 := Lib.hid hs2
        clear hs2
        go_wp2
        go_roundw
        case rel => exact ⟨k + 1, by omega, by go_num, by rw [HS2.out]; exact HO, HB.out⟩
        case measure => simp [intOf]; omega
      | true =>
        have hs2 : domsV (s.nodes.take (k + 1)) key = insB (bs d) l := by rw [HSN.out]; simp
        have HS2 := Lib.hid hs2
        clear hs2
        clear z zf
        rcases own_view HO.out with ⟨rfl, rfl⟩ | ⟨g, c, rfl, hbg, hgl, hncap, hcm, hH⟩
        · have HS3 : Hid (domsV (s.nodes.take (k + 1)) key = [bs d]) := by show _ = _; rw [HS2.out]; rfl
          go_wp2
          go_loop [9] (fun j => j = .int .i64 0) (fun _ => 0)
          case atStart => rfl
          case round =>
            subst hrel
            go_wp2_with (at_builtin; refine wpList_app _ wr.heap.size 53 9 i0 (.string ⟨#[]⟩) 1 16 Tryz.underlying53 hi hz0 hz1 hz2 rfl (by decide) _ 0 [] (own_empty wr 9) none 0 _ [] rfl (fun _ => rfl) (fun ad h => by cases h) (fun u hu => by simp at hu) (by simp only [maxLen]; omega) (by omega) (by simp) _ _ rfl rfl rfl rfl ?_)
            intro v1 w1 ho1 hg1 hv1
            have HB1 := Lib.hid ((alloc_below wr (.cells #[] 9)).grown hg1 (by simp) (fun q hq => ((own_empty wr 9).lt q hq).1))
            have HO1 := Lib.hid ho1
            clear ho1 hg1 hv1
            have hz1' := HB1.out.size
            have N2 : ∀ ad, some (⟨w1.heap.size, 0, none⟩ : Addr) = some ad → ∀ j u, [Value.string d][j]? = some u → (w1.alloc (.cells #[.string d] 9)).cell? (ad.add j) = some u := fun ad h => by
              cases h
              exact one_new _ _ _
            go_wp2_with (at_builtin; refine wpList_app _ wr.heap.size 53 9 i0 (.string ⟨#[]⟩) 1 16 Tryz.underlying53 hi hz0 hz1 hz2 rfl (by decide) _ _ _ (HO1.out.alloc _) (some ⟨w1.heap.size, 0, none⟩) 1 1 [.string d] rfl (fun e => by cases e) N2 (by simp [Value.oneCell']) (by simp only [maxLen]; omega) (by omega) (by simp; omega) _ _ rfl rfl rfl rfl ?_)
            intro v2 w2 ho2 hg2 hv2
            have HB2 := Lib.hid ((HB1.out.alloc hz1' (.cells #[.string d] 9)).grown hg2 (by simp; omega) (fun q hq => (HO1.out.lt q hq).1))
            have HO2 := Lib.hid ho2
            clear ho2 hg2 hv2 N2
            have hz2' := HB2.out.size
            go_wp2_with (at_builtin; refine wpList_app _ wr.heap.size 53 9 i0 (.string ⟨#[]⟩) 1 16 Tryz.underlying53 hi hz0 hz1 hz2 rfl (by decide) _ _ _ HO2.out _ _ _ [] (by simp) (fun _ => rfl) (fun ad _ j u hu => by simp at hu) (fun u hu => by simp at hu) (by simp only [maxLen]; omega) (by omega) hz2' _ _ rfl rfl rfl rfl ?_)
            intro v3 w3 ho3 hg3 hv3
            have HB4 := Lib.hid (Below.then HB.out (HB2.out.grown hg3 hz2' (fun q hq => (HO2.out.lt q hq).1)))
            have HO4 : Hid (w3.ownsRow W.heap.size 9 1 v3 (domsV (s.nodes.take (k + 1)) key).length ((domsV (s.nodes.take (k + 1)) key).map encStr)) := by
              show World.ownsRow _ _ _ _ _ _ _
              rw [HS3.out]
              have ho4 := own_base ho3 hsz
              simpa [encStr, bs, List.map_take, List.map_drop] using ho4
            clear ho3 hg3 hv3
            go_wp2
            go_roundw
            case rel => exact ⟨k + 1, by omega, by go_num, HO4.out, HB4.out⟩
            case measure => simp [intOf]; omega
        · have HH := Lib.hid hH
          have HX := Lib.hid (And.intro hbg (And.intro hncap hcm))
          clear hH hbg hncap hcm
          go_wp2
          obtain ⟨wo, hwo⟩ : ∃ wo : World, wo = wr := ⟨_, rfl⟩
          go_loop [9] (fun j => ∃ q : Nat, q ≤ l.length ∧ j = .int .i64 q ∧ Hid (∀ i, (hi : i < l.length) → i < q → l[i] < bs d)) (fun j => l.length - (intOf j).toNat)
          case atStart => exact ⟨0, Nat.zero_le _, rfl, fun i _ h => absurd h (by omega)⟩
          case round =>
            obtain ⟨q, hq, rfl, HP⟩ := hrel
            by_cases hql : q < l.length
            · have c0 := HH.out q hql
              have hb1 : Op.bytesLess (ba l[q]).toList d.toList = decide (l[q] < bs d) := by
                rw [Proofs.bytesLess_eq, Lib.toList_data, Lib.toList_data]; rfl
              by_cases hlv : l[q] < bs d
              · rw [decide_eq_true hlv] at hb1
                have HLV := Lib.hid hlv
                clear hlv
                go_wp2
                go_round
                case rel => exact ⟨q + 1, by omega, by go_num, pass_next HP.out HLV.out⟩
                case measure => simp [intOf]; omega
              · rw [decide_eq_false hlv] at hb1
                by_cases hev : l[q] = bs d
                · have hb2 : ((ba l[q]).toList == d.toList) = true := by rw [hev]; exact str_beq rfl
                  have hs3 : domsV (s.nodes.take (k + 1)) key = l := by rw [HS2.out]; exact insB_same hql HP.out hev
                  have HS3 := Lib.hid hs3
                  clear hs3 hev hlv
                  go_wp2
                  go_roundw
                  case rel => exact ⟨k + 1, by omega, by go_num, by rw [HS3.out]; exact HO, HB.out⟩
                  case measure => simp [intOf]; omega
                · have hb2 : ((ba l[q]).toList == d.toList) = false := str_nbeq (fun h => hev (by rw [← h]; rfl))
                  have hs3 : domsV (s.nodes.take (k + 1)) key = l.take q ++ bs d :: l.drop q := by rw [HS2.out]; exact insB_here hql HP.out hlv hev
                  have HS3 := Lib.hid hs3
                  clear hs3 hev hlv
                  clear HP
                  have b1 : (0 : Int) ≤ (q : Int) := by omega
                  have b2 : (q : Int) ≤ (c : Int) := by have := HX.out.2.1; omega
                  have b3 : (q : Int) ≤ (l.length : Int) := by omega
                  have b4 : q ≤ c := by have := HX.out.2.1; omega
                  have b5 : l.length ≤ c := HX.out.2.1
                  have b6 : (l.length : Int) ≤ (c : Int) := by omega
                  have N0 : ((l.take q).map encStr).length = q * 1 := by rw [List.length_map, List.length_take]; omega
                  have N2 : ∀ ad, some (⟨g, 0, none⟩ : Addr) = some ad → ∀ j u, ((l.take q).map encStr)[j]? = some u → (wr.alloc (.cells #[] 9)).cell? (ad.add j) = some u := fun ad h j u hu => by
                    cases h
                    have := strs_take (strs_below HH.out hgl (alloc_below wr (.cells #[] 9))) q j u hu
                    by_cases hj : j = 0
                    · subst hj
                      simpa [Addr.add] using this
                    · simpa [Addr.add, hj] using this
                  go_wp2_with (at_builtin; refine wpList_app _ wr.heap.size 53 9 i0 (.string ⟨#[]⟩) 1 16 Tryz.underlying53 hi hz0 hz1 hz2 rfl (by decide) _ 0 [] (own_empty wr 9) (some ⟨g, 0, none⟩) q _ ((l.take q).map encStr) N0 (fun e => by cases e) N2 (strs_one _) (by simp only [maxLen]; omega) (by omega) (by simp) _ _ rfl rfl rfl rfl ?_)
                  intro v1 w1 ho1 hg1 hv1
                  have HB1 := Lib.hid ((alloc_below wr (.cells #[] 9)).grown hg1 (by simp) (fun q hq => ((own_empty wr 9).lt q hq).1))
                  have HO1 := Lib.hid ho1
                  clear ho1 hg1 hv1 N0 N2
                  have hz1' := HB1.out.size
                  have N2 : ∀ ad, some (⟨w1.heap.size, 0, none⟩ : Addr) = some ad → ∀ j u, [Value.string d][j]? = some u → (w1.alloc (.cells #[.string d] 9)).cell? (ad.add j) = some u := fun ad h => by
                    cases h
                    exact one_new _ _ _
                  go_wp2_with (at_builtin; refine wpList_app _ wr.heap.size 53 9 i0 (.string ⟨#[]⟩) 1 16 Tryz.underlying53 hi hz0 hz1 hz2 rfl (by decide) _ _ _ (HO1.out.alloc _) (some ⟨w1.heap.size, 0, none⟩) 1 1 [.string d] rfl (fun e => by cases e) N2 (by simp [Value.oneCell']) (by simp only [maxLen]; omega) (by omega) (by simp; omega) _ _ rfl rfl rfl rfl ?_)
                  intro v2 w2 ho2 hg2 hv2
                  have HB2 := Lib.hid ((HB1.out.alloc hz1' (.cells #[.string d] 9)).grown hg2 (by simp; omega) (fun q hq => (HO1.out.lt q hq).1))
                  have HO2 := Lib.hid ho2
                  clear ho2 hg2 hv2 N2
                  have hz2' := HB2.out.size
                  have HH2 := Lib.hid (strs_below HH.out hgl HB2.out)
                  have N0 : ((l.drop q).map encStr).length = (l.length - q) * 1 := by rw [List.length_map, List.length_drop]; omega
                  have N2 : ∀ ad, some (⟨g, q, none⟩ : Addr) = some ad → ∀ j u, ((l.drop q).map encStr)[j]? = some u → w2.cell? (ad.add j) = some u := fun ad h j u hu => by
                    cases h
                    have := strs_at HH2.out q j u hu
                    by_cases hj : j = 0
                    · subst hj
                      simpa [Addr.add] using this
                    · simpa [Addr.add, hj] using this
                  have hqc : ¬ c = q := by have := HX.out.2.1; omega
                  have hqc2 : ¬ q = c := fun h => hqc h.symm
                  have hqc3 : ¬ c - q = 0 := by have := HX.out.2.1; omega
                  go_wp2_with (at_builtin; refine wpList_app _ wr.heap.size 53 9 i0 (.string ⟨#[]⟩) 1 16 Tryz.underlying53 hi hz0 hz1 hz2 rfl (by decide) _ _ _ HO2.out (some ⟨g, q, none⟩) (l.length - q) _ ((l.drop q).map encStr) N0 (fun e => by cases e) N2 (strs_one _) (by simp only [maxLen]; omega) (by omega) hz2' _ _ rfl rfl rfl rfl ?_)
                  intro v3 w3 ho3 hg3 hv3
                  have HB4 := Lib.hid (Below.then HB.out (HB2.out.grown hg3 hz2' (fun q hq => (HO2.out.lt q hq).1)))
                  have HO4 : Hid (w3.ownsRow W.heap.size 9 1 v3 (domsV (s.nodes.take (k + 1)) key).length ((domsV (s.nodes.take (k + 1)) key).map encStr)) := by
                    show World.ownsRow _ _ _ _ _ _ _
                    rw [HS3.out, show (l.take q ++ bs d :: l.drop q).length = q + 1 + (l.length - q) by simp; omega, show (l.take q ++ bs d :: l.drop q).map encStr = (l.map encStr).take q ++ Value.string d :: (l.map encStr).drop q by simp [encStr, bs, List.map_take, List.map_drop]]
                    exact own_base ho3 hsz
                  clear ho3 hg3 hv3 N0 N2
                  go_wp2
                  go_roundw
                  case rel => exact ⟨k + 1, by omega, by go_num, HO4.out, HB4.out⟩
                  case measure => simp [intOf]; omega
            · obtain rfl : q = l.length := by omega
              have hs3 : domsV (s.nodes.take (k + 1)) key = l ++ [bs d] := by rw [HS2.out]; exact insB_all HP.out
              have HS3 := Lib.hid hs3
              clear hs3 HP
              have b1 : (0 : Int) ≤ (l.length : Int) := by omega
              have b2 : (l.length : Int) ≤ (c : Int) := by have := HX.out.2.1; omega
              have b5 : l.length ≤ c := HX.out.2.1
              have N0 : (l.map encStr).length = l.length * 1 := by rw [List.length_map]; omega
              have N2 : ∀ ad, some (⟨g, 0, none⟩ : Addr) = some ad → ∀ j u, (l.map encStr)[j]? = some u → (wr.alloc (.cells #[] 9)).cell? (ad.add j) = some u := fun ad h j u hu => by
                cases h
                have := strs_at (strs_below HH.out hgl (alloc_below wr (.cells #[] 9))) 0 j u (by simpa using hu)
                rw [Nat.zero_add] at this
                by_cases hj : j = 0
                · subst hj
                  simpa [Addr.add] using this
                · simpa [Addr.add, hj] using this
              by_cases hcl : c = l.length
              · subst hcl
                go_wp2_with (at_builtin; refine wpList_app _ wr.heap.size 53 9 i0 (.string ⟨#[]⟩) 1 16 Tryz.underlying53 hi hz0 hz1 hz2 rfl (by decide) _ 0 [] (own_empty wr 9) (some ⟨g, 0, none⟩) l.length _ (l.map encStr) N0 (fun e => by cases e) N2 (strs_one _) (by simp only [maxLen]; omega) (by omega) (by simp) _ _ rfl rfl rfl rfl ?_)
                intro v1 w1 ho1 hg1 hv1
                clear N0 N2
                have HB1 := Lib.hid ((alloc_below wr (.cells #[] 9)).grown hg1 (by simp) (fun q hq => ((own_empty wr 9).lt q hq).1))
                have HO1 := Lib.hid ho1
                clear ho1 hg1 hv1
                have hz1' := HB1.out.size
                have N2 : ∀ ad, some (⟨w1.heap.size, 0, none⟩ : Addr) = some ad → ∀ j u, [Value.string d][j]? = some u → (w1.alloc (.cells #[.string d] 9)).cell? (ad.add j) = some u := fun ad h => by
                  cases h
                  exact one_new _ _ _
                go_wp2_with (at_builtin; refine wpList_app _ wr.heap.size 53 9 i0 (.string ⟨#[]⟩) 1 16 Tryz.underlying53 hi hz0 hz1 hz2 rfl (by decide) _ _ _ (HO1.out.alloc _) (some ⟨w1.heap.size, 0, none⟩) 1 1 [.string d] rfl (fun e => by cases e) N2 (by simp [Value.oneCell']) (by simp only [maxLen]; omega) (by omega) (by simp; omega) _ _ rfl rfl rfl rfl ?_)
                intro v2 w2 ho2 hg2 hv2
                have HB2 := Lib.hid ((HB1.out.alloc hz1' (.cells #[.string d] 9)).grown hg2 (by simp; omega) (fun q hq => (HO1.out.lt q hq).1))
                have HO2 := Lib.hid ho2
                clear ho2 hg2 hv2 N2
                have hz2' := HB2.out.size
                go_wp2_with (at_builtin; refine wpList_app _ wr.heap.size 53 9 i0 (.string ⟨#[]⟩) 1 16 Tryz.underlying53 hi hz0 hz1 hz2 rfl (by decide) _ _ _ HO2.out _ _ _ [] (by simp) (fun e => by cases e) (fun ad _ j u hu => by simp at hu) (fun u hu => by simp at hu) (by simp only [maxLen]; omega) (by omega) hz2' _ _ rfl rfl rfl rfl ?_)
                intro v3 w3 ho3 hg3 hv3
                have HB4 := Lib.hid (Below.then HB.out (HB2.out.grown hg3 hz2' (fun q hq => (HO2.out.lt q hq).1)))
                have HO4 : Hid (w3.ownsRow W.heap.size 9 1 v3 (domsV (s.nodes.take (k + 1)) key).length ((domsV (s.nodes.take (k + 1)) key).map encStr)) := by
                  show World.ownsRow _ _ _ _ _ _ _
                  rw [HS3.out]
                  have ho4 := own_base ho3 hsz
                  simpa [encStr, bs, List.map_take, List.map_drop] using ho4
                clear ho3 hg3 hv3
                go_wp2
                go_roundw
                case rel => exact ⟨k + 1, by omega, by go_num, HO4.out, HB4.out⟩
                case measure => simp [intOf]; omega
              · have hcl2 : ¬ l.length = c := fun h => hcl h.symm
                have hcl3 : ¬ c - l.length = 0 := by omega
                go_wp2_with (at_builtin; refine wpList_app _ wr.heap.size 53 9 i0 (.string ⟨#[]⟩) 1 16 Tryz.underlying53 hi hz0 hz1 hz2 rfl (by decide) _ 0 [] (own_empty wr 9) (some ⟨g, 0, none⟩) l.length _ (l.map encStr) N0 (fun e => by cases e) N2 (strs_one _) (by simp only [maxLen]; omega) (by omega) (by simp) _ _ rfl rfl rfl rfl ?_)
                intro v1 w1 ho1 hg1 hv1
                clear N0 N2
                have HB1 := Lib.hid ((alloc_below wr (.cells #[] 9)).grown hg1 (by simp) (fun q hq => ((own_empty wr 9).lt q hq).1))
                have HO1 := Lib.hid ho1
                clear ho1 hg1 hv1
                have hz1' := HB1.out.size
                have N2 : ∀ ad, some (⟨w1.heap.size, 0, none⟩ : Addr) = some ad → ∀ j u, [Value.string d][j]? = some u → (w1.alloc (.cells #[.string d] 9)).cell? (ad.add j) = some u := fun ad h => by
                  cases h
                  exact one_new _ _ _
                go_wp2_with (at_builtin; refine wpList_app _ wr.heap.size 53 9 i0 (.string ⟨#[]⟩) 1 16 Tryz.underlying53 hi hz0 hz1 hz2 rfl (by decide) _ _ _ (HO1.out.alloc _) (some ⟨w1.heap.size, 0, none⟩) 1 1 [.string d] rfl (fun e => by cases e) N2 (by simp [Value.oneCell']) (by simp only [maxLen]; omega) (by omega) (by simp; omega) _ _ rfl rfl rfl rfl ?_)
                intro v2 w2 ho2 hg2 hv2
                have HB2 := Lib.hid ((HB1.out.alloc hz1' (.cells #[.string d] 9)).grown hg2 (by simp; omega) (fun q hq => (HO1.out.lt q hq).1))
                have HO2 := Lib.hid ho2
                clear ho2 hg2 hv2 N2
                have hz2' := HB2.out.size
                go_wp2_with (at_builtin; refine wpList_app _ wr.heap.size 53 9 i0 (.string ⟨#[]⟩) 1 16 Tryz.underlying53 hi hz0 hz1 hz2 rfl (by decide) _ _ _ HO2.out _ _ _ [] (by simp) (fun e => by cases e) (fun ad _ j u hu => by simp at hu) (fun u hu => by simp at hu) (by simp only [maxLen]; omega) (by omega) hz2' _ _ rfl rfl rfl rfl ?_)
                intro v3 w3 ho3 hg3 hv3
                have HB4 := Lib.hid (Below.then HB.out (HB2.out.grown hg3 hz2' (fun q hq => (HO2.out.lt q hq).1)))
                have HO4 : Hid (w3.ownsRow W.heap.size 9 1 v3 (domsV (s.nodes.take (k + 1)) key).length ((domsV (s.nodes.take (k + 1)) key).map encStr)) := by
                  show World.ownsRow _ _ _ _ _ _ _
                  rw [HS3.out]
                  have ho4 := own_base ho3 hsz
                  simpa [encStr, bs, List.map_take, List.map_drop] using ho4
                clear ho3 hg3 hv3
                go_wp2
                go_roundw
                case rel => exact ⟨k + 1, by omega, by go_num, HO4.out, HB4.out⟩
                case measure => simp [intOf]; omega
    · obtain rfl : k = s.nodes.length := by omega
      have ho := HO.out
      rw [List.take_length] at ho
      have HO3 := Lib.hid (own_base ho HBW.out.size)
      have HB3 := Lib.hid (Below.then HBW.out HB.out)
      clear ho HO
      go_wp2
      go_ret
      exact ⟨_, rfl, HO3.out, HB3.out⟩
end Go.Proofs.YtnmhicgbdalniaaGreatDoor
namespace Go.Proofs.YtnmhicgbdalniaaGreatDoor
open Go.RowKit

theorem countV_none (s : St) (p : Pd) (dom : ByteArray) (l : List Pd) (h : p.owner = ⟨#[]⟩) : countV s p dom l = 0 := by
  unfold countV
  rw [List.countP_eq_zero]
  intro x _
  simp [other, h]
set_option maxHeartbeats 4000000 in
set_option maxRecDepth 100000 in
theorem rCount_calls (vs vp : Value) (s : St) (p : Pd) (dom : ByteArray) (w : World) (hs : Kd.state.V (vw w []) vs s) (hp : Kd.pod.V (vw w []) vp p) :
    Calls Tryz.prog 219 #[vs, vp, .string dom] w (CountDone (countV s p dom s.pods) w) := by
  obtain ⟨cs, rfl, hks⟩ := hs
  obtain ⟨cp, rfl, hkp⟩ := hp
  obtain ⟨A1, c1, A2, c2, A3, c3, rfl, s1, s2, -⟩ := hks
  obtain ⟨P1, p1, P2, p2, P3, p3, P4, p4, rfl, -⟩ := hkp
  obtain ⟨-, f2, f2'⟩ := s2.form
  have S1 := Lib.hid s1
  have S2 := Lib.hid s2
  clear s2 s1
  go_enter Tryz.func219, Tryz.ntmps219
  go_wp2
  obtain ⟨W, hW⟩ : ∃ W : World, W = ((w.alloc (.cells #[.slice A1 s.nodes.length c1, .slice A2 s.pods.length c2, .slice A3 s.budgets.length c3] 51)).alloc (.cells #[.string p.name, .string p.owner, .int .i64 p.prio, .slice P1 p.need.length p1, .slice P2 p.labels.length p2, .slice P3 p.sel.length p3, .slice P4 p.tols.length p4, .string p.key, .int .i64 p.most, .string p.node, .bool p.hold] 45)) := ⟨_, rfl⟩
  rw [← hW]
  have hbw : Below w.heap.size w W := by rw [hW]; exact Below.then (alloc_below _ _) (alloc_below _ _)
  have k1 : W.heap[w.heap.size]? = some (.cells #[.slice A1 s.nodes.length c1, .slice A2 s.pods.length c2, .slice A3 s.budgets.length c3] 51 (0, 0)) := by
    rw [hW]; exact (blk_old _ _ (by simp)).trans (blk_last _ _)
  have k2 : W.heap[w.heap.size + 1]? = some (.cells #[.string p.name, .string p.owner, .int .i64 p.prio, .slice P1 p.need.length p1, .slice P2 p.labels.length p2, .slice P3 p.sel.length p3, .slice P4 p.tols.length p4, .string p.key, .int .i64 p.most, .string p.node, .bool p.hold] 45 (0, 0)) := by
    rw [hW]
    have := blk_last (w.alloc (.cells #[.slice A1 s.nodes.length c1, .slice A2 s.pods.length c2, .slice A3 s.budgets.length c3] 51)) (.cells #[.string p.name, .string p.owner, .int .i64 p.prio, .slice P1 p.need.length p1, .slice P2 p.labels.length p2, .slice P3 p.sel.length p3, .slice P4 p.tols.length p4, .string p.key, .int .i64 p.most, .string p.node, .bool p.hold] 45)
    simpa using this
  have HK0 := Lib.hid (And.intro k1 k2)
  have HBW := Lib.hid hbw
  clear hbw k1 k2 hW
  have e1 := empty_beq p.owner
  by_cases ha : p.owner = ⟨#[]⟩
  · have hz := countV_none s p dom s.pods ha
    rw [decide_eq_true ha] at e1
    have HZ := Lib.hid hz
    clear hz ha
    go_wp2
    go_loopw [7, 8] (fun n i wr => i = .int .i64 0 ∧ n = .int .i64 0 ∧ Hid (wr = W)) (fun _ _ _ => 0)
    case atStart => exact ⟨rfl, rfl, rfl⟩
    case round =>
      obtain ⟨rfl, rfl, HE⟩ := hrel
      have he := HE.out
      subst he
      obtain ⟨z, zf⟩ := blk_all HK0.out.1
      obtain ⟨y, yf⟩ := blk_all HK0.out.2
      by_cases hl : 0 < s.pods.length
      · go_wp2
        go_ret
        exact ⟨by rw [HZ.out]; rfl, HBW.out⟩
      · go_wp2
        go_ret
        exact ⟨by rw [HZ.out]; rfl, HBW.out⟩
  rw [decide_eq_false ha] at e1
  have HA := Lib.hid ha
  clear ha
  go_wp2
  go_loopw [7, 8] (fun n i wr => ∃ k : Nat, k ≤ s.pods.length ∧ i = .int .i64 k ∧ n = .int .i64 (countV s p dom (s.pods.take k) : Nat) ∧ Hid (Below W.heap.size W wr)) (fun _ i _ => s.pods.length - (intOf i).toNat)
  case atStart => exact ⟨0, Nat.zero_le _, rfl, rfl, Below.refl _ _⟩
  case round =>
    obtain ⟨k, hk, rfl, rfl, HB⟩ := hrel
    have q1 := (HB.out.block _ (blk_lt HK0.out.1)).trans HK0.out.1
    have q2 := (HB.out.block _ (blk_lt HK0.out.2)).trans HK0.out.2
    obtain ⟨z, zf⟩ := blk_all q1
    obtain ⟨y, yf⟩ := blk_all q2
    have l1 := blk_lt q1
    have l2 := blk_lt q2
    have HQ := Lib.hid (And.intro q1 q2)
    clear q1 q2
    by_cases hlt : k < s.pods.length
    · have hcl := countV_le s p dom (s.pods.take k)
      rw [List.length_take] at hcl
      have hsn := countV_snoc s p dom hlt
      obtain ⟨b, off, cs, rfl, hn, hc⟩ := S2.out.both (Below.then HBW.out HB.out) k hlt
      obtain ⟨x, hx⟩ : ∃ x, s.pods[k] = x := ⟨_, rfl⟩
      rw [hx] at hn hsn
      obtain ⟨B1, d1, B2, d2, B3, d3, B4, d4, rfl, -⟩ := hn
      have HC : Hid (wr.rangeAt b (off + k * 11) _) := hc
      have HSN := Lib.hid hsn
      clear hc hsn hx
      have e2 := empty_beq x.node
      have e3 : (!x.owner.toList == p.owner.toList) = !decide (x.owner = p.owner) := by
        by_cases h : x.owner = p.owner
        · rw [str_beq h, decide_eq_true h]
        · rw [str_nbeq h, decide_eq_false h]
      have e4 : (x.name.toList == p.name.toList) = decide (x.name = p.name) := by
        by_cases h : x.name = p.name
        · rw [str_beq h, decide_eq_true h]
        · rw [str_nbeq h, decide_eq_false h]
      have hother : other p x = (!decide (p.owner = ⟨#[]⟩) && (decide (x.owner = p.owner) && (!x.hold && (!decide (x.name = p.name) && !decide (x.node = ⟨#[]⟩))))) := rfl
      rw [decide_eq_false HA.out] at hother
      obtain ⟨o, ho⟩ : ∃ o, decide (x.owner = p.owner) = o := ⟨_, rfl⟩
      obtain ⟨c, hc⟩ : ∃ c, x.hold = c := ⟨_, rfl⟩
      obtain ⟨d, hd⟩ : ∃ d, decide (x.name = p.name) = d := ⟨_, rfl⟩
      obtain ⟨f, hf⟩ : ∃ f, decide (x.node = ⟨#[]⟩) = f := ⟨_, rfl⟩
      rw [ho] at e3 hother
      rw [hc] at HC hother
      rw [hd] at e4 hother
      rw [hf] at e2 hother
      have HO := Lib.hid hother
      clear hother ho hc hd hf
      have Z0 : other p x = false → Hid (countV s p dom (s.pods.take (k + 1)) = countV s p dom (s.pods.take k)) := fun h => by
        show _ = _
        rw [HSN.out, h]; simp
      have HB2 : Hid (Below W.heap.size W (wr.alloc (.cells #[.string x.name, .string x.owner, .int .i64 x.prio, .slice B1 x.need.length d1, .slice B2 x.labels.length d2, .slice B3 x.sel.length d3, .slice B4 x.tols.length d4, .string x.key, .int .i64 x.most, .string x.node, .bool c] 45))) := Below.then HB.out (alloc_below _ _)
      go_upto_region 6 with (with_reducible refine wpList_load_mid rfl 45 _ rfl b (off + k * 11) rfl _ _ HC.out Tryz.underlying45 rfl (by kernel_rfl) ?_)
      cases o with
      | false =>
        go_wp2
        go_roundw
        case rel => exact ⟨k + 1, by omega, by go_num, by rw [(Z0 (by rw [HO.out]; rfl)).out], HB2.out⟩
        case measure => simp [intOf]; omega
      | true =>
        cases c with
        | true =>
          go_wp2
          go_roundw
          case rel => exact ⟨k + 1, by omega, by go_num, by rw [(Z0 (by rw [HO.out]; rfl)).out], HB2.out⟩
          case measure => simp [intOf]; omega
        | false =>
          cases d with
          | true =>
            go_wp2
            go_roundw
            case rel => exact ⟨k + 1, by omega, by go_num, by rw [(Z0 (by rw [HO.out]; rfl)).out], HB2.out⟩
            case measure => simp [intOf]; omega
          | false =>
            cases f with
            | true =>
              go_wp2
              go_roundw
              case rel => exact ⟨k + 1, by omega, by go_num, by rw [(Z0 (by rw [HO.out]; rfl)).out], HB2.out⟩
              case measure => simp [intOf]; omega
            | false =>
              have HS1 : Hid (Kd.node.S (vw (wr.alloc (.cells #[.string x.name, .string x.owner, .int .i64 x.prio, .slice B1 x.need.length d1, .slice B2 x.labels.length d2, .slice B3 x.sel.length d3, .slice B4 x.tols.length d4, .string x.key, .int .i64 x.most, .string x.node, .bool false] 45)) []) (.slice A1 s.nodes.length c1) s.nodes) := S1.out.mono (vw_below (Below.then HBW.out HB2.out))
              have hg0 : (domV s x.node p.key) = domV s x.node p.key := rfl
              obtain ⟨dd, ok, hd⟩ : ∃ dd ok, domV s x.node p.key = (dd, ok) := ⟨_, _, rfl⟩
              have hcn : countV s p dom (s.pods.take (k + 1)) = countV s p dom (s.pods.take k) + if (ok && decide (dd = dom)) = true then 1 else 0 := by
                rw [HSN.out, HO.out]
                unfold inDom
                rw [hd]; simp
              have HD := Lib.hid hd
              have HCN := Lib.hid hcn
              clear hg0 hd hcn
              generalize hU : wr.alloc (.cells #[.string x.name, .string x.owner, .int .i64 x.prio, .slice B1 x.need.length d1, .slice B2 x.labels.length d2, .slice B3 x.sel.length d3, .slice B4 x.tols.length d4, .string x.key, .int .i64 x.most, .string x.node, .bool false] 45) = U at HB2 HS1 ⊢
              have hus : U.heap.size = wr.heap.size + 1 := by rw [← hU]; simp
              have hub : U.heap[wr.heap.size]? = some (.cells #[.string x.name, .string x.owner, .int .i64 x.prio, .slice B1 x.need.length d1, .slice B2 x.labels.length d2, .slice B3 x.sel.length d3, .slice B4 x.tols.length d4, .string x.key, .int .i64 x.most, .string x.node, .bool false] 45 (0, 0)) := by rw [← hU]; exact blk_last _ _
              have hue : Below wr.heap.size wr U := by rw [← hU]; exact alloc_below _ _
              have u1 := (hue.block _ l1).trans HQ.out.1
              have u2 := (hue.block _ l2).trans HQ.out.2
              obtain ⟨z', zf'⟩ := blk_all u1
              obtain ⟨y', yf'⟩ := blk_all u2
              obtain ⟨v', vf'⟩ := blk_all hub
              have HU := Lib.hid (And.intro u1 (And.intro u2 hub))
              clear hU z zf y yf hue u1 u2 hub
              go_wp2_with fail
              refine (FindNode_calls _ s.nodes x.node _ HS1.out).mono ?_
              rintro e w1 ⟨cs, rfl, hk1, hb⟩
              obtain ⟨D1, g1, D2, g2, D3, g3, rfl, -, -, t2, -⟩ := hk1
              have T2 := Lib.hid t2
              have HB3 := Lib.hid (Below.then HB2.out hb)
              have u2 := (hb.block _ (blk_lt HU.out.2.1)).trans HU.out.2.1
              obtain ⟨y, yf⟩ := blk_all u2
              have l2' := blk_lt u2
              clear hb t2 z' zf' y' yf' v' vf' u2
              go_wp2_with fail
              refine (Label_calls _ (findV s.nodes x.node).1.labels p.key _ (T2.out.mono (vw_alloc _))).mono ?_
              unfold GetSame
              rw [show getV (findV s.nodes x.node).1.labels p.key = (dd, ok) from HD.out]
              rintro e w2 ⟨rfl, rfl⟩
              have HB4 := Lib.hid (Below.then HB3.out (alloc_below w1 (.cells #[.string (findV s.nodes x.node).1.name, .slice D1 (findV s.nodes x.node).1.cap.length g1, .slice D2 (findV s.nodes x.node).1.labels.length g2, .slice D3 (findV s.nodes x.node).1.taints.length g3, .bool (findV s.nodes x.node).1.cordon] 150)))
              simp only
              have hokk : (findV s.nodes x.node).2 = false → ok = false := fun h => by
                have h1 : (findV s.nodes x.node).1 = zNd := find_none h
                have h2 : getV (findV s.nodes x.node).1.labels p.key = (dd, ok) := HD.out
                rw [h1] at h2
                have h3 : getV zNd.labels p.key = (⟨#[]⟩, false) := rfl
                rw [h3] at h2
                injection h2 with _ h2
                exact h2.symm
              obtain ⟨fk, hfk⟩ : ∃ fk, (findV s.nodes x.node).2 = fk := ⟨_, rfl⟩
              rw [hfk] at hokk ⊢
              clear hfk
              have e5 : (dd.toList == dom.toList) = decide (dd = dom) := by
                by_cases h : dd = dom
                · rw [str_beq h, decide_eq_true h]
                · rw [str_nbeq h, decide_eq_false h]
              obtain ⟨q, hq⟩ : ∃ q, decide (dd = dom) = q := ⟨_, rfl⟩
              rw [hq] at e5 HCN
              clear hq y yf
              have fin0 : (ok && q) = false → Hid (countV s p dom (s.pods.take (k + 1)) = countV s p dom (s.pods.take k)) := fun h => by
                show _ = _
                rw [HCN.out, h]; simp
              cases ok with
              | false =>
                cases fk with
                | false =>
                  clear hokk
                  go_wp2
                  go_roundw
                  case rel => exact ⟨k + 1, by omega, by go_num, by rw [(fin0 rfl).out], HB4.out⟩
                  case measure => simp [intOf]; omega
                | true =>
                  clear hokk
                  go_wp2
                  go_roundw
                  case rel => exact ⟨k + 1, by omega, by go_num, by rw [(fin0 rfl).out], HB4.out⟩
                  case measure => simp [intOf]; omega
              | true =>
                cases fk with
                | false => exact absurd (hokk rfl) (by simp)
                | true =>
                  clear hokk
                  cases q with
                  | false =>
                    go_wp2
                    go_roundw
                    case rel => exact ⟨k + 1, by omega, by go_num, by rw [(fin0 rfl).out], HB4.out⟩
                    case measure => simp [intOf]; omega
                  | true =>
                    have hr : countV s p dom (s.pods.take (k + 1)) = countV s p dom (s.pods.take k) + 1 := HCN.out
                    have HR := Lib.hid hr
                    clear hr
                    go_wp2
                    go_roundw
                    case rel => exact ⟨k + 1, by omega, by go_num, by rw [HR.out, Int.natCast_add]; rfl, HB4.out⟩
                    case measure => simp [intOf]; omega
    · obtain rfl : k = s.pods.length := by omega
      have HX : Hid (s.pods.take s.pods.length = s.pods) := List.take_length
      have HB3 := Lib.hid (Below.then HBW.out HB.out)
      go_wp2
      go_ret
      rw [HX.out]
      exact ⟨rfl, HB3.out⟩
end Go.Proofs.YtnmhicgbdalniaaGreatDoor
namespace Go.Proofs.YtnmhicgbdalniaaGreatDoor
open Go.RowKit

/-! How much closer a pod would stand than it might. -/
def leastV (s : St) (p : Pd) (own : ByteArray) (here : Nat) (l : List (List UInt8)) : Nat := l.foldl (fun a d => if ba d = own then a else min a (countV s p (ba d) s.pods)) here
theorem leastV_snoc (s : St) (p : Pd) (own : ByteArray) (here : Nat) {l : List (List UInt8)} {k : Nat} (h : k < l.length) :
    leastV s p own here (l.take (k + 1)) = if ba l[k] = own then leastV s p own here (l.take k) else min (leastV s p own here (l.take k)) (countV s p (ba l[k]) s.pods) := by
  unfold leastV
  rw [List.take_succ_eq_append_getElem h, List.foldl_append]; rfl
theorem leastV_le (s : St) (p : Pd) (own : ByteArray) (here : Nat) : ∀ l : List (List UInt8), leastV s p own here l ≤ here := fun l => by
  have key : ∀ (l : List (List UInt8)) (a : Nat), l.foldl (fun a d => if ba d = own then a else min a (countV s p (ba d) s.pods)) a ≤ a := by
    intro l
    induction l with
    | nil => exact fun a => Nat.le_refl _
    | cons d r ih =>
      intro a
      rw [List.foldl_cons]
      refine Nat.le_trans (ih _) ?_
      split
      · exact Nat.le_refl _
      · exact Nat.min_le_left _ _
  exact key l here
def hereV (s : St) (p : Pd) (own : ByteArray) : Nat := countV s p own s.pods + 1
def skewV (s : St) (p : Pd) (name : ByteArray) : Int × Bool :=
  if p.key = ⟨#[]⟩ then (0, true)
  else if (domV s name p.key).2 then ((hereV s p (domV s name p.key).1 : Int) - leastV s p (domV s name p.key).1 (hereV s p (domV s name p.key).1) (domsV s.nodes p.key), true)
  else (0, false)
def SkewDone (s : St) (p : Pd) (name : ByteArray) (w : World) (e : Ending) (w' : World) : Prop := e = .returned (.tuple #[.int .i64 (skewV s p name).1, .bool (skewV s p name).2]) ∧ Below w.heap.size w w'
end Go.Proofs.YtnmhicgbdalniaaGreatDoor
namespace Go.Proofs.YtnmhicgbdalniaaGreatDoor
open Go.RowKit

/-! Which data may be: the plain law. -/
def ltS (a b : ByteArray) : Bool := decide (a.data.toList < b.data.toList)
def nameB (c : UInt8) : Bool := (decide (97 ≤ c.toNat) && decide (c.toNat ≤ 122)) || (decide (48 ≤ c.toNat) && decide (c.toNat ≤ 57))
def isName (s : ByteArray) : Bool := decide (1 ≤ s.size) && (decide (s.size ≤ 12) && s.data.toList.all nameB)
def orV (a b : Int) : Int := if a ≠ 0 then a else b
theorem orV_l {a b : Int} (h : a ≠ 0) : orV a b = a := if_pos h
theorem orV_r {a b : Int} (h : a = 0) : orV a b = b := if_neg (fun k => k h)
def tooLow : Option ByteArray → ByteArray → Bool
  | none, _ => false
  | some q, x => !ltS q x
def prevN {α : Type} (nm : α → ByteArray) (l : List α) (k : Nat) : Option ByteArray := if k = 0 then none else l[k - 1]?.map nm
def rowsV {α : Type} (f : α → Int) (nm : α → ByteArray) : Option ByteArray → List α → Int
  | _, [] => 0
  | p, x :: r => orV (f x) (if tooLow p (nm x) = true then 13 else rowsV f nm (some (nm x)) r)
theorem prevN_succ {α : Type} (nm : α → ByteArray) {l : List α} {k : Nat} (h : k < l.length) : prevN nm l (k + 1) = some (nm l[k]) := by
  unfold prevN
  rw [if_neg (by omega), Nat.add_sub_cancel, List.getElem?_eq_getElem h]; rfl
theorem rowsV_at {α : Type} (f : α → Int) (nm : α → ByteArray) {l : List α} {k : Nat} (h : k < l.length) :
    rowsV f nm (prevN nm l k) (l.drop k) = orV (f l[k]) (if tooLow (prevN nm l k) (nm l[k]) = true then 13 else rowsV f nm (prevN nm l (k + 1)) (l.drop (k + 1))) := by
  rw [List.drop_eq_getElem_cons h, prevN_succ nm h]; rfl
theorem tooLow_first {α : Type} (nm : α → ByteArray) (l : List α) (x : ByteArray) : tooLow (prevN nm l 0) x = false := rfl
theorem tooLow_next {α : Type} (nm : α → ByteArray) {l : List α} {k : Nat} (h : k < l.length) (h0 : 0 < k) (x : ByteArray) : tooLow (prevN nm l k) x = !ltS (nm l[k - 1]) x := by
  obtain ⟨j, rfl⟩ : ∃ j, k = j + 1 := ⟨k - 1, by omega⟩
  rw [prevN_succ nm (by omega)]; rfl
def firstV {α : Type} (f : α → Int) : List α → Int
  | [] => 0
  | x :: r => orV (f x) (firstV f r)
theorem firstV_at {α : Type} (f : α → Int) {l : List α} {k : Nat} (h : k < l.length) : firstV f (l.drop k) = orV (f l[k]) (firstV f (l.drop (k + 1))) := by
  rw [List.drop_eq_getElem_cons h]; rfl
def amtV (x : Amt) : Int := if isName x.name = false then 3 else if x.n ≤ 0 then 1 else 0
def pairV (x : Pair) : Int := if isName x.key = false then 3 else if isName x.val = false then 3 else 0
def emptyB (s : ByteArray) : Bool := decide (s = ⟨#[]⟩)
def termV (t : Term) : Int :=
  if t.op < 1 then 1 else if 4 < t.op then 1 else if isName t.key = false then 3 else if t.op ≤ 2 then (if isName t.val = false then 3 else 0) else if emptyB t.val = false then 3 else 0
def tolV (t : Tnt) : Int :=
  if emptyB t.key = false ∧ isName t.key = false then 3 else if t.b = true then (if emptyB t.val = false then 3 else 0) else if isName t.val = false then 3 else 0
def sameT (a b : Tnt) : Bool := decide (a.key = b.key) && decide (a.val = b.val)
def taintsV : List Tnt → List Tnt → Int
  | _, [] => 0
  | seen, x :: r => if isName x.key = false then 3 else if isName x.val = false then 3 else if seen.any (fun y => sameT y x) = true then 6 else taintsV (seen ++ [x]) r
theorem taintsV_at {l : List Tnt} {k : Nat} (h : k < l.length) : taintsV (l.take k) (l.drop k) = if isName l[k].key = false then 3 else if isName l[k].val = false then 3 else if (l.take k).any (fun y => sameT y l[k]) = true then 6 else taintsV (l.take (k + 1)) (l.drop (k + 1)) := by
  rw [List.drop_eq_getElem_cons h, List.take_succ_eq_append_getElem h]; rfl
def manyV {α : Type} (lim : Nat) (l : List α) (n : Int) : Int := if lim < l.length then 4 else n
def checkVec (l : List Amt) : Int := manyV 8 l (rowsV amtV Amt.name none l)
def checkSet (l : List Pair) : Int := manyV 8 l (rowsV pairV Pair.key none l)
def checkSel (l : List Term) : Int := manyV 8 l (firstV termV l)
def checkTaints (l : List Tnt) : Int := manyV 8 l (taintsV [] l)
def checkTols (l : List Tnt) : Int := manyV 8 l (firstV tolV l)
def checkNode (n : Nd) : Int := orV (if isName n.name = false then 3 else 0) (orV (checkVec n.cap) (orV (checkSet n.labels) (checkTaints n.taints)))
def checkNodes (l : List Nd) : Int := manyV 32 l (rowsV checkNode Nd.name none l)
def maybeV (s : ByteArray) : Int := if emptyB s = false ∧ isName s = false then 3 else 0
def mostV (p : Pd) : Int := if emptyB p.key = true then (if p.most ≠ 0 then 1 else 0) else if p.most < 1 ∨ 128 < p.most then 1 else 0
def prioV (p : Pd) : Int := if p.prio < -1 then 1 else if 1000000 < p.prio then 1 else if p.hold = decide (p.prio = -1) then 0 else 1
def checkPod (p : Pd) : Int :=
  orV (if isName p.name = false then 3 else 0) (orV (maybeV p.owner) (orV (prioV p) (orV (checkVec p.need) (orV (checkSet p.labels) (orV (checkSel p.sel) (orV (checkTols p.tols) (orV (maybeV p.key) (orV (mostV p) (maybeV p.node)))))))))
def checkPods (l : List Pd) : Int := manyV 128 l (rowsV checkPod Pd.name none l)
def checkBudget (b : Bd) : Int := orV (if isName b.name = false then 3 else 0) (orV (checkSel b.sel) (if b.floor < 0 then 1 else if 128 < b.floor then 1 else 0))
def checkBudgets (l : List Bd) : Int := manyV 8 l (rowsV checkBudget Bd.name none l)
/-! Sums of vectors. -/
def getA : List Amt → ByteArray → Int
  | [], _ => 0
  | x :: r, k => if x.name = k then x.n else getA r k
theorem getA_at {l : List Amt} {j : Nat} (h : j < l.length) (key : ByteArray) : getA (l.drop j) key = if l[j].name = key then l[j].n else getA (l.drop (j + 1)) key := by
  rw [List.drop_eq_getElem_cons h]; rfl
def addN (a b : Int) : Int × Int := if a < 0 then (0, 1) else if b < 0 then (0, 1) else if 9223372036854775807 - b < a then (0, 5) else (a + b, 0)
def namesV : List Amt → List Amt → List ByteArray
  | [], b => b.map (·.name)
  | x :: a, [] => x.name :: namesV a []
  | x :: a, y :: b => if ltS x.name y.name = true then x.name :: namesV a (y :: b) else if ltS y.name x.name = true then y.name :: namesV (x :: a) b else x.name :: namesV a b
termination_by a b => a.length + b.length
def addL (a b : List Amt) : List ByteArray → List Amt → List Amt × Int
  | [], out => if 8 < out.length then ([], 4) else (out, 0)
  | x :: r, out => if (addN (getA a x) (getA b x)).2 ≠ 0 then ([], (addN (getA a x) (getA b x)).2) else addL a b r (out ++ [⟨x, (addN (getA a x) (getA b x)).1⟩])
def addVec (a b : List Amt) : List Amt × Int :=
  if checkVec a ≠ 0 then ([], checkVec a) else if checkVec b ≠ 0 then ([], checkVec b) else addL a b (namesV a b) []
def sumV {α : Type} (f : α → List Amt) : List α → List Amt → List Amt × Int
  | [], v => (v, 0)
  | x :: r, v => if (addVec v (f x)).2 ≠ 0 then ([], (addVec v (f x)).2) else sumV f r (addVec v (f x)).1
def onB (name : ByteArray) (p : Pd) : Bool := decide (p.node = name)
def usedV (s : St) (name : ByteArray) : List Amt × Int := if (findV s.nodes name).2 = false then ([], 3) else sumV Pd.need (s.pods.filter (onB name)) []
def totalV (s : St) : List Amt × Int := sumV Nd.cap s.nodes []
def fitsV (need have_ : List Amt) : Bool := need.all fun x => decide (x.n ≤ getA have_ x.name)
def podV (s : St) (p : Pd) : Int := if emptyB p.node = false ∧ (findV s.nodes p.node).2 = false then 3 else 0
def roomV (s : St) (n : Nd) : Int := orV (usedV s n.name).2 (if fitsV (usedV s n.name).1 n.cap = false then 7 else 0)
def checkSt (s : St) : Int := orV (checkNodes s.nodes) (orV (checkPods s.pods) (orV (checkBudgets s.budgets) (orV (firstV (podV s) s.pods) (orV (firstV (roomV s) s.nodes) (totalV s).2))))
end Go.Proofs.YtnmhicgbdalniaaGreatDoor
namespace Go.Proofs.YtnmhicgbdalniaaGreatDoor
open Go.RowKit

def SameDone (v : Value) (w : World) (e : Ending) (w' : World) : Prop := e = .returned v ∧ w = w'
theorem name_at {s : ByteArray} {k : Nat} (h : k < s.size) : (s.data.toList.drop k).all nameB = (nameB s[k] && (s.data.toList.drop (k + 1)).all nameB) := by
  rw [List.drop_eq_getElem_cons (by simpa using h)]; rfl
set_option maxHeartbeats 1000000 in
theorem IsName_calls (s : ByteArray) (w : World) (hs : s.size ≤ 140737488351232) :
    Calls Tryz.prog 74 #[.string s] w (SameDone (.bool (isName s)) w) := by
  by_cases h1 : s.size < 1
  · have HZ : Hid (isName s = false) := by show _ = _; unfold isName; rw [decide_eq_false (by omega)]; rfl
    go_enter Tryz.func74, Tryz.ntmps74
    go_wp2
    go_ret
    exact ⟨ret_bool HZ.out.symm, rfl⟩
  by_cases h2 : 12 < s.size
  · have HZ : Hid (isName s = false) := by show _ = _; unfold isName; rw [decide_eq_false (by omega : ¬ s.size ≤ 12)]; simp
    go_enter Tryz.func74, Tryz.ntmps74
    go_wp2
    go_ret
    exact ⟨ret_bool HZ.out.symm, rfl⟩
  have HZ : Hid (isName s = s.data.toList.all nameB) := by show _ = _; unfold isName; rw [decide_eq_true (by omega), decide_eq_true (by omega)]; rfl
  go_enter Tryz.func74, Tryz.ntmps74
  go_wp2
  go_loop [3] (fun i => ∃ k : Nat, k ≤ s.size ∧ i = .int .i64 k ∧ Hid ((s.data.toList.drop k).all nameB = s.data.toList.all nameB)) (fun i => s.size - (intOf i).toNat)
  case atStart => exact ⟨0, Nat.zero_le _, rfl, rfl⟩
  case round =>
    obtain ⟨k, hk, rfl, HR⟩ := hrel
    by_cases hlt : k < s.size
    · obtain ⟨x, hx⟩ : ∃ x : Nat, s[k].toNat = x := ⟨_, rfl⟩
      have hr := HR.out
      rw [name_at hlt] at hr
      have hn : nameB s[k] = (decide (97 ≤ x) && decide (x ≤ 122) || decide (48 ≤ x) && decide (x ≤ 57)) := by rw [← hx]; rfl
      have HX := Lib.hid hr
      have HN := Lib.hid hn
      clear hr hn
      by_cases hc : (97 ≤ x ∧ x ≤ 122) ∨ (48 ≤ x ∧ x ≤ 57)
      · have hy := HX.out
        rw [HN.out, show (decide (97 ≤ x) && decide (x ≤ 122) || decide (48 ≤ x) && decide (x ≤ 57)) = true by simp; omega, Bool.true_and] at hy
        have HY := Lib.hid hy
        clear hy
        go_wp2
        all_goals
          go_round
          case rel => exact ⟨k + 1, by omega, by go_num, HY.out⟩
          case measure => simp [intOf]; omega
      · have hy := HX.out
        rw [HN.out, show (decide (97 ≤ x) && decide (x ≤ 122) || decide (48 ≤ x) && decide (x ≤ 57)) = false by simp; omega, Bool.false_and] at hy
        have HY := Lib.hid (HZ.out.trans hy.symm)
        clear hy
        go_wp2
        all_goals
          go_ret
          exact ⟨ret_bool HY.out.symm, rfl⟩
    · obtain rfl : k = s.size := by omega
      have hr := HR.out
      rw [List.drop_of_length_le (by simp)] at hr
      have HY : Hid (isName s = true) := by show _ = _; rw [HZ.out, ← hr]; rfl
      clear hr
      go_wp2
      go_ret
      exact ⟨ret_bool HY.out.symm, rfl⟩
end Go.Proofs.YtnmhicgbdalniaaGreatDoor
namespace Go.Proofs.YtnmhicgbdalniaaGreatDoor
open Go.RowKit

theorem less_ltS (a b : ByteArray) : Op.bytesLess a.toList b.toList = ltS a b := by
  rw [Proofs.bytesLess_eq, Lib.toList_data, Lib.toList_data]; rfl
theorem le_ltS (a b : ByteArray) : (Op.bytesLess a.toList b.toList || (a.toList == b.toList)) = !ltS b a := by
  rw [less_ltS]
  unfold ltS
  rw [Bool.eq_iff_iff]
  simp only [Bool.or_eq_true, decide_eq_true_eq, Bool.not_eq_true', decide_eq_false_iff_not, beq_iff_eq, Lib.toList_data]
  constructor
  · rintro (h | h) k
    · exact Std.lt_irrefl (Std.lt_of_lt_of_le h (Std.le_of_lt k))
    · rw [h] at k; exact Std.lt_irrefl k
  · intro h
    by_cases e : a.data.toList = b.data.toList
    · exact .inr e
    · exact .inl (Std.lt_of_le_of_ne (Std.not_lt.1 h) e)
theorem ret_i {k : IntKind} {a b : Int} (h : a = b) : Ending.returned (.int k a) = .returned (.int k b) := by rw [h]
theorem manyV_big {α : Type} {lim : Nat} {l : List α} (h : lim < l.length) (n : Int) : manyV lim l n = 4 := if_pos h
theorem manyV_few {α : Type} {lim : Nat} {l : List α} (h : ¬ lim < l.length) (n : Int) : manyV lim l n = n := if_neg h
def NumDone (n : Int) (w : World) (e : Ending) (w' : World) : Prop := e = .returned (.int .i64 n) ∧ Below w.heap.size w w'
theorem drewN_then {w wr : World} (h : Below w.heap.size w wr) (n : Nat) : Below w.heap.size w (wr.drewN n) := below_drewN h n
set_option maxHeartbeats 2000000 in
theorem CheckVec_calls (v : Value) (l : List Amt) (w : World) (hs : Kd.amt.S (vw w []) v l) :
    Calls Tryz.prog 75 #[v] w (NumDone (checkVec l) w) := by
  obtain ⟨A, cap, rfl, hs⟩ := hs.val
  obtain ⟨-, hcap, hlen⟩ := hs.form
  have HS := Lib.hid hs
  clear hs
  go_enter Tryz.func75, Tryz.ntmps75
  by_cases h8 : 8 < l.length
  · have HZ : Hid (checkVec l = 4) := manyV_big h8 _
    go_wp2
    go_ret
    exact ⟨ret_i HZ.out.symm, Below.refl _ _⟩
  have HZ : Hid (checkVec l = rowsV amtV Amt.name none l) := manyV_few h8 _
  go_wp2
  go_loopw [3] (fun i wr => ∃ k : Nat, k ≤ l.length ∧ i = .int .i64 k ∧ Hid (rowsV amtV Amt.name (prevN Amt.name l k) (l.drop k) = checkVec l) ∧ Hid (Below w.heap.size w wr)) (fun i _ => l.length - (intOf i).toNat)
  case atStart => exact ⟨0, Nat.zero_le _, rfl, HZ.out.symm, Below.refl _ _⟩
  case round =>
    clear HZ
    obtain ⟨k, hk, rfl, HR, HB⟩ := hrel
    by_cases hlt : k < l.length
    · obtain ⟨b, off, rfl, hc, hp, hi1, hi2⟩ := (HS.out.mono (vw_below HB.out)).elemN k hlt
      have c0 : wr.cell? ⟨b, off + k * 2, none⟩ = some (.string l[k].name) := hc 0 _ rfl
      have c1 : wr.cell? ⟨b, off + k * 2 + 1, none⟩ = some (.int .i64 l[k].n) := hc 1 _ rfl
      have hr := HR.out
      rw [rowsV_at _ _ hlt] at hr
      have hav : amtV l[k] = if isName l[k].name = false then 3 else if l[k].n ≤ 0 then 1 else 0 := rfl
      obtain ⟨n1, hn1⟩ : ∃ n1, isName l[k].name = n1 := ⟨_, rfl⟩
      rw [hn1] at hav
      rw [hav] at hr
      have HX := Lib.hid hr
      have HN := Lib.hid hn1
      have HP := Lib.hid hp
      clear hr hc hav hn1 hp
      go_wp2_with fail
      refine (IsName_calls _ _ HP.out).mono ?_
      rintro e w' ⟨rfl, rfl⟩
      rw [HN.out]
      cases n1 with
      | false =>
        have HY : Hid (3 = checkVec l) := HX.out
        go_wp2
        go_ret
        exact ⟨ret_i HY.out, HB.out⟩
      | true =>
        by_cases hn0 : l[k].n ≤ 0
        · have hy := HX.out
          rw [if_neg (by decide), if_pos hn0] at hy
          have HY : Hid (1 = checkVec l) := hy
          clear hy
          go_wp2
          go_ret
          exact ⟨ret_i HY.out, HB.out⟩
        have hy := HX.out
        rw [if_neg (by decide), if_neg hn0, orV_r rfl] at hy
        by_cases hk0 : k = 0
        · subst hk0
          rw [tooLow_first, if_neg (by decide)] at hy
          have HY := Lib.hid hy
          clear hy
          go_wp2_with fail
          go_quiet (fail)
          go_wp2
          go_roundw
          case rel => exact ⟨0 + 1, by omega, by go_num, HY.out, drewN_then HB.out _⟩
          case measure => simp [intOf]; omega
        · rw [tooLow_next _ hlt (by omega), ← le_ltS] at hy
          obtain ⟨b', off', hA, hc', -⟩ := (HS.out.mono (vw_below HB.out)).elemN (k - 1) (by omega)
          injection hA with hA
          injection hA with e1 e2
          subst e1 e2
          have c2 : wr.cell? ⟨b, off + (k - 1) * 2, none⟩ = some (.string l[k - 1].name) := hc' 0 _ rfl
          obtain ⟨q, hq⟩ : ∃ q, (Op.bytesLess l[k].name.toList l[k - 1].name.toList || (l[k].name.toList == l[k - 1].name.toList)) = q := ⟨_, rfl⟩
          rw [hq] at hy
          clear hc'
          have hk1 : 0 < k := by omega
          have hk2 : ((k : Int) - 1).toNat = k - 1 := by omega
          cases q with
          | true =>
            have HY : Hid (13 = checkVec l) := hy
            clear hy
            go_wp2_with fail
            go_quiet (fail)
            go_wp2
            go_ret
            exact ⟨ret_i HY.out, drewN_then HB.out _⟩
          | false =>
            have HY : Hid (rowsV amtV Amt.name (prevN Amt.name l (k + 1)) (l.drop (k + 1)) = checkVec l) := hy
            clear hy
            go_wp2_with fail
            go_quiet (fail)
            go_wp2
            go_roundw
            case rel => exact ⟨k + 1, by omega, by go_num, HY.out, drewN_then HB.out _⟩
            case measure => simp [intOf]; omega
    · obtain rfl : k = l.length := by omega
      have hr := HR.out
      rw [List.drop_length] at hr
      have HY : Hid (0 = checkVec l) := hr
      clear hr
      go_wp2
      go_ret
      exact ⟨ret_i HY.out, HB.out⟩
end Go.Proofs.YtnmhicgbdalniaaGreatDoor
