import Derived.Test.YtfbmfjmnpfidoaaDomsB
import Derived.Laws.AppendOwnNone
namespace Go.Proofs.Ytfbmfjmnpfidoaa
open Go.RowKit Go.Sort

theorem own_empty (w : World) (T : TypeId) : (w.alloc (.cells #[] T)).ownsRow w.heap.size T 1 (.slice (some ⟨w.heap.size, 0, none⟩) 0 0) 0 [] :=
  ⟨rfl, .inr ⟨w.heap.size, 0, #[], rfl, Nat.le_refl _, blk_last _ _, Nat.le_refl _, by simp [maxLen], rfl, rfl⟩⟩
/-- What a row of strings of the call's own is, to read. -/
theorem own_view {w : World} {base : Nat} {v : Value} {l : List (List UInt8)} (h : w.ownsRow base 9 1 v l.length (l.map encStr)) :
    (v = .slice none 0 0 ∧ l = []) ∨ ∃ g c, v = .slice (some ⟨g, 0, none⟩) l.length c ∧ base ≤ g ∧ g < w.heap.size ∧ l.length ≤ c ∧ c ≤ maxLen ∧ ∀ j, (hj : j < l.length) → w.cell? ⟨g, j, none⟩ = some (.string (ba l[j])) := by
  rcases h.2 with ⟨h1, h0⟩ | ⟨g1, cap1, cur1, h1, -⟩
  · exact .inl ⟨h1, List.eq_nil_of_length_eq_zero h0⟩
  · obtain ⟨g, c, h2, hb, hg, hn, hm, -, hH⟩ := Lib.holds_of_ownsRow h (by rw [h1]; simp)
    refine .inr ⟨g, c, h2, hb, hg, hn, hm, fun j hj => ?_⟩
    have := (hH j (by simpa using hj)).1
    rw [Nat.zero_add, getElem!_pos _ j (by simpa using hj)] at this
    simpa [encStr, ba] using this
theorem insB_pass {v : List UInt8} : ∀ {l : List (List UInt8)} {q : Nat}, q ≤ l.length → (∀ j, (hj : j < l.length) → j < q → l[j] < v) → insB v l = l.take q ++ insB v (l.drop q)
  | l, 0, _, _ => by simp
  | [], q + 1, h, _ => by simp at h
  | a :: r, q + 1, h, hp => by
    have h0 : a < v := hp 0 (by simp) (by omega)
    rw [insB, if_pos h0, List.take_succ_cons, List.drop_succ_cons, List.cons_append, insB_pass (q := q) (by simpa using h) (fun j hj hq => by have := hp (j + 1) (by simpa using hj) (by omega); simpa using this)]
theorem insB_all {v : List UInt8} {l : List (List UInt8)} (hp : ∀ j, (hj : j < l.length) → j < l.length → l[j] < v) : insB v l = l ++ [v] := by
  rw [insB_pass (Nat.le_refl _) hp, List.take_length, List.drop_length]; rfl
theorem insB_same {v : List UInt8} {l : List (List UInt8)} {q : Nat} (h : q < l.length) (hp : ∀ j, (hj : j < l.length) → j < q → l[j] < v) (hv : l[q] = v) : insB v l = l := by
  rw [insB_pass (Nat.le_of_lt h) hp, List.drop_eq_getElem_cons h, insB, if_neg (by rw [hv]; exact Std.lt_irrefl), if_pos hv, ← List.drop_eq_getElem_cons h, List.take_append_drop]
theorem insB_here {v : List UInt8} {l : List (List UInt8)} {q : Nat} (h : q < l.length) (hp : ∀ j, (hj : j < l.length) → j < q → l[j] < v) (h1 : ¬ l[q] < v) (h2 : l[q] ≠ v) : insB v l = l.take q ++ v :: l.drop q := by
  rw [insB_pass (Nat.le_of_lt h) hp]
  congr 1
  rw [List.drop_eq_getElem_cons h, insB, if_neg h1, if_neg h2]
end Go.Proofs.Ytfbmfjmnpfidoaa
