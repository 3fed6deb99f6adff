import Derived.Test.YtfbmfjmnpfidoaaCountB
import Derived.Lib.SlicesCompact
namespace Go.Proofs.Ytfbmfjmnpfidoaa
open Go.RowKit

/-! The domains of a label: sorted, each once. -/
def bs (a : ByteArray) : List UInt8 := a.data.toList
def ba (l : List UInt8) : ByteArray := ⟨l.toArray⟩
theorem ba_bs (a : ByteArray) : ba (bs a) = a := rfl
theorem bs_ba (a : List UInt8) : bs (ba a) = a := rfl
theorem bs_inj {a b : ByteArray} (h : bs a = bs b) : a = b := by rw [← ba_bs a, h, ba_bs]
def insB (v : List UInt8) : List (List UInt8) → List (List UInt8)
  | [] => [v]
  | a :: r => if a < v then a :: insB v r else if a = v then a :: r else v :: a :: r
def insAll (l : List (List UInt8)) : List (List UInt8) := l.foldl (fun a v => insB v a) []
def domsL (l : List Nd) (key : ByteArray) : List ByteArray := l.filterMap fun n => if (getV n.labels key).2 then some (getV n.labels key).1 else none
def domsV (l : List Nd) (key : ByteArray) : List (List UInt8) := insAll ((domsL l key).map bs)
abbrev Rises (l : List (List UInt8)) : Prop := l.Pairwise (· < ·)
theorem insB_mem (v x : List UInt8) : ∀ l, x ∈ insB v l ↔ x = v ∨ x ∈ l
  | [] => by simp [insB]
  | a :: r => by
    unfold insB
    split
    · rw [List.mem_cons, insB_mem v x r, List.mem_cons]
      constructor
      · rintro (h | h | h)
        · exact .inr (.inl h)
        · exact .inl h
        · exact .inr (.inr h)
      · rintro (h | h | h)
        · exact .inr (.inl h)
        · exact .inl h
        · exact .inr (.inr h)
    · split
      · rename_i h
        subst h
        simp
      · simp
theorem insB_rises (v : List UInt8) : ∀ l, Rises l → Rises (insB v l)
  | [], _ => by simp [insB, Rises]
  | a :: r, h => by
    obtain ⟨h1, h2⟩ := List.pairwise_cons.1 h
    unfold insB
    split
    · rename_i hlt
      refine List.pairwise_cons.2 ⟨fun x hx => ?_, insB_rises v r h2⟩
      rcases (insB_mem v x r).1 hx with rfl | hx
      · exact hlt
      · exact h1 x hx
    · split
      · exact h
      · rename_i n1 n2
        have hva : v < a := Std.lt_of_le_of_ne (Std.not_lt.1 n1) (Ne.symm n2)
        refine List.pairwise_cons.2 ⟨fun x hx => ?_, h⟩
        rcases List.mem_cons.1 hx with rfl | hx
        · exact hva
        · exact Std.lt_of_le_of_lt (Std.le_of_lt hva) (h1 x hx)
theorem insAll_both (l : List (List UInt8)) : ∀ a, Rises a → Rises (l.foldl (fun a v => insB v a) a) ∧ ∀ x, x ∈ l.foldl (fun a v => insB v a) a ↔ x ∈ a ∨ x ∈ l := by
  induction l with
  | nil => exact fun a h => ⟨h, fun x => by simp⟩
  | cons v r ih =>
    intro a h
    obtain ⟨i1, i2⟩ := ih (insB v a) (insB_rises v a h)
    refine ⟨i1, fun x => ?_⟩
    rw [List.foldl_cons, i2 x, insB_mem, List.mem_cons]
    constructor
    · rintro ((h | h) | h)
      · exact .inr (.inl h)
      · exact .inl h
      · exact .inr (.inr h)
    · rintro (h | h | h)
      · exact .inl (.inr h)
      · exact .inl (.inl h)
      · exact .inr h
theorem insAll_rises (l : List (List UInt8)) : Rises (insAll l) := (insAll_both l [] List.Pairwise.nil).1
theorem insAll_mem (l : List (List UInt8)) (x : List UInt8) : x ∈ insAll l ↔ x ∈ l := by
  have := (insAll_both l [] List.Pairwise.nil).2 x
  simpa [insAll] using this
theorem rises_eq : ∀ (a b : List (List UInt8)), Rises a → Rises b → (∀ x, x ∈ a ↔ x ∈ b) → a = b
  | [], [], _, _, _ => rfl
  | [], b :: s, _, _, h => by have := (h b).2 (List.mem_cons_self ..); cases this
  | a :: r, [], _, _, h => by have := (h a).1 (List.mem_cons_self ..); cases this
  | a :: r, b :: s, ha, hb, h => by
    obtain ⟨a1, a2⟩ := List.pairwise_cons.1 ha
    obtain ⟨b1, b2⟩ := List.pairwise_cons.1 hb
    have hab : a = b := by
      rcases List.mem_cons.1 ((h a).1 (List.mem_cons_self ..)) with e | e
      · exact e
      · rcases List.mem_cons.1 ((h b).2 (List.mem_cons_self ..)) with e' | e'
        · exact e'.symm
        · exact absurd (Std.lt_of_le_of_lt (Std.le_of_lt (a1 b e')) (b1 a e)) Std.lt_irrefl
    subst hab
    congr 1
    refine rises_eq r s a2 b2 fun x => ⟨fun hx => ?_, fun hx => ?_⟩
    · rcases List.mem_cons.1 ((h x).1 (List.mem_cons_of_mem _ hx)) with e | e
      · exact absurd (e ▸ a1 x hx) Std.lt_irrefl
      · exact e
    · rcases List.mem_cons.1 ((h x).2 (List.mem_cons_of_mem _ hx)) with e | e
      · exact absurd (e ▸ b1 x hx) Std.lt_irrefl
      · exact e
theorem compact_upto (d : Array (List UInt8)) (hs : ∀ i j, i ≤ j → j < d.size → d[i]! ≤ d[j]!) : ∀ m, m ≤ d.size → Rises (Lib.compactUpTo d m) ∧ (∀ x, x ∈ Lib.compactUpTo d m ↔ ∃ j, j < m ∧ x = d[j]!)
  | 0, _ => ⟨by simp [Lib.compactUpTo, Rises], fun x => by simp [Lib.compactUpTo]⟩
  | m + 1, hm => by
    obtain ⟨i1, i2⟩ := compact_upto d hs m (by omega)
    rw [Lib.compactUpTo_succ]
    by_cases hk : Lib.keeps d m = true
    · rw [if_pos hk]
      refine ⟨List.pairwise_append.2 ⟨i1, by simp, fun x hx y hy => ?_⟩, fun x => ?_⟩
      · obtain ⟨j, hj, rfl⟩ := (i2 x).1 hx
        obtain rfl : y = d[m]! := by simpa using hy
        have hk' : m = 0 ∨ d[m]! ≠ d[m - 1]! := by simpa [Lib.keeps] using hk
        rcases hk' with e | e
        · omega
        · have h1 : d[m - 1]! < d[m]! := Std.lt_of_le_of_ne (hs _ _ (by omega) (by omega)) (Ne.symm e)
          exact Std.lt_of_le_of_lt (hs j (m - 1) (by omega) (by omega)) h1
      · rw [List.mem_append, i2 x, List.mem_singleton]
        constructor
        · rintro (⟨j, hj, e⟩ | e)
          · exact ⟨j, by omega, e⟩
          · exact ⟨m, by omega, e⟩
        · rintro ⟨j, hj, e⟩
          rcases Nat.lt_or_ge j m with h | h
          · exact .inl ⟨j, h, e⟩
          · exact .inr (by rw [e, show j = m by omega])
    · rw [if_neg hk, List.append_nil]
      refine ⟨i1, fun x => ?_⟩
      have hk' : ¬ (m = 0 ∨ d[m]! ≠ d[m - 1]!) := by simpa [Lib.keeps] using hk
      have h0 : m ≠ 0 := fun e => hk' (.inl e)
      have h1 : d[m]! = d[m - 1]! := Classical.byContradiction fun e => hk' (.inr e)
      rw [i2 x]
      constructor
      · rintro ⟨j, hj, e⟩
        exact ⟨j, by omega, e⟩
      · rintro ⟨j, hj, e⟩
        rcases Nat.lt_or_ge j m with h | h
        · exact ⟨j, h, e⟩
        · exact ⟨m - 1, by omega, by rw [e, show j = m by omega, h1]⟩
theorem insAll_eq (l : List (List UInt8)) : insAll l = Lib.compact (l.mergeSort fun x y => decide (x ≤ y)) := by
  have hp := List.pairwise_mergeSort (le := fun x y : List UInt8 => decide (x ≤ y)) (fun a b c h k => by
    simp only [decide_eq_true_eq] at h k ⊢
    exact Std.le_trans h k) (fun a b => by
    simp only [Bool.or_eq_true, decide_eq_true_eq]
    exact Std.le_total) l
  obtain ⟨z, hz⟩ : ∃ z, l.mergeSort (fun x y => decide (x ≤ y)) = z := ⟨_, rfl⟩
  have hm : ∀ x, x ∈ z ↔ x ∈ l := fun x => by rw [← hz]; exact List.mem_mergeSort
  rw [hz] at hp ⊢
  have hs : ∀ i j, i ≤ j → j < z.toArray.size → z.toArray[i]! ≤ z.toArray[j]! := fun i j hij hj => by
    have hj' : j < z.length := by simpa using hj
    rw [getElem!_pos _ i (by simp; omega), getElem!_pos _ j hj]
    simp only [List.getElem_toArray]
    rcases Nat.lt_or_ge i j with h | h
    · have := (List.pairwise_iff_getElem.1 hp) i j (by omega) hj' h
      simpa using this
    · obtain rfl : i = j := by omega
      exact Std.le_refl _
  obtain ⟨c1, c2⟩ := compact_upto z.toArray hs z.length (by simp)
  refine rises_eq _ _ (insAll_rises l) c1 fun x => ?_
  rw [insAll_mem, ← hm, Lib.compact, c2 x]
  constructor
  · intro h
    obtain ⟨j, hj, rfl⟩ := List.getElem_of_mem h
    exact ⟨j, hj, by rw [getElem!_pos _ j (by simpa using hj)]; simp⟩
  · rintro ⟨j, hj, rfl⟩
    rw [getElem!_pos _ j (by simpa using hj)]
    simp
theorem domsV_rises (l : List Nd) (key : ByteArray) : Rises (domsV l key) := insAll_rises _
theorem domsL_snoc (l : List Nd) (key : ByteArray) {k : Nat} (h : k < l.length) : domsL (l.take (k + 1)) key = domsL (l.take k) key ++ if (getV l[k].labels key).2 = true then [(getV l[k].labels key).1] else [] := by
  unfold domsL
  rw [List.take_succ_eq_append_getElem h, List.filterMap_append]
  congr 1
  rw [List.filterMap_cons]
  split <;> rename_i he <;> split at he <;> simp_all
theorem domsL_len (l : List Nd) (key : ByteArray) : (domsL l key).length ≤ l.length := List.length_filterMap_le _ _
theorem domsV_snoc (l : List Nd) (key : ByteArray) {k : Nat} (h : k < l.length) : domsV (l.take (k + 1)) key = if (getV l[k].labels key).2 = true then insB (bs (getV l[k].labels key).1) (domsV (l.take k) key) else domsV (l.take k) key := by
  unfold domsV insAll
  rw [domsL_snoc l key h, List.map_append, List.foldl_append]
  split <;> rfl
theorem insB_len (v : List UInt8) : ∀ l : List (List UInt8), (insB v l).length ≤ l.length + 1
  | [] => by simp [insB]
  | a :: r => by
    unfold insB
    have := insB_len v r
    split
    · simp; omega
    · split <;> simp
theorem insAll_len (l : List (List UInt8)) : ∀ a, (l.foldl (fun a v => insB v a) a).length ≤ a.length + l.length := by
  induction l with
  | nil => simp
  | cons v r ih =>
    intro a
    have h1 := ih (insB v a)
    have h2 := insB_len v a
    rw [List.foldl_cons, List.length_cons]
    omega
theorem domsV_len (l : List Nd) (key : ByteArray) : (domsV l key).length ≤ l.length := by
  have h1 := insAll_len ((domsL l key).map bs) []
  have h2 := domsL_len l key
  simp at h1
  exact Nat.le_trans h1 h2
end Go.Proofs.Ytfbmfjmnpfidoaa
