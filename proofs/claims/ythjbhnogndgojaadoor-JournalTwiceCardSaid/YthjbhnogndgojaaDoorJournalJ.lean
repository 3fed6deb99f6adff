import Derived.Test.YthjbhnogndgojaaDoorJournalI
namespace Go.Proofs.YthjbhnogndgojaaDoor
open Go.RowKit

/-! What journals keep, in plain words. -/
def Cn (l : List ByteArray) (n : Nat) : List UInt8 := cat (raw (l.take n))
theorem raw_take (l : List ByteArray) (n : Nat) : raw (l.take n) = (raw l).take n := List.map_take ..
theorem Cn_zero (l : List ByteArray) : Cn l 0 = [] := rfl
theorem Cn_len (l : List ByteArray) : Cn l l.length = cat (raw l) := by unfold Cn; rw [List.take_length]
theorem Cn_succ {l : List ByteArray} {k : Nat} (hk : k < l.length) : Cn l (k + 1) = Cn l k ++ frm l[k].data.toList := cat_snoc hk
theorem Cn_split (l : List ByteArray) (n : Nat) : cat (raw l) = Cn l n ++ cat (raw (l.drop n)) := by
  unfold Cn
  rw [← cat_append]
  congr 1
  unfold raw
  rw [← List.map_append, List.take_append_drop]
theorem Cn_take (l : List ByteArray) (n : Nat) : (cat (raw l)).take (Cn l n).length = Cn l n := by
  rw [Cn_split l n, List.take_left]
theorem Cn_mono (l : List ByteArray) {a b : Nat} (h : a ≤ b) : (Cn l a).length ≤ (Cn l b).length := by
  have h1 := Cn_split (l.take b) a
  unfold Cn at *
  rw [h1, List.take_take, Nat.min_eq_left h, List.length_append]
  omega
theorem Cn_le (l : List ByteArray) (n k : Nat) (hn : n ≤ 4096) (h : ∀ j, (hj : j < l.length) → j < k → (l[j]).size ≤ n) : (Cn l k).length ≤ k * (n + 23) := by
  have := cat_le (raw (l.take k)) n hn (fun t ht => by
    obtain ⟨s, hs, rfl⟩ := List.mem_map.1 ht
    rw [raw_len]
    obtain ⟨j, hj, rfl⟩ := List.getElem_of_mem hs
    rw [List.length_take] at hj
    rw [List.getElem_take]
    exact h j (by omega) (by omega))
  refine Nat.le_trans this (Nat.mul_le_mul_right _ ?_)
  unfold raw
  rw [List.length_map, List.length_take]
  omega
theorem cut_at (l : List ByteArray) (m : Nat) : ∃ a, a ≤ l.length ∧ (Cn l a).length ≤ m ∧ (a < l.length → m < (Cn l (a + 1)).length) := by
  have : ∀ d, d ≤ l.length → (∃ a, a ≤ d ∧ (Cn l a).length ≤ m ∧ (a < d → m < (Cn l (a + 1)).length)) := by
    intro d
    induction d with
    | zero => exact fun _ => ⟨0, Nat.le_refl _, by rw [Cn_zero]; simp, fun h => by omega⟩
    | succ d ih =>
      intro hd
      obtain ⟨a, h1, h2, h3⟩ := ih (by omega)
      rcases Nat.lt_or_ge a d with hlt | hge
      · exact ⟨a, by omega, h2, fun _ => h3 hlt⟩
      · obtain rfl : a = d := by omega
        rcases Nat.lt_or_ge m (Cn l (a + 1)).length with h | h
        · exact ⟨a, by omega, h2, fun _ => h⟩
        · exact ⟨a + 1, Nat.le_refl _, h, fun h => by omega⟩
  exact this _ (Nat.le_refl _)
theorem allV_at (l : List ByteArray) (hl : ∀ t ∈ raw l, t.length ≤ 4096) (m a : Nat) (h1 : a ≤ l.length) (h2 : (Cn l a).length ≤ m) (h3 : a < l.length → m < (Cn l (a + 1)).length) :
    allV ((cat (raw l)).take m) = (raw (l.take a), (Cn l a).length) := by
  have e : (raw l).length = l.length := List.length_map ..
  have := allV_cut (raw l) hl a (by omega) m (by rw [← raw_take]; exact h2) (fun h => by rw [← raw_take]; exact h3 (by omega))
  rw [this, raw_take]
  unfold Cn
  rw [raw_take]
theorem raw_take_le {l : List ByteArray} (hl : ∀ t ∈ raw l, t.length ≤ 4096) (a : Nat) : ∀ t ∈ raw (l.take a), t.length ≤ 4096 := fun t ht => by
  rw [raw_take] at ht
  exact hl t (List.mem_of_mem_take ht)
theorem allV_Cn (l : List ByteArray) (hl : ∀ t ∈ raw l, t.length ≤ 4096) (a : Nat) : allV (Cn l a) = (raw (l.take a), (Cn l a).length) := allV_cat _ (raw_take_le hl a)
theorem raw_length (l : List ByteArray) (a : Nat) (h : a ≤ l.length) : (raw (l.take a)).length = a := by
  unfold raw; rw [List.length_map, List.length_take]; omega
/-- Fallen and recovered: a front of what was appended. -/
theorem fallen (l : List ByteArray) (hl : ∀ t ∈ raw l, t.length ≤ 4096) (room : Int) (lasts : Nat) (keep : Int) (h0 : 0 ≤ keep) (h1 : lasts ≤ (cat (raw l)).length) :
    ∃ m a, m = lasts + (min keep ((cat (raw l)).length - lasts)).toNat ∧ a ≤ l.length ∧ (Cn l a).length ≤ m ∧ (a < l.length → m < (Cn l (a + 1)).length) ∧
      recoverV (crashV ⟨room, cat (raw l), lasts, false⟩ keep) = (⟨room, Cn l a, (Cn l a).length, false⟩, a, 0) := by
  obtain ⟨a, h2, h3, h4⟩ := cut_at l (lasts + (min keep ((cat (raw l)).length - lasts)).toNat)
  refine ⟨_, a, rfl, h2, h3, h4, ?_⟩
  have hk : keptV ⟨room, cat (raw l), lasts, false⟩ keep = (min keep ((cat (raw l)).length - lasts)).toNat := by unfold keptV; simp only; omega
  unfold recoverV crashV
  rw [if_neg (by simp)]
  simp only [hk]
  rw [allV_at l hl _ a h2 h3 h4]
  simp only [raw_length l a h2]
  rw [List.take_take, Nat.min_eq_left h3, Cn_take]
theorem fallen_least {l : List ByteArray} {m a k : Nat} (h1 : (Cn l k).length ≤ m) (h2 : a < l.length → m < (Cn l (a + 1)).length) (hk : k ≤ l.length) : k ≤ a := by
  rcases Nat.lt_or_ge a k with h | h
  · have := h2 (by omega)
    have := Cn_mono l (a := a + 1) (b := k) (by omega)
    omega
  · exact h
/-- Fallen and recovered again. -/
theorem fallen_twice (l : List ByteArray) (hl : ∀ t ∈ raw l, t.length ≤ 4096) (room : Int) (a : Nat) (h : a ≤ l.length) :
    recoverV (crashV ⟨room, Cn l a, (Cn l a).length, false⟩ 0) = (⟨room, Cn l a, (Cn l a).length, false⟩, a, 0) := by
  have hk : keptV ⟨room, Cn l a, (Cn l a).length, false⟩ 0 = 0 := by unfold keptV; simp
  unfold recoverV crashV
  rw [if_neg (by simp)]
  simp only [hk, Nat.add_zero, List.take_length]
  rw [allV_Cn l hl a]
  simp only [raw_length l a h, List.take_length]
theorem records_Cn (l : List ByteArray) (hl : ∀ t ∈ raw l, t.length ≤ 4096) (room : Int) (a x : Nat) : recordsV ⟨room, Cn l a, x, false⟩ = raw (l.take a) := by
  unfold recordsV; rw [if_neg (by simp), allV_Cn l hl a]
theorem lasts_Cn (l : List ByteArray) (hl : ∀ t ∈ raw l, t.length ≤ 4096) (room : Int) (a : Nat) (h : a ≤ l.length) : lastsV ⟨room, Cn l a, (Cn l a).length, false⟩ = a := by
  unfold lastsV; rw [if_neg (by simp)]
  simp only [List.take_length]
  rw [allV_Cn l hl a, raw_length l a h]
theorem append_Cn {l : List ByteArray} {i : Nat} (hi : i < l.length) (h : (l[i]).size ≤ 4096) (room : Int) (lasts : Nat) (hr : ((Cn l (i + 1)).length : Int) ≤ room) :
    appendV ⟨room, Cn l i, lasts, false⟩ l[i].data.toList = (⟨room, Cn l (i + 1), lasts, false⟩, 0) := by
  unfold appendV
  rw [putV_ok _ _ (by rw [raw_len]; exact h), if_neg (by simp), if_neg (by simp)]
  simp only [← Cn_succ hi]
  rw [if_neg (by omega)]
end Go.Proofs.YthjbhnogndgojaaDoor
