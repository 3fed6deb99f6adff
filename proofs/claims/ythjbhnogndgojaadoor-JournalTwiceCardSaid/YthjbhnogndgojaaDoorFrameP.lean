import Derived.Test.YthjbhnogndgojaaDoorFrameI
namespace Go.Proofs.YthjbhnogndgojaaDoor
open Go.RowKit

theorem dig_toNat (m : Nat) (h : m < 10) : (UInt8.ofNat (48 + m)).toNat = 48 + m := by simp; omega

theorem decDigits_ne (k : Nat) : Lib.decDigits k ≠ [] := by
  rw [dec_start]; simp

theorem scan_digits : ∀ (k : Nat), 1 ≤ k → k ≤ 4096 → ∀ r : List UInt8, scan 0 0 (Lib.decDigits k ++ r) = scan (Lib.decDigits k).length k r
  | k, h1, h2, r => by
    rw [Lib.decDigits]
    by_cases hk : k < 10
    · rw [dif_pos hk]
      have ht := dig_toNat k hk
      rw [List.cons_append, List.nil_append, scan_on (by omega) (by omega) (by omega), ht]
      simp
    · rw [dif_neg hk, List.append_assoc, scan_digits (k / 10) (by omega) (by omega)]
      have ht := dig_toNat (k % 10) (by omega)
      rw [List.cons_append, List.nil_append, scan_on (by omega) (by omega) (by omega), ht]
      rw [List.length_append, List.length_singleton]
      congr 1; omega
termination_by k => k

theorem scan_itoa (k : Nat) (h2 : k ≤ 4096) (r : List UInt8) : scan 0 0 (Lib.itoa k ++ (58 :: r)) = (0, k, (Lib.itoa k).length + 1) := by
  rw [Lib.itoa_nonneg]
  by_cases hk : k = 0
  · subst hk
    rw [Lib.decDigits_one (by omega)]
    rw [List.cons_append, List.nil_append, scan_on (by decide) (by decide) (by decide), scan_colon (by decide) (by decide)]
    rfl
  · rw [scan_digits k (by omega) h2, scan_colon (by decide) (by have := decDigits_ne k; exact List.length_pos_iff.2 this)]

theorem frm_length (t : List UInt8) : (frm t).length = (Lib.itoa t.length).length + t.length + 2 := by
  unfold frm; simp; omega
theorem nextV_frm (t r : List UInt8) (h : t.length ≤ 4096) : nextV (frm t ++ r) = (t, (frm t).length, 0) := by
  have hf : frm t ++ r = Lib.itoa t.length ++ (58 :: (t ++ (59 :: r))) := by unfold frm; simp
  have hs := scan_itoa t.length h (t ++ (59 :: r))
  rw [← hf] at hs
  unfold nextV
  rw [hs]
  simp only
  rw [if_neg (by decide), if_neg (by rw [hf]; simp; omega)]
  have h2 : frm t ++ r = (Lib.itoa t.length ++ [58] ++ t) ++ (59 :: r) := by rw [hf]; simp
  have h3 : (Lib.itoa t.length ++ [58] ++ t).length = (Lib.itoa t.length).length + 1 + t.length := by simp; omega
  have h4 : (frm t ++ r).getD ((Lib.itoa t.length).length + 1 + t.length) 0 = 59 := by
    rw [h2, ← h3, List.getD_eq_getElem?_getD, List.getElem?_append_right (Nat.le_refl _)]; simp
  rw [h4, if_neg (by decide)]
  have h5 : frm t ++ r = (Lib.itoa t.length ++ [58]) ++ (t ++ (59 :: r)) := by rw [hf]; simp
  have h6 : (Lib.itoa t.length ++ [58]).length = (Lib.itoa t.length).length + 1 := by simp
  rw [h5, ← h6, List.drop_left, List.take_left, frm_length]
  congr 2
  rw [h6]; omega
theorem allV_frm (t r : List UInt8) (h : t.length ≤ 4096) : allV (frm t ++ r) = (t :: (allV r).1, (frm t).length + (allV r).2) := by
  have e := nextV_frm t r h
  rw [allV_cons (by rw [e]), e]
  simp only [List.drop_left]

theorem scan_mono : ∀ (p q : List UInt8) (i n : Nat), (scan i n p).1 = 0 → scan i n (p ++ q) = scan i n p
  | [], q, i, n, h => by simp [scan] at h
  | c :: p, q, i, n, h => by
    rw [List.cons_append]
    by_cases a : c.toNat = 58 ∧ 0 < i
    · rw [scan_colon a.1 a.2, scan_colon a.1 a.2]
    · by_cases b : c.toNat < 48 ∨ 57 < c.toNat ∨ (i = 1 ∧ n = 0)
      · rw [scan_form a b, scan_form a b]
      · by_cases d : 4096 < 10 * n + (c.toNat - 48)
        · rw [scan_big a b d, scan_big a b d]
        · rw [scan_on a b d] at h ⊢
          rw [scan_on a b d, scan_mono p q _ _ h]
theorem nextV_mono (p q : List UInt8) (h : (nextV p).2.2 = 0) : nextV (p ++ q) = nextV p := by
  unfold nextV at h
  by_cases a : (scan 0 0 p).1 = 0
  · have hm := scan_mono p q 0 0 a
    rw [if_neg (by simp [a])] at h
    by_cases b : p.length ≤ (scan 0 0 p).2.2 + (scan 0 0 p).2.1
    · rw [if_pos b] at h; simp at h
    · rw [if_neg b] at h
      by_cases c : (p.getD ((scan 0 0 p).2.2 + (scan 0 0 p).2.1) 0).toNat ≠ 59
      · rw [if_pos c] at h; simp at h
      · have hg : (p ++ q).getD ((scan 0 0 p).2.2 + (scan 0 0 p).2.1) 0 = p.getD ((scan 0 0 p).2.2 + (scan 0 0 p).2.1) 0 := by
          rw [List.getD_eq_getElem?_getD, List.getD_eq_getElem?_getD, List.getElem?_append_left (by omega)]
        unfold nextV
        have b2 : ¬ (p ++ q).length ≤ (scan 0 0 p).2.2 + (scan 0 0 p).2.1 := by rw [List.length_append]; omega
        have a2 : ¬ (scan 0 0 p).1 ≠ 0 := fun x => x a
        rw [hm, hg, if_neg a2, if_neg b2, if_neg c, if_neg a2, if_neg b, if_neg c]
        rw [List.drop_append_of_le_length (by omega), List.take_append_of_le_length (by rw [List.length_drop]; omega)]
  · rw [if_pos a] at h; exact absurd h a
theorem nextV_part (t : List UInt8) (h : t.length ≤ 4096) (k : Nat) (hk : k < (frm t).length) (r : List UInt8) : (nextV ((frm t ++ r).take k)).2.2 ≠ 0 := by
  intro e
  rw [List.take_append_of_le_length (by omega)] at e
  have h1 := nextV_mono _ ((frm t).drop k) e
  have h2 := nextV_len _ e
  rw [List.take_append_drop] at h1
  have h3 := nextV_frm t [] h
  rw [List.append_nil] at h3
  rw [← h1, h3] at h2
  simp at h2; omega

/-- Records one behind the other. -/
def cat : List (List UInt8) → List UInt8
  | [] => []
  | t :: r => frm t ++ cat r
theorem cat_append (a b : List (List UInt8)) : cat (a ++ b) = cat a ++ cat b := by
  induction a with
  | nil => rfl
  | cons t a ih => show frm t ++ cat (a ++ b) = frm t ++ cat a ++ cat b; rw [ih, List.append_assoc]
theorem allV_empty : allV [] = ([], 0) := allV_nil (by decide)
/-- Cut anywhere: the records that are whole, and no more. -/
theorem allV_cut : ∀ (l : List (List UInt8)), (∀ t ∈ l, t.length ≤ 4096) → ∀ (n : Nat), n ≤ l.length → ∀ (k : Nat), (cat (l.take n)).length ≤ k → (n < l.length → k < (cat (l.take (n + 1))).length) → allV ((cat l).take k) = (l.take n, (cat (l.take n)).length)
  | [], _, n, hn, k, _, _ => by
    simp only [cat, List.take_nil, allV_empty, List.length_nil]
  | t :: r, hl, 0, hn, k, _, h2 => by
    have h3 := h2 (by simp)
    simp only [List.take, cat, List.append_nil] at h3
    rw [allV_nil]
    · simp [cat]
    · exact nextV_part t (hl t (by simp)) k h3 (cat r)
  | t :: r, hl, n + 1, hn, k, h1, h2 => by
    have h3 : (frm t).length + (cat (r.take n)).length ≤ k := by simpa [cat] using h1
    have ih := allV_cut r (fun x hx => hl x (by simp [hx])) n (by simpa using hn) (k - (frm t).length) (by omega) (fun hlt => by
      have := h2 (by simp; omega)
      simp only [List.take_succ_cons, cat, List.length_append] at this
      omega)
    show allV ((frm t ++ cat r).take k) = _
    rw [List.take_append, List.take_of_length_le (by omega), allV_frm t _ (hl t (by simp)), ih]
    simp [cat]
theorem allV_cat (l : List (List UInt8)) (h : ∀ t ∈ l, t.length ≤ 4096) : allV (cat l) = (l, (cat l).length) := by
  have := allV_cut l h l.length (Nat.le_refl _) (cat l).length (by rw [List.take_length]; exact Nat.le_refl _) (fun e => absurd e (Nat.lt_irrefl _))
  rwa [List.take_length, List.take_length] at this
theorem nextV_le (b : List UInt8) : (nextV b).1.length ≤ 4096 := by
  unfold nextV
  split
  · simp
  · rename_i a
    split
    · simp
    · split
      · simp
      · have := (scan_at b 0 0 (by simpa using a)).2.2 (by omega)
        simp only [List.length_take]; omega
theorem allV_le (b : List UInt8) : (∀ t ∈ (allV b).1, t.length ≤ 4096) ∧ (allV b).1.length ≤ b.length ∧ (allV b).2 ≤ b.length := by
  by_cases h : (nextV b).2.2 = 0
  · have hl := nextV_len b h
    have ih := allV_le (b.drop (nextV b).2.1)
    rw [allV_cons h]
    refine ⟨fun t ht => ?_, ?_, ?_⟩
    · rcases List.mem_cons.1 ht with rfl | h2
      · exact nextV_le b
      · exact ih.1 t h2
    · have := ih.2.1; simp only [List.length_drop, List.length_cons] at *; omega
    · have := ih.2.2; simp only [List.length_drop] at *; omega
  · rw [allV_nil h]; simp
termination_by b.length
decreasing_by
  have := nextV_len b h
  simp only [List.length_drop]; omega
theorem frm_le (t : List UInt8) (h : t.length ≤ 4096) : (frm t).length ≤ t.length + 23 := by
  have := Lib.itoa_length_le t.length (by omega) (by omega)
  rw [frm_length]; omega
theorem bs_inj {a b : List UInt8} (h : bs a = bs b) : a = b := by
  have := congrArg (fun x => x.data.toList) h
  simpa [bs] using this
theorem bs_list (s : ByteArray) : bs s.data.toList = s := by
  apply ByteArray.ext; simp [bs]
end Go.Proofs.YthjbhnogndgojaaDoor
