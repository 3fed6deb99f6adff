import Derived.Lib.ItoaNum
import Derived.Below
namespace Go.Proofs.YthjbhnogndgojaaDoor

/-! Records in bytes, in plain words. -/
/-- From place i on, with the number n read so far: the error, the length, where the record's text begins. -/
def scan : Nat → Nat → List UInt8 → Int × Nat × Nat
  | _, _, [] => (7, 0, 0)
  | i, n, c :: r =>
    if c.toNat = 58 ∧ 0 < i then (0, n, i + 1)
    else if c.toNat < 48 ∨ 57 < c.toNat ∨ (i = 1 ∧ n = 0) then (2, 0, 0)
    else if 4096 < 10 * n + (c.toNat - 48) then (2, 0, 0)
    else scan (i + 1) (10 * n + (c.toNat - 48)) r
/-- The first record, how many bytes it has, or the error. -/
def nextV (b : List UInt8) : List UInt8 × Nat × Int :=
  if (scan 0 0 b).1 ≠ 0 then ([], 0, (scan 0 0 b).1)
  else if b.length ≤ (scan 0 0 b).2.2 + (scan 0 0 b).2.1 then ([], 0, 7)
  else if (b.getD ((scan 0 0 b).2.2 + (scan 0 0 b).2.1) 0).toNat ≠ 59 then ([], 0, 2)
  else ((b.drop (scan 0 0 b).2.2).take (scan 0 0 b).2.1, (scan 0 0 b).2.2 + (scan 0 0 b).2.1 + 1, 0)
theorem scan_nil (i n : Nat) : scan i n [] = (7, 0, 0) := rfl
theorem scan_colon {i n : Nat} {c : UInt8} {r : List UInt8} (h : c.toNat = 58) (k : 0 < i) : scan i n (c :: r) = (0, n, i + 1) := by
  unfold scan; rw [if_pos ⟨h, k⟩]
theorem scan_form {i n : Nat} {c : UInt8} {r : List UInt8} (h : ¬ (c.toNat = 58 ∧ 0 < i)) (k : c.toNat < 48 ∨ 57 < c.toNat ∨ (i = 1 ∧ n = 0)) : scan i n (c :: r) = (2, 0, 0) := by
  unfold scan; rw [if_neg h, if_pos k]
theorem scan_big {i n : Nat} {c : UInt8} {r : List UInt8} (h : ¬ (c.toNat = 58 ∧ 0 < i)) (k : ¬ (c.toNat < 48 ∨ 57 < c.toNat ∨ (i = 1 ∧ n = 0))) (m : 4096 < 10 * n + (c.toNat - 48)) : scan i n (c :: r) = (2, 0, 0) := by
  unfold scan; rw [if_neg h, if_neg k, if_pos m]
theorem scan_on {i n : Nat} {c : UInt8} {r : List UInt8} (h : ¬ (c.toNat = 58 ∧ 0 < i)) (k : ¬ (c.toNat < 48 ∨ 57 < c.toNat ∨ (i = 1 ∧ n = 0))) (m : ¬ 4096 < 10 * n + (c.toNat - 48)) : scan i n (c :: r) = scan (i + 1) (10 * n + (c.toNat - 48)) r := by
  conv => lhs; unfold scan
  rw [if_neg h, if_neg k, if_neg m]
/-- Where a record begins, and how long it is. -/
theorem scan_at : ∀ (r : List UInt8) (i n : Nat), (scan i n r).1 = 0 → i < (scan i n r).2.2 ∧ (scan i n r).2.2 ≤ i + r.length ∧ (n ≤ 4096 → (scan i n r).2.1 ≤ 4096)
  | [], i, n, h => by simp [scan] at h
  | c :: r, i, n, h => by
    unfold scan at *
    by_cases a : c.toNat = 58 ∧ 0 < i
    · rw [if_pos a]; simp
    · rw [if_neg a] at h ⊢
      by_cases b : c.toNat < 48 ∨ 57 < c.toNat ∨ (i = 1 ∧ n = 0)
      · rw [if_pos b] at h; simp at h
      · rw [if_neg b] at h ⊢
        by_cases d : 4096 < 10 * n + (c.toNat - 48)
        · rw [if_pos d] at h; simp at h
        · rw [if_neg d] at h ⊢
          have := scan_at r (i + 1) _ h
          simp only [List.length_cons]
          omega
theorem nextV_len (b : List UInt8) (h : (nextV b).2.2 = 0) : 0 < (nextV b).2.1 ∧ (nextV b).2.1 ≤ b.length := by
  unfold nextV at *
  split
  · rename_i k; rw [if_pos k] at h; exact absurd h k
  · rename_i k; rw [if_neg k] at h
    split
    · rename_i m; rw [if_pos m] at h; simp at h
    · rename_i m; rw [if_neg m] at h
      split
      · rename_i q; rw [if_pos q] at h; simp at h
      · simp; omega
/-- All records, and how many bytes they have. -/
def allV (b : List UInt8) : List (List UInt8) × Nat :=
  if h : (nextV b).2.2 = 0 then ((nextV b).1 :: (allV (b.drop (nextV b).2.1)).1, (nextV b).2.1 + (allV (b.drop (nextV b).2.1)).2) else ([], 0)
termination_by b.length
decreasing_by
  all_goals
    have := nextV_len b h
    simp only [List.length_drop]
    omega
/-- A record's bytes. -/
def frm (t : List UInt8) : List UInt8 := Lib.itoa t.length ++ (58 :: t ++ [59])
/-- The bytes behind Put, and its error. -/
def putV (b t : List UInt8) : List UInt8 × Int := if 4096 < t.length then (b, 4) else (b ++ frm t, 0)
end Go.Proofs.YthjbhnogndgojaaDoor
