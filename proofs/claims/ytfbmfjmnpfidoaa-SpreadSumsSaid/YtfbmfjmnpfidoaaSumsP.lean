import Derived.Test.YtfbmfjmnpfidoaaChk
import Derived.Test.YtfbmfjmnpfidoaaSkew
namespace Go.Proofs.Ytfbmfjmnpfidoaa
open Go.RowKit

/-! What Check tells, in plain words; the sums over domains. -/
theorem orV_zero {a b : Int} (h : orV a b = 0) : a = 0 ∧ b = 0 := by
  unfold orV at h
  by_cases k : a ≠ 0
  · rw [if_pos k] at h; exact absurd h k
  · rw [if_neg k] at h; exact ⟨Decidable.not_not.1 k, h⟩
theorem manyV_zero {α : Type} {lim : Nat} {l : List α} {n : Int} (h : manyV lim l n = 0) : l.length ≤ lim ∧ n = 0 := by
  unfold manyV at h
  split at h
  · cases h
  · exact ⟨by omega, h⟩
theorem ltS_trans {a b c : ByteArray} (h : ltS a b = true) (k : ltS b c = true) : ltS a c = true := by
  unfold ltS at *
  simp only [decide_eq_true_eq] at *
  exact Std.lt_of_lt_of_le h (Std.le_of_lt k)
theorem ltS_ne {a b : ByteArray} (h : ltS a b = true) : a ≠ b := by
  rintro rfl
  unfold ltS at h
  simp only [decide_eq_true_eq] at h
  exact Std.lt_irrefl h
theorem rowsV_zero {α : Type} {f : α → Int} {nm : α → ByteArray} : ∀ {l : List α} {p : Option ByteArray}, rowsV f nm p l = 0 →
    (∀ x ∈ l, f x = 0) ∧ l.Pairwise (fun a b => ltS (nm a) (nm b) = true) ∧ ∀ q, p = some q → ∀ x ∈ l, ltS q (nm x) = true
  | [], _, _ => ⟨fun _ h => (by cases h), List.Pairwise.nil, fun _ _ _ h => (by cases h)⟩
  | x :: r, p, h => by
    unfold rowsV at h
    obtain ⟨h1, h2⟩ := orV_zero h
    split at h2
    · cases h2
    · rename_i hl
      obtain ⟨i1, i2, i3⟩ := rowsV_zero h2
      have hx := i3 (nm x) rfl
      refine ⟨fun y hy => ?_, List.pairwise_cons.2 ⟨hx, i2⟩, fun q hq y hy => ?_⟩
      · rcases List.mem_cons.1 hy with rfl | hy
        · exact h1
        · exact i1 y hy
      · subst hq
        have h3 : ltS q (nm x) = true := by
          cases hc : ltS q (nm x) with
          | true => rfl
          | false => exact absurd (show (!ltS q (nm x)) = true by rw [hc]; rfl) hl
        rcases List.mem_cons.1 hy with rfl | hy
        · exact h3
        · exact ltS_trans h3 (hx y hy)
theorem check_parts {s : St} (h : checkSt s = 0) : checkNodes s.nodes = 0 ∧ checkPods s.pods = 0 := by
  unfold checkSt at h
  obtain ⟨h1, h⟩ := orV_zero h
  exact ⟨h1, (orV_zero h).1⟩
theorem check_labels {s : St} (h : checkSt s = 0) : ∀ n ∈ s.nodes, ∀ x ∈ n.labels, isName x.val = true := by
  intro n hn x hx
  have h1 := (manyV_zero (check_parts h).1).2
  have h2 := (rowsV_zero h1).1 n hn
  unfold checkNode at h2
  obtain ⟨-, h2⟩ := orV_zero h2
  obtain ⟨-, h2⟩ := orV_zero h2
  obtain ⟨h2, -⟩ := orV_zero h2
  have h3 := (rowsV_zero (manyV_zero h2).2).1 x hx
  unfold pairV at h3
  cases hv : isName x.val with
  | true => rfl
  | false => rw [hv] at h3; split at h3 <;> cases h3
theorem pods_names {s : St} (h : checkSt s = 0) : s.pods.Pairwise (fun a b => ltS a.name b.name = true) := (rowsV_zero (manyV_zero (check_parts h).2).2).2.1
theorem findV_mem : ∀ {l : List Nd} {k : ByteArray}, (findV l k).2 = true → (findV l k).1 ∈ l
  | n :: r, k, h => by
    unfold findV at *
    by_cases e : n.name = k
    · rw [if_pos e]; exact List.mem_cons_self ..
    · rw [if_neg e] at h ⊢; exact List.mem_cons_of_mem _ (findV_mem h)
theorem getV_mem : ∀ {l : List Pair} {k : ByteArray}, (getV l k).2 = true → ∃ x ∈ l, (getV l k).1 = x.val
  | p :: r, k, h => by
    unfold getV at *
    by_cases e : p.key = k
    · rw [if_pos e]; exact ⟨p, List.mem_cons_self .., rfl⟩
    · rw [if_neg e] at h ⊢
      obtain ⟨x, hx, e⟩ := getV_mem h
      exact ⟨x, List.mem_cons_of_mem _ hx, e⟩
theorem dom_found {s : St} {name key : ByteArray} (h : (domV s name key).2 = true) : (findV s.nodes name).2 = true := by
  cases hf : (findV s.nodes name).2 with
  | true => rfl
  | false =>
    unfold domV at h
    rw [find_none hf] at h
    cases h
theorem dom_mem {s : St} {name key : ByteArray} (h : (domV s name key).2 = true) : bs (domV s name key).1 ∈ domsV s.nodes key := by
  unfold domsV
  rw [insAll_mem]
  refine List.mem_map.2 ⟨(domV s name key).1, ?_, rfl⟩
  unfold domsL
  refine List.mem_filterMap.2 ⟨(findV s.nodes name).1, findV_mem (dom_found h), ?_⟩
  show (if (domV s name key).2 = true then some (domV s name key).1 else none) = _
  rw [if_pos h]
def blank : ByteArray := ⟨#[110, 111, 32, 119, 104, 101, 114, 101]⟩
theorem no_where {s : St} (h : checkSt s = 0) (p : Pd) (l : List Pd) : countV s p blank l = 0 := by
  unfold countV
  rw [List.countP_eq_zero]
  intro x _ hx
  simp only [Bool.and_eq_true] at hx
  obtain ⟨-, hd⟩ := hx
  unfold inDom at hd
  simp only [Bool.and_eq_true, decide_eq_true_eq] at hd
  obtain ⟨h1, h2⟩ := hd
  obtain ⟨y, hy, e⟩ := getV_mem (show (getV (findV s.nodes x.node).1.labels p.key).2 = true from h1)
  have hn := check_labels h _ (findV_mem (dom_found h1)) y hy
  rw [← e, show (getV (findV s.nodes x.node).1.labels p.key).1 = blank from h2] at hn
  revert hn
  decide
def sumC (s : St) (p : Pd) (l : List (List UInt8)) : Nat := (l.map fun d => countV s p (ba d) s.pods).sum
def wantV (s : St) (p : Pd) (l : List Pd) : Nat := l.countP fun x => other p x && (domV s x.node p.key).2
theorem sum_add {α : Type} (f g : α → Nat) : ∀ l : List α, (l.map fun d => f d + g d).sum = (l.map f).sum + (l.map g).sum
  | [] => rfl
  | a :: r => by simp only [List.map_cons, List.sum_cons, sum_add f g r]; omega
theorem sum_none {α : Type} (f : α → Nat) : ∀ l : List α, (∀ x ∈ l, f x = 0) → (l.map f).sum = 0
  | [], _ => rfl
  | a :: r, h => by rw [List.map_cons, List.sum_cons, h a (List.mem_cons_self ..), sum_none f r (fun x hx => h x (List.mem_cons_of_mem _ hx))]
theorem sum_one {v : List UInt8} : ∀ l : List (List UInt8), l.Nodup → v ∈ l → (l.map fun d => if d = v then 1 else 0).sum = 1
  | a :: r, hn, hv => by
    obtain ⟨h1, h2⟩ := List.nodup_cons.1 hn
    rw [List.map_cons, List.sum_cons]
    by_cases e : a = v
    · subst e
      rw [if_pos rfl, sum_none _ r (fun x hx => if_neg (fun k : x = a => h1 (k ▸ hx)))]
    · rw [if_neg e, sum_one r h2 ((List.mem_cons.1 hv).resolve_left (fun k => e k.symm))]
theorem rises_nodup {l : List (List UInt8)} (h : Rises l) : l.Nodup := List.Pairwise.imp (fun k e => by subst e; exact Std.lt_irrefl k) h
theorem one_dom (s : St) (p : Pd) (x : Pd) : ((domsV s.nodes p.key).map fun d => if (other p x && inDom s x.node p.key (ba d)) = true then 1 else 0).sum = if (other p x && (domV s x.node p.key).2) = true then 1 else 0 := by
  cases ho : other p x with
  | false => simp only [Bool.false_and]; exact (sum_none _ _ (fun _ _ => rfl)).trans rfl
  | true =>
    simp only [Bool.true_and]
    cases hd : (domV s x.node p.key).2 with
    | false =>
      rw [sum_none _ _ (fun d _ => by unfold inDom; rw [hd]; rfl)]
      rfl
    | true =>
      have he : ∀ d, (if inDom s x.node p.key (ba d) = true then 1 else 0) = if d = bs (domV s x.node p.key).1 then 1 else 0 := fun d => by
        have : inDom s x.node p.key (ba d) = decide (d = bs (domV s x.node p.key).1) := by
          unfold inDom
          rw [hd, Bool.true_and]
          by_cases e : d = bs (domV s x.node p.key).1
          · rw [decide_eq_true e, decide_eq_true (by rw [e]; rfl)]
          · rw [decide_eq_false e, decide_eq_false (fun k => e (by rw [k]; rfl))]
        rw [this]; simp
      simp only [he]
      rw [sum_one _ (rises_nodup (domsV_rises _ _)) (dom_mem hd)]
      rfl
theorem sums_at (s : St) (p : Pd) : ∀ l : List Pd, ((domsV s.nodes p.key).map fun d => countV s p (ba d) l).sum = wantV s p l
  | [] => sum_none _ _ (fun _ _ => rfl)
  | x :: r => by
    have h1 : ∀ d, countV s p (ba d) (x :: r) = countV s p (ba d) r + if (other p x && inDom s x.node p.key (ba d)) = true then 1 else 0 := fun d => List.countP_cons
    simp only [h1]
    rw [sum_add, sums_at s p r, one_dom]
    exact List.countP_cons.symm
theorem sums_eq (s : St) (p : Pd) : sumC s p (domsV s.nodes p.key) = wantV s p s.pods := sums_at s p s.pods
theorem sumC_snoc (s : St) (p : Pd) {l : List (List UInt8)} {k : Nat} (h : k < l.length) : sumC s p (l.take (k + 1)) = sumC s p (l.take k) + countV s p (ba l[k]) s.pods := by
  unfold sumC
  rw [List.take_succ_eq_append_getElem h, List.map_append, List.sum_append]
  simp
theorem sumC_le (s : St) (p : Pd) : ∀ l : List (List UInt8), sumC s p l ≤ l.length * s.pods.length
  | [] => by simp [sumC]
  | a :: r => by
    have h1 := sumC_le s p r
    have h2 := countV_le s p (ba a) s.pods
    unfold sumC at h1 ⊢
    rw [List.map_cons, List.sum_cons, List.length_cons, Nat.add_mul]
    omega
theorem wantV_snoc (s : St) (p : Pd) {l : List Pd} {k : Nat} (h : k < l.length) : wantV s p (l.take (k + 1)) = wantV s p (l.take k) + if (other p l[k] && (domV s l[k].node p.key).2) = true then 1 else 0 := by
  unfold wantV
  rw [List.take_succ_eq_append_getElem h, List.countP_append, List.countP_singleton]
theorem wantV_le (s : St) (p : Pd) (l : List Pd) : wantV s p l ≤ l.length := List.countP_le_length
end Go.Proofs.Ytfbmfjmnpfidoaa
