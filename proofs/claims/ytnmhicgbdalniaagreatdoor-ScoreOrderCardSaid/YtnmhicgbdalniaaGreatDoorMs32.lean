import Derived.Test.YtnmhicgbdalniaaGreatDoorMs31
namespace Go.Proofs.YtnmhicgbdalniaaGreatDoor
open Go.RowKit

/-! Vectors: the plain law of their sums. -/
theorem rowsV_mk {α : Type} {f : α → Int} {nm : α → ByteArray} : ∀ {l : List α} {p : Option ByteArray}, (∀ x ∈ l, f x = 0) → l.Pairwise (fun a b => ltS (nm a) (nm b) = true) → (∀ q, p = some q → ∀ x ∈ l, ltS q (nm x) = true) → rowsV f nm p l = 0
  | [], _, _, _, _ => rfl
  | x :: r, p, h1, h2, h3 => by
    obtain ⟨k1, k2⟩ := List.pairwise_cons.1 h2
    have hl : tooLow p (nm x) = false := by
      cases p with
      | none => rfl
      | some q => show (!ltS q (nm x)) = false; rw [h3 q rfl x (List.mem_cons_self ..)]; rfl
    unfold rowsV
    rw [orV_r (h1 x (List.mem_cons_self ..)), hl, if_neg (by decide)]
    exact rowsV_mk (fun y hy => h1 y (List.mem_cons_of_mem _ hy)) k2 (fun q hq y hy => by injection hq with hq; subst hq; exact k1 y hy)
theorem nodup_length {α : Type} : ∀ {u v : List α}, u.Nodup → (∀ x ∈ u, x ∈ v) → u.length ≤ v.length
  | [], _, _, _ => Nat.zero_le _
  | x :: u, v, hn, hs => by
    obtain ⟨h1, h2⟩ := List.nodup_cons.1 hn
    obtain ⟨s, t, rfl⟩ := List.append_of_mem (hs x (List.mem_cons_self ..))
    have := nodup_length (v := s ++ t) h2 (fun y hy => by
      have := hs y (List.mem_cons_of_mem _ hy)
      rw [List.mem_append, List.mem_cons] at this
      rcases this with h | rfl | h
      · exact List.mem_append_left _ h
      · exact absurd hy h1
      · exact List.mem_append_right _ h)
    simp only [List.length_append, List.length_cons] at this ⊢
    omega
theorem ltS_tri {a b : ByteArray} (h1 : ¬ ltS a b = true) (h2 : ¬ ltS b a = true) : a = b := by
  unfold ltS at h1 h2
  simp only [decide_eq_true_eq] at h1 h2
  exact bs_inj (Std.le_antisymm (Std.not_lt.1 h2) (Std.not_lt.1 h1))
theorem up_nodup {l : List ByteArray} (h : l.Pairwise fun a b => ltS a b = true) : l.Nodup := List.Pairwise.imp (fun k => ltS_ne k) h
structure GoodV (v : List Amt) : Prop where
  len : v.length ≤ 8
  pos : ∀ x ∈ v, isName x.name = true ∧ 0 < x.n
  up : v.Pairwise fun a b => ltS a.name b.name = true
theorem amtV_zero (x : Amt) : amtV x = 0 ↔ isName x.name = true ∧ 0 < x.n := by
  unfold amtV
  cases isName x.name with
  | false => simp
  | true =>
    by_cases h : x.n ≤ 0
    · simp [h] <;> omega
    · simp [h] <;> omega
theorem vec_iff (v : List Amt) : checkVec v = 0 ↔ GoodV v := by
  constructor
  · intro h
    obtain ⟨h1, h2⟩ := manyV_zero h
    obtain ⟨h3, h4, -⟩ := rowsV_zero h2
    exact ⟨h1, fun x hx => (amtV_zero x).1 (h3 x hx), h4⟩
  · rintro ⟨h1, h2, h3⟩
    unfold checkVec manyV
    rw [if_neg (by omega)]
    exact rowsV_mk (fun x hx => (amtV_zero x).2 (h2 x hx)) h3 (fun q h => by cases h)
theorem goodV_nil : GoodV [] := ⟨by simp, fun x h => (by cases h), List.Pairwise.nil⟩
theorem getA_cons (y : Amt) (r : List Amt) (x : ByteArray) : getA (y :: r) x = if y.name = x then y.n else getA r x := rfl
theorem getA_none : ∀ {v : List Amt} {x : ByteArray}, (∀ y ∈ v, y.name ≠ x) → getA v x = 0
  | [], _, _ => rfl
  | y :: r, x, h => by
    unfold getA
    rw [if_neg (h y (List.mem_cons_self ..))]
    exact getA_none fun z hz => h z (List.mem_cons_of_mem _ hz)
theorem getA_mem : ∀ {v : List Amt}, v.Pairwise (fun a b => ltS a.name b.name = true) → ∀ y ∈ v, getA v y.name = y.n
  | x :: r, h, y, hy => by
    obtain ⟨h1, h2⟩ := List.pairwise_cons.1 h
    unfold getA
    rcases List.mem_cons.1 hy with rfl | hy
    · rw [if_pos rfl]
    · rw [if_neg (ltS_ne (h1 y hy))]
      exact getA_mem h2 y hy
theorem getA_some : ∀ {v : List Amt} {x : ByteArray}, getA v x ≠ 0 → ∃ y ∈ v, y.name = x
  | [], _, h => absurd rfl h
  | y :: r, x, h => by
    by_cases e : y.name = x
    · exact ⟨y, List.mem_cons_self .., e⟩
    · unfold getA at h
      rw [if_neg e] at h
      obtain ⟨z, hz, e⟩ := getA_some h
      exact ⟨z, List.mem_cons_of_mem _ hz, e⟩
theorem GoodV.nonneg {v : List Amt} (h : GoodV v) (x : ByteArray) : 0 ≤ getA v x := by
  by_cases e : getA v x = 0
  · omega
  · obtain ⟨y, hy, rfl⟩ := getA_some e
    rw [getA_mem h.up y hy]
    have := (h.pos y hy).2
    omega
theorem namesV_in (x : ByteArray) : ∀ a b : List Amt, x ∈ namesV a b ↔ x ∈ a.map (·.name) ∨ x ∈ b.map (·.name)
  | [], b => by rw [namesV_nil_l]; simp
  | y :: a, [] => by rw [namesV_nil_r]; simp
  | y :: a, z :: b => by
    rw [namesV]
    split
    · rw [List.mem_cons, namesV_in x a (z :: b), List.map_cons, List.map_cons, List.mem_cons, List.mem_cons]
      grind
    · split
      · rw [List.mem_cons, namesV_in x (y :: a) b, List.map_cons, List.map_cons, List.mem_cons, List.mem_cons]
        grind
      · rename_i h1 h2
        have := ltS_tri h1 h2
        rw [List.mem_cons, namesV_in x a b, List.map_cons, List.map_cons, List.mem_cons, List.mem_cons, ← this]
        grind
  termination_by a b => a.length + b.length
theorem namesV_rise : ∀ a b : List Amt, a.Pairwise (fun a b => ltS a.name b.name = true) → b.Pairwise (fun a b => ltS a.name b.name = true) → (namesV a b).Pairwise fun a b => ltS a b = true
  | [], b, _, h => by rw [namesV_nil_l, List.pairwise_map]; exact h
  | y :: a, [], h, _ => by rw [namesV_nil_r, List.pairwise_map]; exact h
  | y :: a, z :: b, h, k => by
    obtain ⟨h1, h2⟩ := List.pairwise_cons.1 h
    obtain ⟨k1, k2⟩ := List.pairwise_cons.1 k
    rw [namesV]
    split
    · rename_i hlt
      refine List.pairwise_cons.2 ⟨fun x hx => ?_, namesV_rise a (z :: b) h2 k⟩
      rcases (namesV_in x a (z :: b)).1 hx with hx | hx
      · obtain ⟨q, hq, rfl⟩ := List.mem_map.1 hx
        exact h1 q hq
      · obtain ⟨q, hq, rfl⟩ := List.mem_map.1 hx
        rcases List.mem_cons.1 hq with rfl | hq
        · exact hlt
        · exact ltS_trans hlt (k1 q hq)
    · split
      · rename_i hlt
        refine List.pairwise_cons.2 ⟨fun x hx => ?_, namesV_rise (y :: a) b h k2⟩
        rcases (namesV_in x (y :: a) b).1 hx with hx | hx
        · obtain ⟨q, hq, rfl⟩ := List.mem_map.1 hx
          rcases List.mem_cons.1 hq with rfl | hq
          · exact hlt
          · exact ltS_trans hlt (h1 q hq)
        · obtain ⟨q, hq, rfl⟩ := List.mem_map.1 hx
          exact k1 q hq
      · rename_i n1 n2
        have e := ltS_tri n1 n2
        refine List.pairwise_cons.2 ⟨fun x hx => ?_, namesV_rise a b h2 k2⟩
        rcases (namesV_in x a b).1 hx with hx | hx
        · obtain ⟨q, hq, rfl⟩ := List.mem_map.1 hx
          exact h1 q hq
        · obtain ⟨q, hq, rfl⟩ := List.mem_map.1 hx
          rw [e]; exact k1 q hq
  termination_by a b => a.length + b.length
def maxN : Int := 9223372036854775807
theorem addN_room {a b : Int} (h1 : 0 ≤ a) (h2 : 0 ≤ b) (h3 : a + b ≤ maxN) : addN a b = (a + b, 0) := by
  unfold addN
  unfold maxN at h3
  rw [if_neg (by omega), if_neg (by omega), if_neg (by omega)]
theorem addN_zero {a b : Int} (h : (addN a b).2 = 0) : 0 ≤ a ∧ 0 ≤ b ∧ a + b ≤ maxN := by
  unfold addN at h
  unfold maxN
  split at h
  · cases h
  · split at h
    · cases h
    · split at h
      · cases h
      · omega
theorem addL_ok (a b : List Amt) : ∀ (l : List ByteArray) (out : List Amt), (∀ x ∈ l, 0 ≤ getA a x ∧ 0 ≤ getA b x ∧ getA a x + getA b x ≤ maxN) → out.length + l.length ≤ 8 →
    addL a b l out = (out ++ l.map (fun x => ⟨x, getA a x + getA b x⟩), 0)
  | [], out, _, hl => by
    unfold addL
    rw [if_neg (by simp at hl; omega)]; simp
  | x :: r, out, h, hl => by
    obtain ⟨h1, h2, h3⟩ := h x (List.mem_cons_self ..)
    unfold addL
    rw [addN_room h1 h2 h3, if_neg (by simp), addL_ok a b r _ (fun y hy => h y (List.mem_cons_of_mem _ hy)) (by simp at hl ⊢; omega)]
    simp
theorem addL_zero (a b : List Amt) : ∀ (l : List ByteArray) (out : List Amt), (addL a b l out).2 = 0 → (∀ x ∈ l, 0 ≤ getA a x ∧ 0 ≤ getA b x ∧ getA a x + getA b x ≤ maxN) ∧ out.length + l.length ≤ 8
  | [], out, h => by
    unfold addL at h
    split at h
    · cases h
    · exact ⟨fun x hx => (by cases hx), by simp; omega⟩
  | x :: r, out, h => by
    unfold addL at h
    split at h
    · rename_i h0; exact absurd h h0
    · rename_i h0
      have h0 := Decidable.not_not.1 h0
      obtain ⟨i1, i2⟩ := addL_zero a b r _ h
      refine ⟨fun y hy => ?_, by simp at i2 ⊢; omega⟩
      rcases List.mem_cons.1 hy with rfl | hy
      · exact addN_zero h0
      · exact i1 y hy
def plusV (a b : List Amt) : List Amt := (namesV a b).map fun x => ⟨x, getA a x + getA b x⟩
structure Adds (a b : List Amt) : Prop where
  l : GoodV a
  r : GoodV b
  max : ∀ x, getA a x + getA b x ≤ maxN
  few : (namesV a b).length ≤ 8
theorem not_in {v : List Amt} {x : ByteArray} (h : ¬ x ∈ v.map (·.name)) : getA v x = 0 :=
  getA_none fun y hy e => h (by rw [← e]; exact List.mem_map_of_mem hy)
theorem Adds.add {a b : List Amt} (h : Adds a b) : addVec a b = (plusV a b, 0) := by
  unfold addVec
  rw [if_neg (fun k => k ((vec_iff a).2 h.l)), if_neg (fun k => k ((vec_iff b).2 h.r)), addL_ok a b _ _ (fun x _ => ⟨h.l.nonneg x, h.r.nonneg x, h.max x⟩) (by simpa using h.few)]
  rfl
theorem adds_of {a b : List Amt} (h : (addVec a b).2 = 0) : Adds a b := by
  unfold addVec at h
  split at h
  · rename_i k; exact absurd h k
  · split at h
    · rename_i k; exact absurd h k
    · rename_i k1 k2
      have g1 := (vec_iff a).1 (Decidable.not_not.1 k1)
      have g2 := (vec_iff b).1 (Decidable.not_not.1 k2)
      obtain ⟨i1, i2⟩ := addL_zero a b _ _ h
      refine ⟨g1, g2, fun x => ?_, by simpa using i2⟩
      by_cases hx : x ∈ namesV a b
      · exact (i1 x hx).2.2
      · rw [namesV_in, not_or] at hx
        rw [not_in hx.1, not_in hx.2]; unfold maxN; decide
theorem Adds.get {a b : List Amt} (h : Adds a b) (x : ByteArray) : getA (plusV a b) x = getA a x + getA b x := by
  classical
  have key : ∀ l : List ByteArray, l.Pairwise (fun a b => ltS a b = true) → getA (l.map fun x => (⟨x, getA a x + getA b x⟩ : Amt)) x = if x ∈ l then getA a x + getA b x else 0 := by
    intro l
    induction l with
    | nil => intro _; simp [getA]
    | cons y r ih =>
      intro hp
      obtain ⟨-, h2⟩ := List.pairwise_cons.1 hp
      rw [List.map_cons, getA_cons]
      by_cases e : y = x
      · subst e
        rw [if_pos rfl, if_pos (List.mem_cons_self ..)]
      · rw [if_neg e, ih h2]
        by_cases k : x ∈ r
        · rw [if_pos k, if_pos (List.mem_cons_of_mem _ k)]
        · rw [if_neg k, if_neg (by rw [List.mem_cons, not_or]; exact ⟨Ne.symm e, k⟩)]
  unfold plusV
  rw [key _ (namesV_rise a b h.l.up h.r.up)]
  split
  · rfl
  · rename_i hx
    rw [namesV_in, not_or] at hx
    rw [not_in hx.1, not_in hx.2]; rfl
theorem Adds.good {a b : List Amt} (h : Adds a b) : GoodV (plusV a b) := by
  unfold plusV
  refine ⟨by rw [List.length_map]; exact h.few, fun y hy => ?_, ?_⟩
  · obtain ⟨x, hx, rfl⟩ := List.mem_map.1 hy
    have h1 := h.l.nonneg x
    have h2 := h.r.nonneg x
    rcases (namesV_in x a b).1 hx with hx | hx
    · obtain ⟨q, hq, rfl⟩ := List.mem_map.1 hx
      refine ⟨(h.l.pos q hq).1, ?_⟩
      have := (h.l.pos q hq).2
      show 0 < getA a q.name + _
      rw [getA_mem h.l.up q hq]; omega
    · obtain ⟨q, hq, rfl⟩ := List.mem_map.1 hx
      refine ⟨(h.r.pos q hq).1, ?_⟩
      have := (h.r.pos q hq).2
      show 0 < _ + getA b q.name
      rw [getA_mem h.r.up q hq]; omega
  · rw [List.pairwise_map]
    exact namesV_rise a b h.l.up h.r.up
/-! Sums over a list. -/
section
variable {α : Type} (f : α → List Amt)
def tot : List α → ByteArray → Int
  | [], _ => 0
  | y :: r, x => getA (f y) x + tot r x
theorem tot_nonneg : ∀ (l : List α), (∀ y ∈ l, GoodV (f y)) → ∀ x, 0 ≤ tot f l x
  | [], _, _ => Int.le_refl _
  | y :: r, h, x => by
    have h1 := (h y (List.mem_cons_self ..)).nonneg x
    have h2 := tot_nonneg r (fun z hz => h z (List.mem_cons_of_mem _ hz)) x
    show 0 ≤ getA (f y) x + tot f r x
    omega
theorem tot_mem : ∀ (l : List α), (∀ y ∈ l, GoodV (f y)) → ∀ y ∈ l, ∀ x, getA (f y) x ≤ tot f l x
  | z :: r, h, y, hy, x => by
    have h1 := (h z (List.mem_cons_self ..)).nonneg x
    have h2 := tot_nonneg f r (fun z hz => h z (List.mem_cons_of_mem _ hz)) x
    show _ ≤ getA (f z) x + tot f r x
    rcases List.mem_cons.1 hy with rfl | hy
    · omega
    · have := tot_mem r (fun z hz => h z (List.mem_cons_of_mem _ hz)) y hy x
      omega
theorem tot_sub {l l' : List α} (hs : l'.Sublist l) : (∀ y ∈ l, GoodV (f y)) → ∀ x, tot f l' x ≤ tot f l x := by
  induction hs with
  | slnil => exact fun _ _ => Int.le_refl _
  | cons y _ ih =>
    intro h x
    have h1 := (h y (List.mem_cons_self ..)).nonneg x
    have := ih (fun z hz => h z (List.mem_cons_of_mem _ hz)) x
    show _ ≤ getA (f y) x + tot f _ x
    omega
  | cons_cons y _ ih =>
    intro h x
    have := ih (fun z hz => h z (List.mem_cons_of_mem _ hz)) x
    show getA (f y) x + tot f _ x ≤ getA (f y) x + tot f _ x
    omega
theorem tot_perm {l k : List α} (h : l.Perm k) (x : ByteArray) : tot f l x = tot f k x := by
  induction h with
  | nil => rfl
  | cons y _ ih => show getA (f y) x + _ = getA (f y) x + _; rw [ih]
  | swap y z r => show getA (f z) x + (getA (f y) x + _) = getA (f y) x + (getA (f z) x + _); omega
  | trans _ _ h1 h2 => exact h1.trans h2
theorem sumV_zero : ∀ (l : List α) (v : List Amt), GoodV v → (∀ x, getA v x ≤ maxN) → (sumV f l v).2 = 0 → (∀ y ∈ l, GoodV (f y)) ∧ GoodV (sumV f l v).1 ∧ (∀ x, getA (sumV f l v).1 x = getA v x + tot f l x) ∧ ∀ x, getA v x + tot f l x ≤ maxN
  | [], v, hv, hm, _ => ⟨fun y hy => (by cases hy), hv, fun x => (Int.add_zero _).symm, fun x => by show _ + 0 ≤ _; rw [Int.add_zero]; exact hm x⟩
  | y :: r, v, hv, hm, h => by
    unfold sumV at h ⊢
    split at h
    · rename_i k; exact absurd h k
    · rename_i k
      rw [if_neg k]
      have ha := adds_of (Decidable.not_not.1 k)
      rw [ha.add] at h ⊢
      obtain ⟨i1, i2, i3, i4⟩ := sumV_zero r (plusV v (f y)) ha.good (fun x => by rw [ha.get]; exact ha.max x) h
      refine ⟨fun z hz => ?_, i2, fun x => ?_, fun x => ?_⟩
      · rcases List.mem_cons.1 hz with rfl | hz
        · exact ha.r
        · exact i1 z hz
      · rw [i3, ha.get]
        show _ = _ + (getA (f y) x + tot f r x)
        omega
      · have := i4 x
        rw [ha.get] at this
        show _ + (getA (f y) x + tot f r x) ≤ _
        omega
theorem names_few {a b : List Amt} (ha : GoodV a) (hb : GoodV b) {U : List ByteArray} (h1 : ∀ z ∈ a, z.name ∈ U) (h2 : ∀ z ∈ b, z.name ∈ U) : (namesV a b).length ≤ U.length :=
  nodup_length (up_nodup (namesV_rise a b ha.up hb.up)) fun x hx => by
    rcases (namesV_in x a b).1 hx with hx | hx
    · obtain ⟨q, hq, rfl⟩ := List.mem_map.1 hx
      exact h1 q hq
    · obtain ⟨q, hq, rfl⟩ := List.mem_map.1 hx
      exact h2 q hq
theorem sumV_ok {U : List ByteArray} (hU : U.length ≤ 8) : ∀ (l : List α) (v : List Amt), GoodV v → (∀ y ∈ l, GoodV (f y)) → (∀ z ∈ v, z.name ∈ U) → (∀ y ∈ l, ∀ z ∈ f y, z.name ∈ U) → (∀ x, getA v x + tot f l x ≤ maxN) → (sumV f l v).2 = 0
  | [], _, _, _, _, _, _ => rfl
  | y :: r, v, hv, hf, u1, u2, hm => by
    have hy := hf y (List.mem_cons_self ..)
    have hr : ∀ z ∈ r, GoodV (f z) := fun z hz => hf z (List.mem_cons_of_mem _ hz)
    have ha : Adds v (f y) := ⟨hv, hy, fun x => by
      have h1 : getA v x + (getA (f y) x + tot f r x) ≤ maxN := hm x
      have h2 := tot_nonneg f r hr x
      omega, Nat.le_trans (names_few hv hy u1 (u2 y (List.mem_cons_self ..))) hU⟩
    unfold sumV
    rw [ha.add, if_neg (by simp)]
    refine sumV_ok hU r _ ha.good hr (fun z hz => ?_) (fun z hz => u2 z (List.mem_cons_of_mem _ hz)) (fun x => ?_)
    · obtain ⟨x, hx, rfl⟩ := List.mem_map.1 hz
      rcases (namesV_in x v (f y)).1 hx with hx | hx
      · obtain ⟨q, hq, rfl⟩ := List.mem_map.1 hx
        exact u1 q hq
      · obtain ⟨q, hq, rfl⟩ := List.mem_map.1 hx
        exact u2 y (List.mem_cons_self ..) q hq
    · rw [ha.get]
      have h1 : getA v x + (getA (f y) x + tot f r x) ≤ maxN := hm x
      omega
end
theorem fits_iff {need h : List Amt} (hn : GoodV need) (hh : ∀ x, 0 ≤ getA h x) : fitsV need h = true ↔ ∀ x, getA need x ≤ getA h x := by
  unfold fitsV
  rw [List.all_eq_true]
  constructor
  · intro k x
    by_cases e : getA need x = 0
    · rw [e]; exact hh x
    · obtain ⟨y, hy, rfl⟩ := getA_some e
      rw [getA_mem hn.up y hy]
      exact of_decide_eq_true (k y hy)
  · intro k y hy
    have := k y.name
    rw [getA_mem hn.up y hy] at this
    exact decide_eq_true this
/-! What is left. -/
theorem subN_room {a b : Int} (h2 : 0 ≤ b) (h3 : b ≤ a) : subN a b = (a - b, 0) := by
  unfold subN
  rw [if_neg (by omega), if_neg (by omega), if_neg (by omega)]
theorem subL_ok (a b : List Amt) : ∀ (l : List ByteArray) (out : List Amt), (∀ x ∈ l, 0 ≤ getA b x ∧ getA b x ≤ getA a x) →
    out.length + (l.filter fun x => decide (0 < getA a x - getA b x)).length ≤ 8 →
    subL a b l out = (out ++ (l.filter fun x => decide (0 < getA a x - getA b x)).map (fun x => ⟨x, getA a x - getA b x⟩), 0)
  | [], out, _, hl => by
    unfold subL
    rw [if_neg (by simp at hl; omega)]; simp
  | x :: r, out, h, hl => by
    obtain ⟨h1, h2⟩ := h x (List.mem_cons_self ..)
    unfold subL
    rw [subN_room h1 h2, if_neg (by simp)]
    simp only
    by_cases hp : 0 < getA a x - getA b x
    · rw [List.filter_cons_of_pos (by simpa using hp)] at hl ⊢
      rw [if_pos hp, subL_ok a b r _ (fun y hy => h y (List.mem_cons_of_mem _ hy)) (by simp at hl ⊢; omega)]
      simp
    · rw [List.filter_cons_of_neg (by simpa using hp)] at hl ⊢
      rw [if_neg hp, subL_ok a b r _ (fun y hy => h y (List.mem_cons_of_mem _ hy)) hl]
def lessV (a b : List Amt) : List Amt := ((namesV a b).filter fun x => decide (0 < getA a x - getA b x)).map fun x => ⟨x, getA a x - getA b x⟩
theorem sub_ok {a b : List Amt} (ha : GoodV a) (hb : GoodV b) (h : ∀ x, getA b x ≤ getA a x) : subVec a b = (lessV a b, 0) ∧ ∀ x, getA (lessV a b) x = getA a x - getA b x := by
  have hlen : ((namesV a b).filter fun x => decide (0 < getA a x - getA b x)).length ≤ 8 := by
    refine Nat.le_trans (nodup_length (v := a.map (·.name)) ((up_nodup (namesV_rise a b ha.up hb.up)).sublist List.filter_sublist) fun x hx => ?_) (by rw [List.length_map]; exact ha.len)
    obtain ⟨-, h2⟩ := List.mem_filter.1 hx
    have h2 := of_decide_eq_true h2
    have h3 := hb.nonneg x
    obtain ⟨y, hy, rfl⟩ := getA_some (v := a) (x := x) (by omega)
    exact List.mem_map_of_mem hy
  constructor
  · unfold subVec
    rw [if_neg (fun k => k ((vec_iff a).2 ha)), if_neg (fun k => k ((vec_iff b).2 hb)), subL_ok a b _ _ (fun x _ => ⟨hb.nonneg x, h x⟩) (by simpa using hlen)]
    rfl
  · intro x
    classical
    have key : ∀ l : List ByteArray, getA ((l.filter fun x => decide (0 < getA a x - getA b x)).map fun x => (⟨x, getA a x - getA b x⟩ : Amt)) x = if x ∈ l then getA a x - getA b x else 0 := by
      intro l
      induction l with
      | nil => simp [getA]
      | cons y r ih =>
        by_cases e : y = x
        · subst e
          by_cases hp : 0 < getA a y - getA b y
          · rw [List.filter_cons_of_pos (by simpa using hp), List.map_cons, getA_cons]
            rw [if_pos rfl, if_pos (List.mem_cons_self ..)]
          · rw [List.filter_cons_of_neg (by simpa using hp), ih, if_pos (List.mem_cons_self ..)]
            have := h y
            split <;> omega
        · have e2 : (x ∈ y :: r) ↔ x ∈ r := by rw [List.mem_cons]; exact ⟨fun k => k.resolve_left (Ne.symm e), .inr⟩
          by_cases hp : 0 < getA a y - getA b y
          · rw [List.filter_cons_of_pos (by simpa using hp), List.map_cons, getA_cons]
            rw [if_neg e, ih]
            simp only [e2]
          · rw [List.filter_cons_of_neg (by simpa using hp), ih]
            simp only [e2]
    unfold lessV
    rw [key]
    split
    · rfl
    · rename_i hx
      rw [namesV_in, not_or] at hx
      rw [not_in hx.1, not_in hx.2]; rfl
end Go.Proofs.YtnmhicgbdalniaaGreatDoor
