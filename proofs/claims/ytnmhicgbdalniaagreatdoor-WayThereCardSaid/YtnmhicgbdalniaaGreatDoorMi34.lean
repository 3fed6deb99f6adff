import Derived.Test.YtnmhicgbdalniaaGreatDoorMi33
namespace Go.Proofs.YtnmhicgbdalniaaGreatDoor
open Go.RowKit Go.Sort

/-! By which way a pod comes to a node: the plain law. -/
structure Wy where
  pod : ByteArray
  to_ : ByteArray
  holds : List ByteArray
def zWy : Wy := ⟨⟨#[]⟩, ⟨#[]⟩, []⟩
abbrev FitF := St → Pd → ByteArray → Int
section
variable (F : FitF)
/-- Which placeholders go from a node. -/
def onGo (p : Pd) (name : ByteArray) : St → List Pd → List ByteArray → List ByteArray × Bool
  | _, [], _ => ([], false)
  | s, x :: r, out => if x.hold = true then (if F (dropS s x.name) p name = 0 then (out ++ [x.name], true) else onGo p name (dropS s x.name) r (out ++ [x.name])) else onGo p name s r out
def onW (s : St) (p : Pd) (name : ByteArray) : List ByteArray × Bool := if F s p name = 0 then ([], true) else onGo F p name s (onV s name) []
def betterW (p : Pd) (n : ByteArray) (acc : Wy × Bool) (h : List ByteArray × Bool) : Wy × Bool := if (h.2 && (!acc.2 || decide (h.1.length < acc.1.holds.length))) = true then (⟨p.name, n, h.1⟩, true) else acc
def forGo (s : St) (p : Pd) : List Nd → Wy × Bool → Wy × Bool
  | [], acc => acc
  | n :: r, acc => forGo s p r (betterW p n.name acc (onW F s p n.name))
def forW (s : St) (p : Pd) : Wy × Bool := if p.hold = true then (zWy, false) else forGo F s p s.nodes (zWy, false)
def nextGo (s : St) : List Pd → Wy × Bool
  | [] => (zWy, false)
  | p :: r => if (forW F s p).2 = true then ((forW F s p).1, true) else nextGo s r
def nextW (s : St) : Wy × Bool := nextGo F s (pendV s)
end
def doW (s : St) (w : Wy) : St := moveS (w.holds.foldl dropS s) w.pod w.to_
theorem onGo_at (F : FitF) (p : Pd) (name : ByteArray) (s : St) {l : List Pd} {k : Nat} (h : k < l.length) (out : List ByteArray) :
    onGo F p name s (l.drop k) out = if l[k].hold = true then (if F (dropS s l[k].name) p name = 0 then (out ++ [l[k].name], true) else onGo F p name (dropS s l[k].name) (l.drop (k + 1)) (out ++ [l[k].name])) else onGo F p name s (l.drop (k + 1)) out := by
  rw [List.drop_eq_getElem_cons h]; rfl
theorem forGo_at (F : FitF) (s : St) (p : Pd) {l : List Nd} {k : Nat} (h : k < l.length) (acc : Wy × Bool) : forGo F s p (l.drop k) acc = forGo F s p (l.drop (k + 1)) (betterW p l[k].name acc (onW F s p l[k].name)) := by
  rw [List.drop_eq_getElem_cons h]; rfl
theorem nextGo_at (F : FitF) (s : St) {l : List Pd} {k : Nat} (h : k < l.length) : nextGo F s (l.drop k) = if (forW F s l[k]).2 = true then ((forW F s l[k]).1, true) else nextGo F s (l.drop (k + 1)) := by
  rw [List.drop_eq_getElem_cons h]; rfl
/-- What is found: the fewest of those that there are. -/
theorem forGo_says {F : FitF} {s : St} {p : Pd} : ∀ (l : List Nd) (acc : Wy × Bool), (acc.2 = true → ∃ n ∈ s.nodes, acc.1.to_ = n.name ∧ acc.1.pod = p.name ∧ onW F s p n.name = (acc.1.holds, true)) → (∀ n ∈ l, n ∈ s.nodes) →
    ((forGo F s p l acc).2 = true → ∃ n ∈ s.nodes, (forGo F s p l acc).1.to_ = n.name ∧ (forGo F s p l acc).1.pod = p.name ∧ onW F s p n.name = ((forGo F s p l acc).1.holds, true)) ∧
    ((acc.2 = true → (forGo F s p l acc).2 = true ∧ (forGo F s p l acc).1.holds.length ≤ acc.1.holds.length) ∧ ∀ n ∈ l, (onW F s p n.name).2 = true → (forGo F s p l acc).2 = true ∧ (forGo F s p l acc).1.holds.length ≤ (onW F s p n.name).1.length) ∧
    ((forGo F s p l acc).2 = false → (forGo F s p l acc).1 = acc.1)
  | [], acc, h, _ => ⟨h, ⟨fun h => ⟨h, Nat.le_refl _⟩, fun n hn => by cases hn⟩, fun _ => rfl⟩
  | n :: r, acc, h, hm => by
    have hn := hm n (List.mem_cons_self ..)
    obtain ⟨i1, ⟨i2, i3⟩, i4⟩ := forGo_says r (betterW p n.name acc (onW F s p n.name)) (by
      unfold betterW
      split
      · rename_i hb
        intro _
        refine ⟨n, hn, rfl, rfl, ?_⟩
        simp only [Bool.and_eq_true] at hb
        rw [← hb.1]
      · exact h) (fun x hx => hm x (List.mem_cons_of_mem _ hx))
    refine ⟨i1, ⟨fun ha => ?_, fun x hx hw => ?_⟩, fun hf => ?_⟩
    · have hb : (betterW p n.name acc (onW F s p n.name)).2 = true ∧ (betterW p n.name acc (onW F s p n.name)).1.holds.length ≤ acc.1.holds.length := by
        unfold betterW
        split
        · rename_i hb
          simp only [ha, Bool.and_eq_true, Bool.not_true, Bool.false_or, decide_eq_true_eq] at hb
          exact ⟨rfl, Nat.le_of_lt hb.2⟩
        · exact ⟨ha, Nat.le_refl _⟩
      obtain ⟨q1, q2⟩ := i2 hb.1
      exact ⟨q1, Nat.le_trans q2 hb.2⟩
    · rcases List.mem_cons.1 hx with rfl | hx
      · have hb : (betterW p x.name acc (onW F s p x.name)).2 = true ∧ (betterW p x.name acc (onW F s p x.name)).1.holds.length ≤ (onW F s p x.name).1.length := by
          unfold betterW
          split
          · exact ⟨rfl, Nat.le_refl _⟩
          · rename_i hb
            simp only [hw, Bool.true_and, Bool.or_eq_true, Bool.not_eq_true', decide_eq_true_eq, not_or, Bool.not_eq_false] at hb
            exact ⟨hb.1, by omega⟩
        obtain ⟨q1, q2⟩ := i2 hb.1
        exact ⟨q1, Nat.le_trans q2 hb.2⟩
      · exact i3 x hx hw
    · have hb : (betterW p n.name acc (onW F s p n.name)).2 = false := by
        cases hc : (betterW p n.name acc (onW F s p n.name)).2 with
        | false => rfl
        | true =>
          have hf' : (forGo F s p r (betterW p n.name acc (onW F s p n.name))).2 = false := hf
          rw [(i2 hc).1] at hf'; cases hf'
      show (forGo F s p r _).1 = acc.1
      rw [i4 hf]
      unfold betterW at hb ⊢
      split
      · rename_i hx
        rw [if_pos hx] at hb
        cases hb
      · rfl
theorem forW_says {F : FitF} {s : St} {p : Pd} (h : (forW F s p).2 = true) : ∃ n ∈ s.nodes, (forW F s p).1.to_ = n.name ∧ (forW F s p).1.pod = p.name ∧ onW F s p n.name = ((forW F s p).1.holds, true) := by
  unfold forW at *
  split at h
  · cases h
  · rename_i hp
    rw [if_neg hp]
    exact (forGo_says s.nodes (zWy, false) (fun h => by cases h) (fun _ h => h)).1 h
theorem forW_least {F : FitF} {s : St} {p : Pd} (hp : p.hold = false) {n : Nd} (hn : n ∈ s.nodes) (hw : (onW F s p n.name).2 = true) : (forW F s p).2 = true ∧ (forW F s p).1.holds.length ≤ (onW F s p n.name).1.length := by
  unfold forW
  rw [hp, if_neg (by decide)]
  exact (forGo_says s.nodes (zWy, false) (fun h => by cases h) (fun _ h => h)).2.1.2 n hn hw
end Go.Proofs.YtnmhicgbdalniaaGreatDoor
namespace Go.Proofs.YtnmhicgbdalniaaGreatDoor
open Go.RowKit

/-! Vectors: the plain law of their sums. -/
theorem rowsV_mk {α : Type} {f : α → Int} {nm : α → ByteArray} : ∀ {l : List α} {p : Option ByteArray}, (∀ x ∈ l, f x = 0) → l.Pairwise (fun a b => ltS (nm a) (nm b) = true) → (∀ q, p = some q → ∀ x ∈ l, ltS q (nm x) = true) → rowsV f nm p l = 0
  | [], _, _, _, _ => rfl
  | x :: r, p, h1, h2, h3 => by
    obtain ⟨k1, k2⟩ := List.pairwise_cons.1 h2
    have hl : tooLow p (nm x) = false := by
      cases p with
      | none => rfl
      | some q => show (!ltS q (nm x)) = false; rw [h3 q rfl x (List.mem_cons_self ..)]; rfl
    unfold rowsV
    rw [orV_r (h1 x (List.mem_cons_self ..)), hl, if_neg (by decide)]
    exact rowsV_mk (fun y hy => h1 y (List.mem_cons_of_mem _ hy)) k2 (fun q hq y hy => by injection hq with hq; subst hq; exact k1 y hy)
theorem nodup_length {α : Type} : ∀ {u v : List α}, u.Nodup → (∀ x ∈ u, x ∈ v) → u.length ≤ v.length
  | [], _, _, _ => Nat.zero_le _
  | x :: u, v, hn, hs => by
    obtain ⟨h1, h2⟩ := List.nodup_cons.1 hn
    obtain ⟨s, t, rfl⟩ := List.append_of_mem (hs x (List.mem_cons_self ..))
    have := nodup_length (v := s ++ t) h2 (fun y hy => by
      have := hs y (List.mem_cons_of_mem _ hy)
      rw [List.mem_append, List.mem_cons] at this
      rcases this with h | rfl | h
      · exact List.mem_append_left _ h
      · exact absurd hy h1
      · exact List.mem_append_right _ h)
    simp only [List.length_append, List.length_cons] at this ⊢
    omega
theorem ltS_tri {a b : ByteArray} (h1 : ¬ ltS a b = true) (h2 : ¬ ltS b a = true) : a = b := by
  unfold ltS at h1 h2
  simp only [decide_eq_true_eq] at h1 h2
  exact bs_inj (Std.le_antisymm (Std.not_lt.1 h2) (Std.not_lt.1 h1))
theorem up_nodup {l : List ByteArray} (h : l.Pairwise fun a b => ltS a b = true) : l.Nodup := List.Pairwise.imp (fun k => ltS_ne k) h
structure GoodV (v : List Amt) : Prop where
  len : v.length ≤ 8
  pos : ∀ x ∈ v, isName x.name = true ∧ 0 < x.n
  up : v.Pairwise fun a b => ltS a.name b.name = true
theorem amtV_zero (x : Amt) : amtV x = 0 ↔ isName x.name = true ∧ 0 < x.n := by
  unfold amtV
  cases isName x.name with
  | false => simp
  | true =>
    by_cases h : x.n ≤ 0
    · simp [h] <;> omega
    · simp [h] <;> omega
theorem vec_iff (v : List Amt) : checkVec v = 0 ↔ GoodV v := by
  constructor
  · intro h
    obtain ⟨h1, h2⟩ := manyV_zero h
    obtain ⟨h3, h4, -⟩ := rowsV_zero h2
    exact ⟨h1, fun x hx => (amtV_zero x).1 (h3 x hx), h4⟩
  · rintro ⟨h1, h2, h3⟩
    unfold checkVec manyV
    rw [if_neg (by omega)]
    exact rowsV_mk (fun x hx => (amtV_zero x).2 (h2 x hx)) h3 (fun q h => by cases h)
theorem goodV_nil : GoodV [] := ⟨by simp, fun x h => (by cases h), List.Pairwise.nil⟩
theorem getA_cons (y : Amt) (r : List Amt) (x : ByteArray) : getA (y :: r) x = if y.name = x then y.n else getA r x := rfl
theorem getA_none : ∀ {v : List Amt} {x : ByteArray}, (∀ y ∈ v, y.name ≠ x) → getA v x = 0
  | [], _, _ => rfl
  | y :: r, x, h => by
    unfold getA
    rw [if_neg (h y (List.mem_cons_self ..))]
    exact getA_none fun z hz => h z (List.mem_cons_of_mem _ hz)
theorem getA_mem : ∀ {v : List Amt}, v.Pairwise (fun a b => ltS a.name b.name = true) → ∀ y ∈ v, getA v y.name = y.n
  | x :: r, h, y, hy => by
    obtain ⟨h1, h2⟩ := List.pairwise_cons.1 h
    unfold getA
    rcases List.mem_cons.1 hy with rfl | hy
    · rw [if_pos rfl]
    · rw [if_neg (ltS_ne (h1 y hy))]
      exact getA_mem h2 y hy
theorem getA_some : ∀ {v : List Amt} {x : ByteArray}, getA v x ≠ 0 → ∃ y ∈ v, y.name = x
  | [], _, h => absurd rfl h
  | y :: r, x, h => by
    by_cases e : y.name = x
    · exact ⟨y, List.mem_cons_self .., e⟩
    · unfold getA at h
      rw [if_neg e] at h
      obtain ⟨z, hz, e⟩ := getA_some h
      exact ⟨z, List.mem_cons_of_mem _ hz, e⟩
theorem GoodV.nonneg {v : List Amt} (h : GoodV v) (x : ByteArray) : 0 ≤ getA v x := by
  by_cases e : getA v x = 0
  · omega
  · obtain ⟨y, hy, rfl⟩ := getA_some e
    rw [getA_mem h.up y hy]
    have := (h.pos y hy).2
    omega
theorem namesV_in (x : ByteArray) : ∀ a b : List Amt, x ∈ namesV a b ↔ x ∈ a.map (·.name) ∨ x ∈ b.map (·.name)
  | [], b => by rw [namesV_nil_l]; simp
  | y :: a, [] => by rw [namesV_nil_r]; simp
  | y :: a, z :: b => by
    rw [namesV]
    split
    · rw [List.mem_cons, namesV_in x a (z :: b), List.map_cons, List.map_cons, List.mem_cons, List.mem_cons]
      grind
    · split
      · rw [List.mem_cons, namesV_in x (y :: a) b, List.map_cons, List.map_cons, List.mem_cons, List.mem_cons]
        grind
      · rename_i h1 h2
        have := ltS_tri h1 h2
        rw [List.mem_cons, namesV_in x a b, List.map_cons, List.map_cons, List.mem_cons, List.mem_cons, ← this]
        grind
  termination_by a b => a.length + b.length
theorem namesV_rise : ∀ a b : List Amt, a.Pairwise (fun a b => ltS a.name b.name = true) → b.Pairwise (fun a b => ltS a.name b.name = true) → (namesV a b).Pairwise fun a b => ltS a b = true
  | [], b, _, h => by rw [namesV_nil_l, List.pairwise_map]; exact h
  | y :: a, [], h, _ => by rw [namesV_nil_r, List.pairwise_map]; exact h
  | y :: a, z :: b, h, k => by
    obtain ⟨h1, h2⟩ := List.pairwise_cons.1 h
    obtain ⟨k1, k2⟩ := List.pairwise_cons.1 k
    rw [namesV]
    split
    · rename_i hlt
      refine List.pairwise_cons.2 ⟨fun x hx => ?_, namesV_rise a (z :: b) h2 k⟩
      rcases (namesV_in x a (z :: b)).1 hx with hx | hx
      · obtain ⟨q, hq, rfl⟩ := List.mem_map.1 hx
        exact h1 q hq
      · obtain ⟨q, hq, rfl⟩ := List.mem_map.1 hx
        rcases List.mem_cons.1 hq with rfl | hq
        · exact hlt
        · exact ltS_trans hlt (k1 q hq)
    · split
      · rename_i hlt
        refine List.pairwise_cons.2 ⟨fun x hx => ?_, namesV_rise (y :: a) b h k2⟩
        rcases (namesV_in x (y :: a) b).1 hx with hx | hx
        · obtain ⟨q, hq, rfl⟩ := List.mem_map.1 hx
          rcases List.mem_cons.1 hq with rfl | hq
          · exact hlt
          · exact ltS_trans hlt (h1 q hq)
        · obtain ⟨q, hq, rfl⟩ := List.mem_map.1 hx
          exact k1 q hq
      · rename_i n1 n2
        have e := ltS_tri n1 n2
        refine List.pairwise_cons.2 ⟨fun x hx => ?_, namesV_rise a b h2 k2⟩
        rcases (namesV_in x a b).1 hx with hx | hx
        · obtain ⟨q, hq, rfl⟩ := List.mem_map.1 hx
          exact h1 q hq
        · obtain ⟨q, hq, rfl⟩ := List.mem_map.1 hx
          rw [e]; exact k1 q hq
  termination_by a b => a.length + b.length
def maxN : Int := 9223372036854775807
theorem addN_room {a b : Int} (h1 : 0 ≤ a) (h2 : 0 ≤ b) (h3 : a + b ≤ maxN) : addN a b = (a + b, 0) := by
  unfold addN
  unfold maxN at h3
  rw [if_neg (by omega), if_neg (by omega), if_neg (by omega)]
theorem addN_zero {a b : Int} (h : (addN a b).2 = 0) : 0 ≤ a ∧ 0 ≤ b ∧ a + b ≤ maxN := by
  unfold addN at h
  unfold maxN
  split at h
  · cases h
  · split at h
    · cases h
    · split at h
      · cases h
      · omega
theorem addL_ok (a b : List Amt) : ∀ (l : List ByteArray) (out : List Amt), (∀ x ∈ l, 0 ≤ getA a x ∧ 0 ≤ getA b x ∧ getA a x + getA b x ≤ maxN) → out.length + l.length ≤ 8 →
    addL a b l out = (out ++ l.map (fun x => ⟨x, getA a x + getA b x⟩), 0)
  | [], out, _, hl => by
    unfold addL
    rw [if_neg (by simp at hl; omega)]; simp
  | x :: r, out, h, hl => by
    obtain ⟨h1, h2, h3⟩ := h x (List.mem_cons_self ..)
    unfold addL
    rw [addN_room h1 h2 h3, if_neg (by simp), addL_ok a b r _ (fun y hy => h y (List.mem_cons_of_mem _ hy)) (by simp at hl ⊢; omega)]
    simp
theorem addL_zero (a b : List Amt) : ∀ (l : List ByteArray) (out : List Amt), (addL a b l out).2 = 0 → (∀ x ∈ l, 0 ≤ getA a x ∧ 0 ≤ getA b x ∧ getA a x + getA b x ≤ maxN) ∧ out.length + l.length ≤ 8
  | [], out, h => by
    unfold addL at h
    split at h
    · cases h
    · exact ⟨fun x hx => (by cases hx), by simp; omega⟩
  | x :: r, out, h => by
    unfold addL at h
    split at h
    · rename_i h0; exact absurd h h0
    · rename_i h0
      have h0 := Decidable.not_not.1 h0
      obtain ⟨i1, i2⟩ := addL_zero a b r _ h
      refine ⟨fun y hy => ?_, by simp at i2 ⊢; omega⟩
      rcases List.mem_cons.1 hy with rfl | hy
      · exact addN_zero h0
      · exact i1 y hy
def plusV (a b : List Amt) : List Amt := (namesV a b).map fun x => ⟨x, getA a x + getA b x⟩
structure Adds (a b : List Amt) : Prop where
  l : GoodV a
  r : GoodV b
  max : ∀ x, getA a x + getA b x ≤ maxN
  few : (namesV a b).length ≤ 8
theorem not_in {v : List Amt} {x : ByteArray} (h : ¬ x ∈ v.map (·.name)) : getA v x = 0 :=
  getA_none fun y hy e => h (by rw [← e]; exact List.mem_map_of_mem hy)
theorem Adds.add {a b : List Amt} (h : Adds a b) : addVec a b = (plusV a b, 0) := by
  unfold addVec
  rw [if_neg (fun k => k ((vec_iff a).2 h.l)), if_neg (fun k => k ((vec_iff b).2 h.r)), addL_ok a b _ _ (fun x _ => ⟨h.l.nonneg x, h.r.nonneg x, h.max x⟩) (by simpa using h.few)]
  rfl
theorem adds_of {a b : List Amt} (h : (addVec a b).2 = 0) : Adds a b := by
  unfold addVec at h
  split at h
  · rename_i k; exact absurd h k
  · split at h
    · rename_i k; exact absurd h k
    · rename_i k1 k2
      have g1 := (vec_iff a).1 (Decidable.not_not.1 k1)
      have g2 := (vec_iff b).1 (Decidable.not_not.1 k2)
      obtain ⟨i1, i2⟩ := addL_zero a b _ _ h
      refine ⟨g1, g2, fun x => ?_, by simpa using i2⟩
      by_cases hx : x ∈ namesV a b
      · exact (i1 x hx).2.2
      · rw [namesV_in, not_or] at hx
        rw [not_in hx.1, not_in hx.2]; unfold maxN; decide
theorem Adds.get {a b : List Amt} (h : Adds a b) (x : ByteArray) : getA (plusV a b) x = getA a x + getA b x := by
  classical
  have key : ∀ l : List ByteArray, l.Pairwise (fun a b => ltS a b = true) → getA (l.map fun x => (⟨x, getA a x + getA b x⟩ : Amt)) x = if x ∈ l then getA a x + getA b x else 0 := by
    intro l
    induction l with
    | nil => intro _; simp [getA]
    | cons y r ih =>
      intro hp
      obtain ⟨-, h2⟩ := List.pairwise_cons.1 hp
      rw [List.map_cons, getA_cons]
      by_cases e : y = x
      · subst e
        rw [if_pos rfl, if_pos (List.mem_cons_self ..)]
      · rw [if_neg e, ih h2]
        by_cases k : x ∈ r
        · rw [if_pos k, if_pos (List.mem_cons_of_mem _ k)]
        · rw [if_neg k, if_neg (by rw [List.mem_cons, not_or]; exact ⟨Ne.symm e, k⟩)]
  unfold plusV
  rw [key _ (namesV_rise a b h.l.up h.r.up)]
  split
  · rfl
  · rename_i hx
    rw [namesV_in, not_or] at hx
    rw [not_in hx.1, not_in hx.2]; rfl
theorem Adds.good {a b : List Amt} (h : Adds a b) : GoodV (plusV a b) := by
  unfold plusV
  refine ⟨by rw [List.length_map]; exact h.few, fun y hy => ?_, ?_⟩
  · obtain ⟨x, hx, rfl⟩ := List.mem_map.1 hy
    have h1 := h.l.nonneg x
    have h2 := h.r.nonneg x
    rcases (namesV_in x a b).1 hx with hx | hx
    · obtain ⟨q, hq, rfl⟩ := List.mem_map.1 hx
      refine ⟨(h.l.pos q hq).1, ?_⟩
      have := (h.l.pos q hq).2
      show 0 < getA a q.name + _
      rw [getA_mem h.l.up q hq]; omega
    · obtain ⟨q, hq, rfl⟩ := List.mem_map.1 hx
      refine ⟨(h.r.pos q hq).1, ?_⟩
      have := (h.r.pos q hq).2
      show 0 < _ + getA b q.name
      rw [getA_mem h.r.up q hq]; omega
  · rw [List.pairwise_map]
    exact namesV_rise a b h.l.up h.r.up
/-! Sums over a list. -/
section
variable {α : Type} (f : α → List Amt)
def tot : List α → ByteArray → Int
  | [], _ => 0
  | y :: r, x => getA (f y) x + tot r x
theorem tot_nonneg : ∀ (l : List α), (∀ y ∈ l, GoodV (f y)) → ∀ x, 0 ≤ tot f l x
  | [], _, _ => Int.le_refl _
  | y :: r, h, x => by
    have h1 := (h y (List.mem_cons_self ..)).nonneg x
    have h2 := tot_nonneg r (fun z hz => h z (List.mem_cons_of_mem _ hz)) x
    show 0 ≤ getA (f y) x + tot f r x
    omega
theorem tot_mem : ∀ (l : List α), (∀ y ∈ l, GoodV (f y)) → ∀ y ∈ l, ∀ x, getA (f y) x ≤ tot f l x
  | z :: r, h, y, hy, x => by
    have h1 := (h z (List.mem_cons_self ..)).nonneg x
    have h2 := tot_nonneg f r (fun z hz => h z (List.mem_cons_of_mem _ hz)) x
    show _ ≤ getA (f z) x + tot f r x
    rcases List.mem_cons.1 hy with rfl | hy
    · omega
    · have := tot_mem r (fun z hz => h z (List.mem_cons_of_mem _ hz)) y hy x
      omega
theorem tot_sub {l l' : List α} (hs : l'.Sublist l) : (∀ y ∈ l, GoodV (f y)) → ∀ x, tot f l' x ≤ tot f l x := by
  induction hs with
  | slnil => exact fun _ _ => Int.le_refl _
  | cons y _ ih =>
    intro h x
    have h1 := (h y (List.mem_cons_self ..)).nonneg x
    have := ih (fun z hz => h z (List.mem_cons_of_mem _ hz)) x
    show _ ≤ getA (f y) x + tot f _ x
    omega
  | cons_cons y _ ih =>
    intro h x
    have := ih (fun z hz => h z (List.mem_cons_of_mem _ hz)) x
    show getA (f y) x + tot f _ x ≤ getA (f y) x + tot f _ x
    omega
theorem tot_perm {l k : List α} (h : l.Perm k) (x : ByteArray) : tot f l x = tot f k x := by
  induction h with
  | nil => rfl
  | cons y _ ih => show getA (f y) x + _ = getA (f y) x + _; rw [ih]
  | swap y z r => show getA (f z) x + (getA (f y) x + _) = getA (f y) x + (getA (f z) x + _); omega
  | trans _ _ h1 h2 => exact h1.trans h2
theorem sumV_zero : ∀ (l : List α) (v : List Amt), GoodV v → (∀ x, getA v x ≤ maxN) → (sumV f l v).2 = 0 → (∀ y ∈ l, GoodV (f y)) ∧ GoodV (sumV f l v).1 ∧ (∀ x, getA (sumV f l v).1 x = getA v x + tot f l x) ∧ ∀ x, getA v x + tot f l x ≤ maxN
  | [], v, hv, hm, _ => ⟨fun y hy => (by cases hy), hv, fun x => (Int.add_zero _).symm, fun x => by show _ + 0 ≤ _; rw [Int.add_zero]; exact hm x⟩
  | y :: r, v, hv, hm, h => by
    unfold sumV at h ⊢
    split at h
    · rename_i k; exact absurd h k
    · rename_i k
      rw [if_neg k]
      have ha := adds_of (Decidable.not_not.1 k)
      rw [ha.add] at h ⊢
      obtain ⟨i1, i2, i3, i4⟩ := sumV_zero r (plusV v (f y)) ha.good (fun x => by rw [ha.get]; exact ha.max x) h
      refine ⟨fun z hz => ?_, i2, fun x => ?_, fun x => ?_⟩
      · rcases List.mem_cons.1 hz with rfl | hz
        · exact ha.r
        · exact i1 z hz
      · rw [i3, ha.get]
        show _ = _ + (getA (f y) x + tot f r x)
        omega
      · have := i4 x
        rw [ha.get] at this
        show _ + (getA (f y) x + tot f r x) ≤ _
        omega
theorem names_few {a b : List Amt} (ha : GoodV a) (hb : GoodV b) {U : List ByteArray} (h1 : ∀ z ∈ a, z.name ∈ U) (h2 : ∀ z ∈ b, z.name ∈ U) : (namesV a b).length ≤ U.length :=
  nodup_length (up_nodup (namesV_rise a b ha.up hb.up)) fun x hx => by
    rcases (namesV_in x a b).1 hx with hx | hx
    · obtain ⟨q, hq, rfl⟩ := List.mem_map.1 hx
      exact h1 q hq
    · obtain ⟨q, hq, rfl⟩ := List.mem_map.1 hx
      exact h2 q hq
theorem sumV_ok {U : List ByteArray} (hU : U.length ≤ 8) : ∀ (l : List α) (v : List Amt), GoodV v → (∀ y ∈ l, GoodV (f y)) → (∀ z ∈ v, z.name ∈ U) → (∀ y ∈ l, ∀ z ∈ f y, z.name ∈ U) → (∀ x, getA v x + tot f l x ≤ maxN) → (sumV f l v).2 = 0
  | [], _, _, _, _, _, _ => rfl
  | y :: r, v, hv, hf, u1, u2, hm => by
    have hy := hf y (List.mem_cons_self ..)
    have hr : ∀ z ∈ r, GoodV (f z) := fun z hz => hf z (List.mem_cons_of_mem _ hz)
    have ha : Adds v (f y) := ⟨hv, hy, fun x => by
      have h1 : getA v x + (getA (f y) x + tot f r x) ≤ maxN := hm x
      have h2 := tot_nonneg f r hr x
      omega, Nat.le_trans (names_few hv hy u1 (u2 y (List.mem_cons_self ..))) hU⟩
    unfold sumV
    rw [ha.add, if_neg (by simp)]
    refine sumV_ok hU r _ ha.good hr (fun z hz => ?_) (fun z hz => u2 z (List.mem_cons_of_mem _ hz)) (fun x => ?_)
    · obtain ⟨x, hx, rfl⟩ := List.mem_map.1 hz
      rcases (namesV_in x v (f y)).1 hx with hx | hx
      · obtain ⟨q, hq, rfl⟩ := List.mem_map.1 hx
        exact u1 q hq
      · obtain ⟨q, hq, rfl⟩ := List.mem_map.1 hx
        exact u2 y (List.mem_cons_self ..) q hq
    · rw [ha.get]
      have h1 : getA v x + (getA (f y) x + tot f r x) ≤ maxN := hm x
      omega
end
theorem fits_iff {need h : List Amt} (hn : GoodV need) (hh : ∀ x, 0 ≤ getA h x) : fitsV need h = true ↔ ∀ x, getA need x ≤ getA h x := by
  unfold fitsV
  rw [List.all_eq_true]
  constructor
  · intro k x
    by_cases e : getA need x = 0
    · rw [e]; exact hh x
    · obtain ⟨y, hy, rfl⟩ := getA_some e
      rw [getA_mem hn.up y hy]
      exact of_decide_eq_true (k y hy)
  · intro k y hy
    have := k y.name
    rw [getA_mem hn.up y hy] at this
    exact decide_eq_true this
/-! What is left. -/
theorem subN_room {a b : Int} (h2 : 0 ≤ b) (h3 : b ≤ a) : subN a b = (a - b, 0) := by
  unfold subN
  rw [if_neg (by omega), if_neg (by omega), if_neg (by omega)]
theorem subL_ok (a b : List Amt) : ∀ (l : List ByteArray) (out : List Amt), (∀ x ∈ l, 0 ≤ getA b x ∧ getA b x ≤ getA a x) →
    out.length + (l.filter fun x => decide (0 < getA a x - getA b x)).length ≤ 8 →
    subL a b l out = (out ++ (l.filter fun x => decide (0 < getA a x - getA b x)).map (fun x => ⟨x, getA a x - getA b x⟩), 0)
  | [], out, _, hl => by
    unfold subL
    rw [if_neg (by simp at hl; omega)]; simp
  | x :: r, out, h, hl => by
    obtain ⟨h1, h2⟩ := h x (List.mem_cons_self ..)
    unfold subL
    rw [subN_room h1 h2, if_neg (by simp)]
    simp only
    by_cases hp : 0 < getA a x - getA b x
    · rw [List.filter_cons_of_pos (by simpa using hp)] at hl ⊢
      rw [if_pos hp, subL_ok a b r _ (fun y hy => h y (List.mem_cons_of_mem _ hy)) (by simp at hl ⊢; omega)]
      simp
    · rw [List.filter_cons_of_neg (by simpa using hp)] at hl ⊢
      rw [if_neg hp, subL_ok a b r _ (fun y hy => h y (List.mem_cons_of_mem _ hy)) hl]
def lessV (a b : List Amt) : List Amt := ((namesV a b).filter fun x => decide (0 < getA a x - getA b x)).map fun x => ⟨x, getA a x - getA b x⟩
theorem sub_ok {a b : List Amt} (ha : GoodV a) (hb : GoodV b) (h : ∀ x, getA b x ≤ getA a x) : subVec a b = (lessV a b, 0) ∧ ∀ x, getA (lessV a b) x = getA a x - getA b x := by
  have hlen : ((namesV a b).filter fun x => decide (0 < getA a x - getA b x)).length ≤ 8 := by
    refine Nat.le_trans (nodup_length (v := a.map (·.name)) ((up_nodup (namesV_rise a b ha.up hb.up)).sublist List.filter_sublist) fun x hx => ?_) (by rw [List.length_map]; exact ha.len)
    obtain ⟨-, h2⟩ := List.mem_filter.1 hx
    have h2 := of_decide_eq_true h2
    have h3 := hb.nonneg x
    obtain ⟨y, hy, rfl⟩ := getA_some (v := a) (x := x) (by omega)
    exact List.mem_map_of_mem hy
  constructor
  · unfold subVec
    rw [if_neg (fun k => k ((vec_iff a).2 ha)), if_neg (fun k => k ((vec_iff b).2 hb)), subL_ok a b _ _ (fun x _ => ⟨hb.nonneg x, h x⟩) (by simpa using hlen)]
    rfl
  · intro x
    classical
    have key : ∀ l : List ByteArray, getA ((l.filter fun x => decide (0 < getA a x - getA b x)).map fun x => (⟨x, getA a x - getA b x⟩ : Amt)) x = if x ∈ l then getA a x - getA b x else 0 := by
      intro l
      induction l with
      | nil => simp [getA]
      | cons y r ih =>
        by_cases e : y = x
        · subst e
          by_cases hp : 0 < getA a y - getA b y
          · rw [List.filter_cons_of_pos (by simpa using hp), List.map_cons, getA_cons]
            rw [if_pos rfl, if_pos (List.mem_cons_self ..)]
          · rw [List.filter_cons_of_neg (by simpa using hp), ih, if_pos (List.mem_cons_self ..)]
            have := h y
            split <;> omega
        · have e2 : (x ∈ y :: r) ↔ x ∈ r := by rw [List.mem_cons]; exact ⟨fun k => k.resolve_left (Ne.symm e), .inr⟩
          by_cases hp : 0 < getA a y - getA b y
          · rw [List.filter_cons_of_pos (by simpa using hp), List.map_cons, getA_cons]
            rw [if_neg e, ih]
            simp only [e2]
          · rw [List.filter_cons_of_neg (by simpa using hp), ih]
            simp only [e2]
    unfold lessV
    rw [key]
    split
    · rfl
    · rename_i hx
      rw [namesV_in, not_or] at hx
      rw [not_in hx.1, not_in hx.2]; rfl
end Go.Proofs.YtnmhicgbdalniaaGreatDoor
namespace Go.Proofs.YtnmhicgbdalniaaGreatDoor
open Go.RowKit

/-! A sound cluster: the plain law; what keeps it sound. -/
abbrev UpN {α : Type} (nm : α → ByteArray) (l : List α) : Prop := l.Pairwise fun a b => ltS (nm a) (nm b) = true
def onAt (s : St) (name : ByteArray) : List Pd := s.pods.filter (onB name)
structure Sound (s : St) : Prop where
  nlen : s.nodes.length ≤ 32
  nok : ∀ n ∈ s.nodes, checkNode n = 0
  nup : UpN Nd.name s.nodes
  plen : s.pods.length ≤ 128
  pok : ∀ p ∈ s.pods, checkPod p = 0
  pup : UpN Pd.name s.pods
  bok : checkBudgets s.budgets = 0
  there : ∀ p ∈ s.pods, podV s p = 0
  room : ∀ n ∈ s.nodes, ∀ x, tot Pd.need (onAt s n.name) x ≤ getA n.cap x
  total : (totalV s).2 = 0
theorem firstV_zero {α : Type} {f : α → Int} : ∀ {l : List α}, firstV f l = 0 ↔ ∀ x ∈ l, f x = 0
  | [] => ⟨fun _ x h => (by cases h), fun _ => rfl⟩
  | x :: r => by
    unfold firstV
    constructor
    · intro h
      obtain ⟨h1, h2⟩ := orV_zero h
      intro y hy
      rcases List.mem_cons.1 hy with rfl | hy
      · exact h1
      · exact firstV_zero.1 h2 y hy
    · intro h
      rw [orV_r (h x (List.mem_cons_self ..))]
      exact firstV_zero.2 fun y hy => h y (List.mem_cons_of_mem _ hy)
theorem manyV_mk {α : Type} {lim : Nat} {l : List α} {n : Int} (h : l.length ≤ lim) (hn : n = 0) : manyV lim l n = 0 := by
  unfold manyV
  rw [if_neg (by omega)]; exact hn
theorem node_cap {n : Nd} (h : checkNode n = 0) : GoodV n.cap := by
  unfold checkNode at h
  exact (vec_iff _).1 (orV_zero (orV_zero h).2).1
theorem node_name {n : Nd} (h : checkNode n = 0) : isName n.name = true := by
  unfold checkNode at h
  have := (orV_zero h).1
  cases hv : isName n.name with
  | true => rfl
  | false => rw [hv] at this; cases this
theorem pod_need {p : Pd} (h : checkPod p = 0) : GoodV p.need := by
  unfold checkPod at h
  exact (vec_iff _).1 (orV_zero (orV_zero (orV_zero (orV_zero h).2).2).2).1
theorem pod_at {p : Pd} {name : ByteArray} (h : checkPod p = 0) (hn : maybeV name = 0) : checkPod { p with node := name } = 0 := by
  unfold checkPod at *
  obtain ⟨h1, h⟩ := orV_zero h
  obtain ⟨h2, h⟩ := orV_zero h
  obtain ⟨h3, h⟩ := orV_zero h
  obtain ⟨h4, h⟩ := orV_zero h
  obtain ⟨h5, h⟩ := orV_zero h
  obtain ⟨h6, h⟩ := orV_zero h
  obtain ⟨h7, h⟩ := orV_zero h
  obtain ⟨h8, h⟩ := orV_zero h
  obtain ⟨h9, h⟩ := orV_zero h
  rw [orV_r h1, orV_r h2, orV_r (show prioV { p with node := name } = 0 from h3), orV_r h4, orV_r h5, orV_r h6, orV_r h7, orV_r h8, orV_r (show mostV { p with node := name } = 0 from h9)]
  exact hn
theorem find_up : ∀ {l : List Nd}, UpN Nd.name l → ∀ n ∈ l, findV l n.name = (n, true)
  | m :: r, h, n, hn => by
    obtain ⟨h1, h2⟩ := List.pairwise_cons.1 h
    unfold findV
    rcases List.mem_cons.1 hn with rfl | hn
    · rw [if_pos rfl]
    · rw [if_neg (ltS_ne (h1 n hn))]
      exact find_up h2 n hn
theorem find_is : ∀ {l : List Nd} {k : ByteArray}, (findV l k).2 = true → (findV l k).1.name = k
  | n :: r, k, h => by
    unfold findV at *
    by_cases e : n.name = k
    · rw [if_pos e]; exact e
    · rw [if_neg e] at h ⊢; exact find_is h
theorem find_has {l : List Nd} {k : ByteArray} : (findV l k).2 = true ↔ ∃ n ∈ l, n.name = k := by
  constructor
  · exact fun h => ⟨_, findV_mem h, find_is h⟩
  · rintro ⟨n, hn, rfl⟩
    induction l with
    | nil => cases hn
    | cons m r ih =>
      unfold findV
      by_cases e : m.name = n.name
      · rw [if_pos e]
      · rw [if_neg e]
        rcases List.mem_cons.1 hn with rfl | hn
        · exact absurd rfl e
        · exact ih hn
theorem cap_max {l : List Nd} (h : (sumV Nd.cap l []).2 = 0) : ∀ n ∈ l, ∀ x, getA n.cap x ≤ maxN := by
  obtain ⟨h1, -, -, h4⟩ := sumV_zero Nd.cap l [] goodV_nil (fun x => by show (0 : Int) ≤ maxN; unfold maxN; decide) h
  intro n hn x
  have := h4 x
  have := tot_mem Nd.cap l h1 n hn x
  have h0 : getA ([] : List Amt) x = 0 := rfl
  omega
/-- What is in use on a node: sums. -/
theorem used_says {s : St} {n : Nd} (hf : findV s.nodes n.name = (n, true)) (hc : GoodV n.cap) (hm : ∀ x, getA n.cap x ≤ maxN) :
    roomV s n = 0 ↔ (∀ p ∈ onAt s n.name, GoodV p.need) ∧ ∀ x, tot Pd.need (onAt s n.name) x ≤ getA n.cap x := by
  have hu : usedV s n.name = sumV Pd.need (onAt s n.name) [] := by
    unfold usedV
    rw [hf]; rfl
  have h0 : ∀ x, getA ([] : List Amt) x ≤ maxN := fun x => by show (0 : Int) ≤ maxN; unfold maxN; decide
  unfold roomV
  rw [hu]
  constructor
  · intro h
    obtain ⟨h1, h2⟩ := orV_zero h
    obtain ⟨i1, i2, i3, -⟩ := sumV_zero Pd.need _ [] goodV_nil h0 h1
    refine ⟨i1, fun x => ?_⟩
    cases hft : fitsV (sumV Pd.need (onAt s n.name) []).1 n.cap with
    | false => rw [hft] at h2; cases h2
    | true =>
      have := (fits_iff i2 (fun x => hc.nonneg x)).1 hft x
      rw [i3] at this
      have h0 : getA ([] : List Amt) x = 0 := rfl
      omega
  · rintro ⟨h1, h2⟩
    have hz : (sumV Pd.need (onAt s n.name) []).2 = 0 := sumV_ok Pd.need (U := n.cap.map (·.name)) (by rw [List.length_map]; exact hc.len) _ [] goodV_nil h1 (fun z hz => by cases hz) (fun p hp z hz => by
      have g := h1 p hp
      have k1 := tot_mem Pd.need _ h1 p hp z.name
      have k2 := h2 z.name
      rw [getA_mem g.up z hz] at k1
      have k3 := (g.pos z hz).2
      obtain ⟨y, hy, e⟩ := getA_some (v := n.cap) (x := z.name) (by omega)
      rw [← e]; exact List.mem_map_of_mem hy) (fun x => by
      have := h2 x
      have := hm x
      have h0 : getA ([] : List Amt) x = 0 := rfl
      omega)
    obtain ⟨i1, i2, i3, -⟩ := sumV_zero Pd.need _ [] goodV_nil h0 hz
    rw [orV_r hz]
    have : fitsV (sumV Pd.need (onAt s n.name) []).1 n.cap = true := (fits_iff i2 (fun x => hc.nonneg x)).2 fun x => by
      rw [i3]
      have h0 : getA ([] : List Amt) x = 0 := rfl
      have := h2 x
      omega
    rw [this]; rfl
theorem sound_iff (s : St) : checkSt s = 0 ↔ Sound s := by
  unfold checkSt
  constructor
  · intro h
    obtain ⟨h1, h⟩ := orV_zero h
    obtain ⟨h2, h⟩ := orV_zero h
    obtain ⟨h3, h⟩ := orV_zero h
    obtain ⟨h4, h⟩ := orV_zero h
    obtain ⟨h5, h6⟩ := orV_zero h
    obtain ⟨a1, a2⟩ := manyV_zero h1
    obtain ⟨a2, a3, -⟩ := rowsV_zero a2
    obtain ⟨b1, b2⟩ := manyV_zero h2
    obtain ⟨b2, b3, -⟩ := rowsV_zero b2
    refine ⟨a1, a2, a3, b1, b2, b3, h3, firstV_zero.1 h4, fun n hn => ?_, h6⟩
    exact ((used_says (find_up a3 n hn) (node_cap (a2 n hn)) (cap_max h6 n hn)).1 (firstV_zero.1 h5 n hn)).2
  · rintro ⟨a1, a2, a3, b1, b2, b3, h3, h4, h5, h6⟩
    rw [orV_r (show checkNodes s.nodes = 0 from manyV_mk a1 (rowsV_mk a2 a3 (fun q h => by cases h))), orV_r (show checkPods s.pods = 0 from manyV_mk b1 (rowsV_mk b2 b3 (fun q h => by cases h))), orV_r h3, orV_r (firstV_zero.2 h4),
      orV_r (firstV_zero.2 fun n hn => (used_says (find_up a3 n hn) (node_cap (a2 n hn)) (cap_max h6 n hn)).2 ⟨fun p hp => pod_need (b2 p (List.mem_filter.1 hp).1), h5 n hn⟩)]
    exact h6
theorem Sound.needs {s : St} (h : Sound s) (name : ByteArray) : ∀ p ∈ onAt s name, GoodV p.need := fun p hp => pod_need (h.pok p (List.mem_filter.1 hp).1)
theorem Sound.apart {s : St} (h : Sound s) : Apart s.pods := List.Pairwise.imp (fun k => ltS_ne k) h.pup
theorem Sound.find {s : St} (h : Sound s) {n : Nd} (hn : n ∈ s.nodes) : findV s.nodes n.name = (n, true) := find_up h.nup n hn
theorem Sound.capm {s : St} (h : Sound s) {n : Nd} (hn : n ∈ s.nodes) : ∀ x, getA n.cap x ≤ maxN := cap_max h.total n hn
/-- What is left on a node: differences. -/
theorem Sound.free {s : St} (h : Sound s) {n : Nd} (hn : n ∈ s.nodes) : ∃ v, freeV s n.name = (v, 0) ∧ ∀ x, getA v x = getA n.cap x - tot Pd.need (onAt s n.name) x := by
  have hr := (used_says (h.find hn) (node_cap (h.nok n hn)) (h.capm hn)).2 ⟨h.needs _, h.room n hn⟩
  unfold roomV at hr
  have hz := (orV_zero hr).1
  have hu : usedV s n.name = sumV Pd.need (onAt s n.name) [] := by
    unfold usedV
    rw [h.find hn]; rfl
  rw [hu] at hz
  obtain ⟨-, i2, i3, -⟩ := sumV_zero Pd.need _ [] goodV_nil (fun x => by show (0 : Int) ≤ maxN; unfold maxN; decide) hz
  have i4 : ∀ x, getA (sumV Pd.need (onAt s n.name) []).1 x = tot Pd.need (onAt s n.name) x := fun x => by
    rw [i3]
    have h0 : getA ([] : List Amt) x = 0 := rfl
    omega
  obtain ⟨j1, j2⟩ := sub_ok (node_cap (h.nok n hn)) i2 (fun x => by rw [i4]; exact h.room n hn x)
  refine ⟨_, ?_, fun x => by rw [j2, i4]⟩
  unfold freeV
  rw [hu, if_neg (fun k => k hz), h.find hn]
  exact j1
theorem onAt_sub {s : St} {l : List Pd} (h : l.Sublist s.pods) (name : ByteArray) : (l.filter (onB name)).Sublist (onAt s name) := h.filter _
/-- Fewer pods: sound still. -/
theorem Sound.fewer {s : St} (h : Sound s) {l : List Pd} (hl : l.Sublist s.pods) : Sound { s with pods := l } where
  nlen := h.nlen
  nok := h.nok
  nup := h.nup
  plen := Nat.le_trans hl.length_le h.plen
  pok := fun p hp => h.pok p (hl.subset hp)
  pup := h.pup.sublist hl
  bok := h.bok
  there := fun p hp => h.there p (hl.subset hp)
  room := fun n hn x => Int.le_trans (tot_sub Pd.need (onAt_sub hl n.name) (h.needs _) x) (h.room n hn x)
  total := h.total
theorem Sound.drop {s : St} (h : Sound s) (name : ByteArray) : Sound (dropS s name) := h.fewer List.filter_sublist
theorem Sound.drops {s : St} (h : Sound s) : ∀ l : List ByteArray, Sound (l.foldl dropS s) := by
  intro l
  induction l generalizing s with
  | nil => exact h
  | cons a r ih => exact ih (h.drop a)
/-- Where a pod fits there is room for it. -/
theorem fitD_says {s : St} {p : Pd} {name : ByteArray} (h : fitD s p name = 0) : (findV s.nodes name).2 = true ∧ (!(findV s.nodes name).1.cordon && matchV p.sel (findV s.nodes name).1.labels) = true ∧ (worstV p.tols (findV s.nodes name).1.taints).2 = false ∧ skewOk s p name = true ∧ (freeV s name).2 = 0 ∧ fitsV p.need (freeV s name).1 = true := by
  unfold fitD at h
  split at h
  · cases h
  · rename_i h1
    split at h
    · cases h
    · rename_i h2
      split at h
      · cases h
      · rename_i h3
        split at h
        · cases h
        · rename_i h4
          split at h
          · cases h
          · rename_i h5
            simp only [Bool.not_eq_false, Bool.and_eq_true, decide_eq_true_eq, Bool.not_eq_true] at h1 h2 h3 h4 h5
            exact ⟨h1, by rw [Bool.and_eq_true]; exact h2, h3, h4, h5.1, h5.2⟩
theorem fitD_mk {s : St} {p : Pd} {name : ByteArray} (h1 : (findV s.nodes name).2 = true) (h2 : (!(findV s.nodes name).1.cordon && matchV p.sel (findV s.nodes name).1.labels) = true) (h3 : (worstV p.tols (findV s.nodes name).1.taints).2 = false) (h4 : skewOk s p name = true) (h5 : (freeV s name).2 = 0)
    (h6 : fitsV p.need (freeV s name).1 = true) : fitD s p name = 0 := by
  unfold fitD
  rw [h1, h2, h3, h4, h5, h6]; rfl
theorem fit_room {s : St} {p : Pd} {name : ByteArray} (hs : Sound s) (hp : GoodV p.need) (h : fitV s p name = 0) :
    ∃ n ∈ s.nodes, n.name = name ∧ ∀ x, tot Pd.need (onAt (dropS s p.name) name) x + getA p.need x ≤ getA n.cap x := by
  obtain ⟨h1, -, -, -, h5, h6⟩ := fitD_says (show fitD (dropS s p.name) p name = 0 from h)
  obtain ⟨n, hn, rfl⟩ := find_has.1 h1
  refine ⟨n, hn, rfl, fun x => ?_⟩
  have hd := hs.drop p.name
  obtain ⟨v, e, hv⟩ := hd.free (n := n) hn
  rw [e] at h6
  have := (fits_iff hp (fun x => by rw [hv]; have := hd.room n hn x; omega)).1 h6 x
  rw [hv] at this
  omega
/-- A pod that is moved where there is room for it. -/
theorem move_at (s : St) (name to_ m : ByteArray) (ha : Apart s.pods) {p : Pd} (hp : p ∈ s.pods) (hn : p.name = name) (x : ByteArray) :
    tot Pd.need (onAt (moveS s name to_) m) x = tot Pd.need (onAt (dropS s name) m) x + (if to_ = m then getA p.need x else 0) := by
  unfold onAt moveS dropS isNm
  simp only
  generalize s.pods = l at *
  induction l with
  | nil => cases hp
  | cons q r ih =>
    obtain ⟨a1, a2⟩ := List.pairwise_cons.1 ha
    rw [List.map_cons]
    by_cases e : q.name = name
    · have hpq : p = q := apart_one ha p hp q (List.mem_cons_self ..) (hn.trans e.symm)
      subst hpq
      have hr : r.map (fun p => if p.name = name then { p with node := to_ } else p) = r := by
        conv => rhs; rw [← List.map_id r]
        refine List.map_congr_left fun z hz => ?_
        rw [if_neg (fun k => a1 z hz (e.trans k.symm))]; rfl
      have hf : r.filter (fun p => !decide (p.name = name)) = r := List.filter_eq_self.2 fun z hz => by
        have : ¬ z.name = name := fun k => a1 z hz (e.trans k.symm)
        simp [this]
      rw [hr, if_pos e, List.filter_cons_of_neg (p := fun p : Pd => !decide (p.name = name)) (by simp [e]), hf]
      by_cases k : to_ = m
      · rw [if_pos k, List.filter_cons_of_pos (by simp [onB, k])]
        show getA p.need x + _ = _
        omega
      · rw [if_neg k, List.filter_cons_of_neg (by simp [onB, k])]
        omega
    · rw [if_neg e]
      have hp' : p ∈ r := by
        rcases List.mem_cons.1 hp with rfl | h
        · exact absurd hn e
        · exact h
      have i := ih a2 hp'
      rw [List.filter_cons_of_pos (p := fun p : Pd => !decide (p.name = name)) (by simp [e])]
      by_cases k : onB m q = true
      · rw [List.filter_cons_of_pos k, List.filter_cons_of_pos k]
        show getA q.need x + _ = getA q.need x + _ + _
        omega
      · rw [List.filter_cons_of_neg k, List.filter_cons_of_neg k]
        exact i
theorem name_maybe {name : ByteArray} (h : isName name = true) : maybeV name = 0 := by
  unfold maybeV
  rw [if_neg]
  rintro ⟨-, h2⟩
  rw [h] at h2; cases h2
theorem Sound.move {s : St} (h : Sound s) {name : ByteArray} {n : Nd} (hn : n ∈ s.nodes) {p : Pd} (hp : p ∈ s.pods) (hpn : p.name = name)
    (hr : ∀ x, tot Pd.need (onAt (dropS s name) n.name) x + getA p.need x ≤ getA n.cap x) : Sound (moveS s name n.name) where
  nlen := h.nlen
  nok := h.nok
  nup := h.nup
  plen := by show (List.map _ _).length ≤ _; rw [List.length_map]; exact h.plen
  pok := fun q hq => by
    obtain ⟨z, hz, rfl⟩ := List.mem_map.1 hq
    split
    · exact pod_at (h.pok z hz) (name_maybe (node_name (h.nok n hn)))
    · exact h.pok z hz
  pup := by
    show List.Pairwise _ (List.map _ _)
    rw [List.pairwise_map]
    refine List.Pairwise.imp (fun {a b} k => ?_) h.pup
    have e : ∀ a : Pd, (if a.name = name then { a with node := n.name } else a).name = a.name := fun a => by split <;> rfl
    rw [e, e]; exact k
  bok := h.bok
  there := fun q hq => by
    obtain ⟨z, hz, rfl⟩ := List.mem_map.1 hq
    split
    · unfold podV
      rw [if_neg]
      rintro ⟨-, h2⟩
      rw [show (findV (moveS s name n.name).nodes n.name) = (n, true) from h.find hn] at h2
      cases h2
    · exact h.there z hz
  room := fun m hm x => by
    rw [move_at s name n.name m.name h.apart hp hpn x]
    by_cases e : n.name = m.name
    · rw [if_pos e]
      have hnm : n = m := by
        have h1 := h.find hn
        rw [e, h.find hm] at h1
        injection h1 with h1 _
        exact h1.symm
      subst hnm
      exact hr x
    · rw [if_neg e]
      have := (h.drop name).room m hm x
      omega
  total := h.total
theorem Sound.moveFit {s : St} (h : Sound s) {p : Pd} (hp : p ∈ s.pods) {to_ : ByteArray} (hf : fitV s p to_ = 0) : Sound (moveS s p.name to_) := by
  obtain ⟨n, hn, rfl, hr⟩ := fit_room h (pod_need (h.pok p hp)) hf
  exact h.move hn hp rfl hr
end Go.Proofs.YtnmhicgbdalniaaGreatDoor
