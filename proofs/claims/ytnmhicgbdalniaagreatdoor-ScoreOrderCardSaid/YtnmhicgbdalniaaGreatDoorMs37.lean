import Derived.Test.YtnmhicgbdalniaaGreatDoorMs21
import Derived.Test.YtnmhicgbdalniaaGreatDoorMs34
import Derived.Test.YtnmhicgbdalniaaGreatDoorMs35
import Derived.Test.YtnmhicgbdalniaaGreatDoorMs36
namespace Go.Proofs.YtnmhicgbdalniaaGreatDoor
open Go.RowKit

/-! A pod put in; a way that is gone: the plain law. -/
def insN (p : Pd) : List Pd → List Pd
  | [] => [p]
  | x :: r => if ltS x.name p.name = true then x :: insN p r else p :: x :: r
def putS (s : St) (p : Pd) : St := { s with pods := insN p (dropS s p.name).pods }
theorem insN_perm (p : Pd) : ∀ l, (insN p l).Perm (p :: l)
  | [] => List.Perm.refl _
  | x :: r => by
    unfold insN
    split
    · exact ((insN_perm p r).cons x).trans (List.Perm.swap p x r)
    · exact List.Perm.refl _
theorem insN_up (p : Pd) : ∀ l, UpN Pd.name l → (∀ x ∈ l, x.name ≠ p.name) → UpN Pd.name (insN p l)
  | [], _, _ => by simp [insN, UpN]
  | x :: r, h, hne => by
    obtain ⟨h1, h2⟩ := List.pairwise_cons.1 h
    unfold insN
    split
    · rename_i hlt
      refine List.pairwise_cons.2 ⟨fun y hy => ?_, insN_up p r h2 (fun y hy => hne y (List.mem_cons_of_mem _ hy))⟩
      rcases List.mem_cons.1 ((insN_perm p r).mem_iff.1 hy) with rfl | hy
      · exact hlt
      · exact h1 y hy
    · rename_i hn
      have hlt : ltS p.name x.name = true := by
        cases hc : ltS p.name x.name with
        | true => rfl
        | false => exact absurd (ltS_tri hn (by rw [hc]; decide)) (hne x (List.mem_cons_self ..))
      refine List.pairwise_cons.2 ⟨fun y hy => ?_, h⟩
      rcases List.mem_cons.1 hy with rfl | hy
      · exact hlt
      · exact ltS_trans hlt (h1 y hy)
theorem drop_mem {s : St} {name : ByteArray} {q : Pd} : q ∈ (dropS s name).pods ↔ q ∈ s.pods ∧ q.name ≠ name := by
  unfold dropS isNm
  rw [List.mem_filter]
  simp
theorem put_mem {s : St} {p q : Pd} : q ∈ (putS s p).pods ↔ q = p ∨ q ∈ s.pods ∧ q.name ≠ p.name := by
  show q ∈ insN p _ ↔ _
  rw [(insN_perm p _).mem_iff, List.mem_cons, drop_mem]
theorem put_len (s : St) (p : Pd) : (putS s p).pods.length = (dropS s p.name).pods.length + 1 := by
  show (insN p _).length = _
  rw [(insN_perm p _).length_eq, List.length_cons]
theorem put_at (s : St) (p : Pd) (m x : ByteArray) : tot Pd.need (onAt (putS s p) m) x = tot Pd.need (onAt (dropS s p.name) m) x + (if p.node = m then getA p.need x else 0) := by
  have h1 : tot Pd.need (onAt (putS s p) m) x = tot Pd.need ((p :: (dropS s p.name).pods).filter (onB m)) x := tot_perm Pd.need ((insN_perm p (dropS s p.name).pods).filter (onB m)) x
  rw [h1]
  by_cases e : p.node = m
  · rw [if_pos e, List.filter_cons_of_pos (by simp [onB, e])]
    show getA p.need x + tot Pd.need (onAt (dropS s p.name) m) x = _
    omega
  · rw [if_neg e, List.filter_cons_of_neg (by simp [onB, e])]
    show tot Pd.need (onAt (dropS s p.name) m) x = _
    omega
theorem Sound.put {s : St} (h : Sound s) {p : Pd} (hp : checkPod p = 0) (hv : podV s p = 0) (hl : s.pods.length < 128)
    (hr : ∀ n ∈ s.nodes, p.node = n.name → ∀ x, tot Pd.need (onAt (dropS s p.name) n.name) x + getA p.need x ≤ getA n.cap x) : Sound (putS s p) where
  nlen := h.nlen
  nok := h.nok
  nup := h.nup
  plen := by
    rw [put_len]
    have : (dropS s p.name).pods.length ≤ s.pods.length := List.length_filter_le _ _
    omega
  pok := fun q hq => by
    rcases put_mem.1 hq with rfl | ⟨hq, -⟩
    · exact hp
    · exact h.pok q hq
  pup := insN_up p _ (h.drop p.name).pup (fun x hx => (drop_mem.1 hx).2)
  bok := h.bok
  there := fun q hq => by
    rcases put_mem.1 hq with rfl | ⟨hq, -⟩
    · exact hv
    · exact h.there q hq
  room := fun n hn x => by
    rw [put_at]
    have h1 := (h.drop p.name).room n hn x
    by_cases e : p.node = n.name
    · rw [if_pos e]
      exact hr n hn e x
    · rw [if_neg e]; omega
  total := h.total
end Go.Proofs.YtnmhicgbdalniaaGreatDoor
namespace Go.Proofs.YtnmhicgbdalniaaGreatDoor
open Go.RowKit

/-! Where a pod is put: the plain law. -/
theorem insN_at {p : Pd} : ∀ {l : List Pd} {k : Nat}, k ≤ l.length → (∀ j, (hj : j < l.length) → j < k → ltS l[j].name p.name = true) → (∀ hk : k < l.length, ltS l[k].name p.name = false) → insN p l = l.take k ++ p :: l.drop k
  | [], 0, _, _, _ => rfl
  | [], k + 1, h, _, _ => by simp at h
  | x :: r, 0, _, _, h => by
    have := h (by simp)
    simp only [List.getElem_cons_zero] at this
    unfold insN
    rw [this, if_neg (by decide)]; rfl
  | x :: r, k + 1, hk, h1, h2 => by
    have h0 := h1 0 (by simp) (by omega)
    simp only [List.getElem_cons_zero] at h0
    unfold insN
    rw [if_pos h0, insN_at (k := k) (by simpa using hk) (fun j hj hjk => by have := h1 (j + 1) (by simpa using hj) (by omega); simpa using this) (fun hk' => by have := h2 (by simpa using hk'); simpa using this)]
    rfl
end Go.Proofs.YtnmhicgbdalniaaGreatDoor
namespace Go.Proofs.YtnmhicgbdalniaaGreatDoor
open Go.RowKit Go.Sort Go.Lib

/-! Where it fits best: the plain law. -/
section
variable {α : Type} (lt : α → α → Bool)
/-- One put in its place, all put in their places, by any order. -/
def insG (p : α) : List α → List α
  | [] => [p]
  | x :: r => if lt p x = true then p :: x :: r else x :: insG p r
def sortG (l : List α) : List α := l.foldl (fun out p => insG lt p out) []
abbrev OrdG (l : List α) : Prop := l.Pairwise fun a b => lt b a = false
variable {lt}
theorem insG_perm (p : α) : ∀ l, (insG lt p l).Perm (p :: l)
  | [] => List.Perm.refl _
  | x :: r => by
    unfold insG
    split
    · exact List.Perm.refl _
    · exact ((insG_perm p r).cons x).trans (List.Perm.swap p x r)
theorem insG_ord (hO : SWO lt) (p : α) : ∀ l, OrdG lt l → OrdG lt (insG lt p l)
  | [], _ => by simp [insG, OrdG]
  | x :: r, h => by
    obtain ⟨h1, h2⟩ := List.pairwise_cons.1 h
    unfold insG
    split
    · rename_i hlt
      have hxp : lt x p = false := hO.asymmA hlt
      refine List.pairwise_cons.2 ⟨fun y hy => ?_, h⟩
      rcases List.mem_cons.1 hy with rfl | hy
      · exact hxp
      · exact hO.ntrans _ _ _ (h1 y hy) hxp
    · rename_i hn
      rw [Bool.not_eq_true] at hn
      refine List.pairwise_cons.2 ⟨fun y hy => ?_, insG_ord hO p r h2⟩
      rcases List.mem_cons.1 ((insG_perm p r).mem_iff.1 hy) with rfl | hy
      · exact hn
      · exact h1 y hy
theorem sortG_from (hO : SWO lt) (l : List α) : ∀ out, OrdG lt out → OrdG lt (l.foldl (fun out p => insG lt p out) out) ∧ (l.foldl (fun out p => insG lt p out) out).Perm (out ++ l) := by
  induction l with
  | nil => exact fun out h => ⟨h, by simp⟩
  | cons p r ih =>
    intro out h
    obtain ⟨h1, h2⟩ := ih (insG lt p out) (insG_ord hO p out h)
    refine ⟨h1, h2.trans ?_⟩
    exact ((insG_perm p out).append_right r).trans List.perm_middle.symm
theorem sortG_ord (hO : SWO lt) (l : List α) : OrdG lt (sortG lt l) := (sortG_from hO l [] List.Pairwise.nil).1
theorem sortG_perm (hO : SWO lt) (l : List α) : (sortG lt l).Perm l := by simpa [sortG] using (sortG_from hO l [] List.Pairwise.nil).2
theorem sortG_one {l ys zs : List α} (h : ∀ a ∈ l, ∀ b ∈ l, lt a b = false → lt b a = false → a = b) (hy : ys.Perm l) (hz : zs.Perm l) (oy : OrdG lt ys) (oz : OrdG lt zs) : ys = zs :=
  List.Perm.eq_of_pairwise (fun a b ha hb h1 h2 => h a (hy.mem_iff.1 ha) b (hz.mem_iff.1 hb) h2 h1) oy oz (hy.trans hz.symm)
theorem insG_pass {p : α} : ∀ {l : List α} {q : Nat}, q ≤ l.length → (∀ j, (hj : j < l.length) → j < q → lt p l[j] = false) → insG lt p l = l.take q ++ insG lt p (l.drop q)
  | l, 0, _, _ => by simp
  | [], q + 1, h, _ => by simp at h
  | a :: r, q + 1, h, hp => by
    have h0 : lt p a = false := hp 0 (by simp) (by omega)
    rw [insG, h0, if_neg (by decide), List.take_succ_cons, List.drop_succ_cons, List.cons_append, insG_pass (q := q) (by simpa using h) (fun j hj hq => by have := hp (j + 1) (by simpa using hj) (by omega); simpa using this)]
theorem insG_here (hO : SWO lt) {p : α} {l : List α} {k : Nat} (hl : OrdG lt l) (hk : k ≤ l.length) (h1 : ∀ j, (hj : j < l.length) → k ≤ j → lt p l[j] = true) (h2 : (hj : k - 1 < l.length) → 0 < k → lt p l[k - 1] = false) :
    insG lt p l = l.take k ++ p :: l.drop k := by
  rw [insG_pass hk (fun j hj hq => ?_)]
  · congr 1
    rcases Nat.lt_or_ge k l.length with h | h
    · rw [List.drop_eq_getElem_cons h, insG, if_pos (h1 k h (Nat.le_refl _))]
    · rw [List.drop_eq_nil_of_le h]; rfl
  · have hkl : k - 1 < l.length := by omega
    have e := h2 hkl (by omega)
    rcases Nat.lt_or_ge j (k - 1) with h | h
    · have ho := (List.pairwise_iff_getElem.1 hl) j (k - 1) hj hkl h
      exact hO.ntrans _ _ _ e ho
    · have : j = k - 1 := by omega
      subst this
      exact e
theorem sortG_snoc (l : List α) {k : Nat} (h : k < l.length) : sortG lt (l.take (k + 1)) = insG lt l[k] (sortG lt (l.take k)) := by
  rw [List.take_succ_eq_append_getElem h]
  unfold sortG
  rw [List.foldl_append]; rfl
end
/-- How much is used, how much would be. -/
def useF (s : St) (name what : ByteArray) : Fl := if (findV s.nodes name).2 = false then none else quoF (ofI (getA (usedV s name).1 what)) (ofI (getA (findV s.nodes name).1.cap what))
def useP (s : St) (name what : ByteArray) : Fl := if (findV s.nodes name).2 = false then none else quoF (ofI (getA (usedP s name).1 what)) (ofI (getA (findV s.nodes name).1.cap what))
theorem use_eq {s : St} {name : ByteArray} (h : emptyB name = false) (what : ByteArray) : useP s name what = useF s name what := by unfold useP useF; rw [used_eq h]
def meanF (l : List Fl) : Fl := quoF (l.foldl addF (some 0)) (ofI l.length)
def putAt (s : St) (p : Pd) (name : ByteArray) : St := putS s { p with node := name }
def scoF (s : St) (p : Pd) (name : ByteArray) : Fl := meanF ((findV s.nodes name).1.cap.map fun x => useF (putAt s p name) name x.name)
def scoP (s : St) (p : Pd) (name : ByteArray) : Fl := meanF ((findV s.nodes name).1.cap.map fun x => useP (putAt s p name) name x.name)
theorem sco_eq {s : St} {p : Pd} {name : ByteArray} (h : emptyB name = false) : scoP s p name = scoF s p name := by
  unfold scoP scoF
  congr 2
  funext x
  exact use_eq h _
def softN (s : St) (p : Pd) (name : ByteArray) : Nat := softV p.tols (findV s.nodes name).1.taints
def sgF (pack : Bool) (x : Int) : Int := if pack = true then -x else x
def or3 (x y z : Int) : Int := if x ≠ 0 then x else if y ≠ 0 then y else z
/-- Which of two nodes comes first for a pod; f: how each scores. -/
def cmpOf (f : ByteArray → Fl) (s : St) (p : Pd) (pack : Bool) (a b : ByteArray) : Int :=
  or3 (cmpI (softN s p a) (softN s p b)) (sgF pack (cmpF (f a) (f b))) (compareBytes a.data.toList b.data.toList)
def cmpO (s : St) (p : Pd) (pack : Bool) (a b : ByteArray) : Int := cmpOf (scoF s p) s p pack a b
theorem sg_cmp (pack : Bool) (x y : Int) : sgF pack (cmpI x y) = cmpI (sgF pack x) (sgF pack y) := by
  unfold sgF cmpI
  cases pack
  · rfl
  · simp only [if_true]
    repeat' split
    all_goals omega
theorem or3_neg (a b c d z : Int) : or3 (cmpI a b) (cmpI c d) z < 0 ↔ a < b ∨ (a = b ∧ (c < d ∨ (c = d ∧ z < 0))) := by
  unfold or3 cmpI
  repeat' split
  all_goals omega
theorem cmpOf_iff (f : ByteArray → Fl) (s : St) (p : Pd) (pack : Bool) (a b : ByteArray) : ltOf (cmpOf f s p pack) a b = true ↔
    (softN s p a : Int) < softN s p b ∨ ((softN s p a : Int) = softN s p b ∧ (sgF pack (keyF (f a)) < sgF pack (keyF (f b)) ∨ (sgF pack (keyF (f a)) = sgF pack (keyF (f b)) ∧ bs a < bs b))) := by
  unfold ltOf cmpOf cmpF
  rw [sg_cmp, decide_eq_true_eq, or3_neg, cmpB_neg]
  rfl
theorem cmpOf_not (f : ByteArray → Fl) (s : St) (p : Pd) (pack : Bool) (a b : ByteArray) : ltOf (cmpOf f s p pack) a b = false ↔
    (softN s p b : Int) < softN s p a ∨ ((softN s p a : Int) = softN s p b ∧ (sgF pack (keyF (f b)) < sgF pack (keyF (f a)) ∨ (sgF pack (keyF (f a)) = sgF pack (keyF (f b)) ∧ bs b ≤ bs a))) := by
  rw [← Bool.not_eq_true, cmpOf_iff, ← List.not_lt]
  generalize (softN s p a : Int) = u
  generalize (softN s p b : Int) = v
  generalize sgF pack (keyF (f a)) = x
  generalize sgF pack (keyF (f b)) = y
  by_cases h : bs a < bs b <;> simp only [h, not_true, not_false_iff, and_true, and_false, or_false] <;> omega
theorem cmpOf_swo (f : ByteArray → Fl) (s : St) (p : Pd) (pack : Bool) : SWO (ltOf (cmpOf f s p pack)) where
  irrefl x := by
    rw [cmpOf_not]
    exact .inr ⟨rfl, .inr ⟨rfl, List.le_refl _⟩⟩
  trans x y z h1 h2 := by
    rw [cmpOf_iff] at *
    rcases h1 with h1 | ⟨h1, h1 | ⟨k1, l1⟩⟩ <;> rcases h2 with h2 | ⟨h2, h2 | ⟨k2, l2⟩⟩
    all_goals first | (refine .inl ?_; omega) | (refine .inr ⟨?_, .inl ?_⟩ <;> omega) | skip
    exact .inr ⟨by omega, .inr ⟨by omega, List.lt_trans l1 l2⟩⟩
  ntrans x y z h1 h2 := by
    rw [cmpOf_not] at *
    rcases h1 with h1 | ⟨h1, h1 | ⟨k1, l1⟩⟩ <;> rcases h2 with h2 | ⟨h2, h2 | ⟨k2, l2⟩⟩
    all_goals first | (refine .inl ?_; omega) | (refine .inr ⟨?_, .inl ?_⟩ <;> omega) | skip
    exact .inr ⟨by omega, .inr ⟨by omega, List.le_trans l2 l1⟩⟩
theorem cmpOf_one (f : ByteArray → Fl) (s : St) (p : Pd) (pack : Bool) {a b : ByteArray} (h1 : ltOf (cmpOf f s p pack) a b = false) (h2 : ltOf (cmpOf f s p pack) b a = false) : a = b := by
  rw [cmpOf_not] at h1 h2
  refine bs_inj ?_
  rcases h1 with h1 | ⟨h1, h1 | ⟨k1, l1⟩⟩ <;> rcases h2 with h2 | ⟨h2, h2 | ⟨k2, l2⟩⟩
  all_goals first | (exfalso; omega) | skip
  exact List.le_antisymm l2 l1
theorem cmpO_swo (s : St) (p : Pd) (pack : Bool) : SWO (ltOf (cmpO s p pack)) := cmpOf_swo (scoF s p) s p pack
theorem cmpO_one (s : St) (p : Pd) (pack : Bool) {a b : ByteArray} (h1 : ltOf (cmpO s p pack) a b = false) (h2 : ltOf (cmpO s p pack) b a = false) : a = b := cmpOf_one (scoF s p) s p pack h1 h2
/-- The nodes on which a pod fits, the best ones first; the best one. -/
def orderV (s : St) (p : Pd) (pack : Bool) : List ByteArray := sortG (ltOf (cmpO s p pack)) (nodesV s p)
def bestV (l : List ByteArray) : ByteArray × Bool := match l with | [] => (⟨#[]⟩, false) | a :: _ => (a, true)
theorem order_one {s : St} {p : Pd} {pack : Bool} {ys : List ByteArray} (h : Sorted (cmpO s p pack) (nodesV s p) ys) : ys = orderV s p pack :=
  sortG_one (lt := ltOf (cmpO s p pack)) (fun _ _ _ _ h1 h2 => cmpO_one s p pack h1 h2) h.1 (sortG_perm (cmpO_swo s p pack) _) h.2 (sortG_ord (cmpO_swo s p pack) _)
/-- The document's own word for it. -/
def aheadB (s : St) (p : Pd) (pack : Bool) (a b : ByteArray) : Bool :=
  if (softN s p a : Int) ≠ softN s p b then decide ((softN s p a : Int) < softN s p b)
  else if sgF pack (cmpF (scoF s p a) (scoF s p b)) ≠ 0 then decide (sgF pack (cmpF (scoF s p a) (scoF s p b)) < 0)
  else ltS a b
theorem ahead_eq (s : St) (p : Pd) (pack : Bool) (a b : ByteArray) : aheadB s p pack a b = ltOf (cmpO s p pack) a b := by
  unfold aheadB ltOf cmpO cmpOf or3 ltS
  generalize sgF pack (cmpF (scoF s p a) (scoF s p b)) = c
  by_cases h1 : (softN s p a : Int) = softN s p b
  · rw [if_neg (fun h => h h1), cmpI_eq h1, if_neg (show ¬ (0 : Int) ≠ 0 by decide)]
    by_cases h2 : c = 0
    · rw [if_neg (fun h => h h2), if_neg (fun h => h h2)]
      exact decide_eq_decide.2 (cmpB_neg _ _).symm
    · rw [if_pos h2, if_pos h2]
  · rw [if_pos h1]
    rcases Int.lt_or_gt_of_ne h1 with h | h
    · rw [cmpI_lt h, if_pos (by decide), decide_eq_true h]; rfl
    · rw [cmpI_gt h, if_pos (by decide), decide_eq_false (by omega)]; rfl
end Go.Proofs.YtnmhicgbdalniaaGreatDoor
