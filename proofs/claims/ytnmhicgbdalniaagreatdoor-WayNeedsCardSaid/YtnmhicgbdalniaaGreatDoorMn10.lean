import Derived.Test.YtnmhicgbdalniaaGreatDoorMn7
import Derived.Test.YtnmhicgbdalniaaGreatDoorMn8
import Derived.Test.YtnmhicgbdalniaaGreatDoorMn9
import Derived.Deep.RegionHeld3
import Derived.StillTailTactics
namespace Go.Proofs.YtnmhicgbdalniaaGreatDoor
open Go.RowKit

/-! A pod put in; a way that is gone: the plain law. -/
def insN (p : Pd) : List Pd → List Pd
  | [] => [p]
  | x :: r => if ltS x.name p.name = true then x :: insN p r else p :: x :: r
def putS (s : St) (p : Pd) : St := { s with pods := insN p (dropS s p.name).pods }
theorem insN_perm (p : Pd) : ∀ l, (insN p l).Perm (p :: l)
  | [] => List.Perm.refl _
  | x :: r => by
    unfold insN
    split
    · exact ((insN_perm p r).cons x).trans (List.Perm.swap p x r)
    · exact List.Perm.refl _
theorem insN_up (p : Pd) : ∀ l, UpN Pd.name l → (∀ x ∈ l, x.name ≠ p.name) → UpN Pd.name (insN p l)
  | [], _, _ => by simp [insN, UpN]
  | x :: r, h, hne => by
    obtain ⟨h1, h2⟩ := List.pairwise_cons.1 h
    unfold insN
    split
    · rename_i hlt
      refine List.pairwise_cons.2 ⟨fun y hy => ?_, insN_up p r h2 (fun y hy => hne y (List.mem_cons_of_mem _ hy))⟩
      rcases List.mem_cons.1 ((insN_perm p r).mem_iff.1 hy) with rfl | hy
      · exact hlt
      · exact h1 y hy
    · rename_i hn
      have hlt : ltS p.name x.name = true := by
        cases hc : ltS p.name x.name with
        | true => rfl
        | false => exact absurd (ltS_tri hn (by rw [hc]; decide)) (hne x (List.mem_cons_self ..))
      refine List.pairwise_cons.2 ⟨fun y hy => ?_, h⟩
      rcases List.mem_cons.1 hy with rfl | hy
      · exact hlt
      · exact ltS_trans hlt (h1 y hy)
theorem drop_mem {s : St} {name : ByteArray} {q : Pd} : q ∈ (dropS s name).pods ↔ q ∈ s.pods ∧ q.name ≠ name := by
  unfold dropS isNm
  rw [List.mem_filter]
  simp
theorem put_mem {s : St} {p q : Pd} : q ∈ (putS s p).pods ↔ q = p ∨ q ∈ s.pods ∧ q.name ≠ p.name := by
  show q ∈ insN p _ ↔ _
  rw [(insN_perm p _).mem_iff, List.mem_cons, drop_mem]
theorem put_len (s : St) (p : Pd) : (putS s p).pods.length = (dropS s p.name).pods.length + 1 := by
  show (insN p _).length = _
  rw [(insN_perm p _).length_eq, List.length_cons]
theorem put_at (s : St) (p : Pd) (m x : ByteArray) : tot Pd.need (onAt (putS s p) m) x = tot Pd.need (onAt (dropS s p.name) m) x + (if p.node = m then getA p.need x else 0) := by
  have h1 : tot Pd.need (onAt (putS s p) m) x = tot Pd.need ((p :: (dropS s p.name).pods).filter (onB m)) x := tot_perm Pd.need ((insN_perm p (dropS s p.name).pods).filter (onB m)) x
  rw [h1]
  by_cases e : p.node = m
  · rw [if_pos e, List.filter_cons_of_pos (by simp [onB, e])]
    show getA p.need x + tot Pd.need (onAt (dropS s p.name) m) x = _
    omega
  · rw [if_neg e, List.filter_cons_of_neg (by simp [onB, e])]
    show tot Pd.need (onAt (dropS s p.name) m) x = _
    omega
theorem Sound.put {s : St} (h : Sound s) {p : Pd} (hp : checkPod p = 0) (hv : podV s p = 0) (hl : s.pods.length < 128)
    (hr : ∀ n ∈ s.nodes, p.node = n.name → ∀ x, tot Pd.need (onAt (dropS s p.name) n.name) x + getA p.need x ≤ getA n.cap x) : Sound (putS s p) where
  nlen := h.nlen
  nok := h.nok
  nup := h.nup
  plen := by
    rw [put_len]
    have : (dropS s p.name).pods.length ≤ s.pods.length := List.length_filter_le _ _
    omega
  pok := fun q hq => by
    rcases put_mem.1 hq with rfl | ⟨hq, -⟩
    · exact hp
    · exact h.pok q hq
  pup := insN_up p _ (h.drop p.name).pup (fun x hx => (drop_mem.1 hx).2)
  bok := h.bok
  there := fun q hq => by
    rcases put_mem.1 hq with rfl | ⟨hq, -⟩
    · exact hv
    · exact h.there q hq
  room := fun n hn x => by
    rw [put_at]
    have h1 := (h.drop p.name).room n hn x
    by_cases e : p.node = n.name
    · rw [if_pos e]
      exact hr n hn e x
    · rw [if_neg e]; omega
  total := h.total
theorem pod_nowhere {p : Pd} (h : checkPod p = 0) : checkPod { p with node := ⟨#[]⟩ } = 0 := pod_at h (by unfold maybeV emptyB; simp)
/-- A pod put in that is nowhere. -/
theorem Sound.putNowhere {s : St} (h : Sound s) {p : Pd} (hp : checkPod p = 0) (hn : p.node = ⟨#[]⟩) (hl : s.pods.length < 128) : Sound (putS s p) :=
  h.put hp (by unfold podV emptyB; rw [hn]; simp) hl fun n hm e => by
    have := name_full (node_name (h.nok n hm))
    unfold emptyB at this
    rw [decide_eq_false_iff_not] at this
    exact absurd (e.symm.trans hn) this
theorem drop_comm (s : St) (a b : ByteArray) : dropS (dropS s a) b = dropS (dropS s b) a := by
  unfold dropS
  simp only [List.filter_filter]
  congr 2
  funext p
  exact Bool.and_comm _ _
theorem domV_nodes {s t : St} (h : s.nodes = t.nodes) (name key : ByteArray) : domV s name key = domV t name key := by
  unfold domV
  rw [h]
/-- Placeholders don't count for the spread. -/
theorem skew_hold {s : St} {name : ByteArray} (h : ∀ q ∈ s.pods, q.name = name → q.hold = true) (p : Pd) (m : ByteArray) : skewV (dropS s name) p m = skewV s p m := by
  have hc : ∀ dom, countV (dropS s name) p dom (dropS s name).pods = countV s p dom s.pods := fun dom => by
    unfold countV
    show List.countP _ (s.pods.filter _) = _
    rw [List.countP_filter]
    refine List.countP_congr fun q hq => ?_
    show (other p q && inDom s q.node p.key dom && !isNm name q) = true ↔ _
    by_cases e : q.name = name
    · have : other p q = false := by
        unfold other
        rw [h q hq e]
        simp
      rw [this]; simp
    · have : isNm name q = false := decide_eq_false e
      rw [this]; simp
  have hl : ∀ (own : ByteArray) (here : Nat) (l : List (List UInt8)), leastV (dropS s name) p own here l = leastV s p own here l := fun own here l => by
    unfold leastV
    simp only [hc]
  have hh : ∀ own, hereV (dropS s name) p own = hereV s p own := fun own => by unfold hereV; rw [hc]
  unfold skewV
  simp only [hl, hh]
  rfl
theorem fit_mono {s t : St} (h0 : Apart s.pods) (ht : Sound t) (hsub : ∀ q ∈ t.pods, q ∈ s.pods) {x : Pd} (hx : x ∈ s.pods) (hh : x.hold = true) {p : Pd} {name : ByteArray} (hp : GoodV p.need) (hf : fitV t p name = 0) : fitV (dropS t x.name) p name = 0 := by
  show fitD (dropS (dropS t x.name) p.name) p name = 0
  rw [drop_comm]
  obtain ⟨h1, h2, h3, h4, h5, h6⟩ := fitD_says (show fitD (dropS t p.name) p name = 0 from hf)
  have hu := ht.drop p.name
  have hq : ∀ q ∈ (dropS t p.name).pods, q.name = x.name → q.hold = true := fun q hq e => by
    have := apart_one h0 q (hsub q (drop_mem.1 hq).1) x hx e
    rw [this]; exact hh
  obtain ⟨n, hn, rfl⟩ := find_has.1 h1
  obtain ⟨v, e1, v1⟩ := hu.free (n := n) hn
  obtain ⟨v', e2, v2⟩ := (hu.drop x.name).free (n := n) hn
  refine fitD_mk h1 h2 h3 ?_ (by rw [e2]) ?_
  · unfold skewOk
    rw [skew_hold hq]
    exact h4
  · rw [e1] at h6
    rw [e2]
    have h7 := (fits_iff hp (fun y => by rw [v1]; have := hu.room n hn y; omega)).1 h6
    refine (fits_iff hp (fun y => by rw [v2]; have := (hu.drop x.name).room n hn y; omega)).2 fun y => ?_
    have k1 := h7 y
    rw [v1] at k1
    rw [v2]
    have k2 := tot_sub Pd.need (onAt_sub (s := dropS t p.name) (l := (dropS (dropS t p.name) x.name).pods) List.filter_sublist n.name) (hu.needs _) y
    have k3 : tot Pd.need (onAt (dropS (dropS t p.name) x.name) n.name) y ≤ tot Pd.need (onAt (dropS t p.name) n.name) y := k2
    omega
def holdsOf (l : List Pd) : List ByteArray := (l.filter (·.hold)).map (·.name)
def allOff (s : St) (name : ByteArray) : St := (holdsOf (onV s name)).foldl dropS s
theorem holdsOf_cons (x : Pd) (l : List Pd) : holdsOf (x :: l) = if x.hold = true then x.name :: holdsOf l else holdsOf l := by
  unfold holdsOf
  by_cases h : x.hold = true
  · rw [List.filter_cons_of_pos h, if_pos h]; rfl
  · rw [List.filter_cons_of_neg h, if_neg h]
theorem onGo_ok {F : FitF} {p : Pd} {name : ByteArray} {M : St → Prop} : ∀ (l : List Pd) (s : St) (out : List ByteArray), M s → (∀ t, M t → ∀ x ∈ l, x.hold = true → M (dropS t x.name) ∧ (F t p name = 0 → F (dropS t x.name) p name = 0)) →
    F s p name ≠ 0 → ((onGo F p name s l out).2 = true ↔ F ((holdsOf l).foldl dropS s) p name = 0)
  | [], s, out, _, _, hf => by
    show false = true ↔ F s p name = 0
    exact ⟨fun h => (by cases h), fun h => absurd h hf⟩
  | x :: l, s, out, hs, hm, hf => by
    have hm' : ∀ t, M t → ∀ y ∈ l, y.hold = true → M (dropS t y.name) ∧ (F t p name = 0 → F (dropS t y.name) p name = 0) := fun t ht y hy => hm t ht y (List.mem_cons_of_mem _ hy)
    rw [holdsOf_cons]
    unfold onGo
    by_cases h : x.hold = true
    · rw [if_pos h, if_pos h, List.foldl_cons]
      obtain ⟨m1, -⟩ := hm s hs x (List.mem_cons_self ..) h
      by_cases h0 : F (dropS s x.name) p name = 0
      · rw [if_pos h0]
        have key : ∀ (k : List Pd) (t : St), M t → (∀ y ∈ k, y ∈ l) → F t p name = 0 → F ((holdsOf k).foldl dropS t) p name = 0 := by
          intro k
          induction k with
          | nil => exact fun t _ _ h => h
          | cons y k ih =>
            intro t ht hk hF
            rw [holdsOf_cons]
            split
            · rename_i hy
              obtain ⟨q1, q2⟩ := hm' t ht y (hk y (List.mem_cons_self ..)) hy
              exact ih _ q1 (fun z hz => hk z (List.mem_cons_of_mem _ hz)) (q2 hF)
            · exact ih t ht (fun z hz => hk z (List.mem_cons_of_mem _ hz)) hF
        exact ⟨fun _ => key l _ m1 (fun _ h => h) h0, fun _ => rfl⟩
      · rw [if_neg h0]
        exact onGo_ok l _ _ m1 hm' h0
    · rw [if_neg h, if_neg h]
      exact onGo_ok l s out hs hm' hf
theorem onGo_pre {F : FitF} {p : Pd} {name : ByteArray} : ∀ (l : List Pd) (s : St) (out h : List ByteArray), onGo F p name s l out = (h, true) → ∃ r, h = out ++ r ∧ r <+: holdsOf l ∧ F (r.foldl dropS s) p name = 0
  | [], s, out, h, e => by simp [onGo] at e
  | x :: l, s, out, h, e => by
    unfold onGo at e
    rw [holdsOf_cons]
    by_cases hh : x.hold = true
    · rw [if_pos hh] at e ⊢
      split at e
      · rename_i h0
        injection e with e _
        exact ⟨[x.name], e.symm, ⟨holdsOf l, rfl⟩, h0⟩
      · obtain ⟨r, e1, ⟨k, e2⟩, e3⟩ := onGo_pre l _ _ _ e
        exact ⟨x.name :: r, by rw [e1]; simp, ⟨k, by rw [← e2]; rfl⟩, e3⟩
    · rw [if_neg hh] at e ⊢
      exact onGo_pre l s out h e
theorem onW_pre {F : FitF} {s : St} {p : Pd} {name : ByteArray} {h : List ByteArray} (e : onW F s p name = (h, true)) : h <+: holdsOf (onV s name) ∧ F (h.foldl dropS s) p name = 0 := by
  unfold onW at e
  split at e
  · rename_i h0
    injection e with e _
    subst e
    exact ⟨List.nil_prefix, h0⟩
  · obtain ⟨r, e1, e2, e3⟩ := onGo_pre _ _ _ _ e
    have : h = r := by simpa using e1
    subst this
    exact ⟨e2, e3⟩
theorem onV_mem {s : St} {name : ByteArray} {x : Pd} (h : x ∈ onV s name) : x ∈ s.pods ∧ x.node = name := by
  unfold onV at h
  obtain ⟨h1, h2⟩ := List.mem_filter.1 h
  simp only [Bool.and_eq_true, decide_eq_true_eq] at h2
  exact ⟨h1, h2.1⟩
/-- A node's way is there just where the pod fits without all placeholders. -/
theorem onW_ok {s : St} (hs : Sound s) {p : Pd} (hp : GoodV p.need) (name : ByteArray) : (onW fitV s p name).2 = true ↔ fitV (allOff s name) p name = 0 := by
  have hm : ∀ t, (Sound t ∧ ∀ q ∈ t.pods, q ∈ s.pods) → ∀ x ∈ onV s name, x.hold = true → (Sound (dropS t x.name) ∧ ∀ q ∈ (dropS t x.name).pods, q ∈ s.pods) ∧ (fitV t p name = 0 → fitV (dropS t x.name) p name = 0) := fun t ht x hx hh =>
    ⟨⟨ht.1.drop _, fun q hq => ht.2 q (drop_mem.1 hq).1⟩, fit_mono hs.apart ht.1 ht.2 (onV_mem hx).1 hh hp⟩
  unfold onW
  by_cases h0 : fitV s p name = 0
  · rw [if_pos h0]
    refine ⟨fun _ => ?_, fun _ => rfl⟩
    have key : ∀ (k : List Pd) (t : St), (Sound t ∧ ∀ q ∈ t.pods, q ∈ s.pods) → (∀ y ∈ k, y ∈ onV s name) → fitV t p name = 0 → fitV ((holdsOf k).foldl dropS t) p name = 0 := by
      intro k
      induction k with
      | nil => exact fun t _ _ h => h
      | cons y k ih =>
        intro t ht hk hF
        rw [holdsOf_cons]
        split
        · rename_i hy
          obtain ⟨q1, q2⟩ := hm t ht y (hk y (List.mem_cons_self ..)) hy
          exact ih _ q1 (fun z hz => hk z (List.mem_cons_of_mem _ hz)) (q2 hF)
        · exact ih t ht (fun z hz => hk z (List.mem_cons_of_mem _ hz)) hF
    exact key _ s ⟨hs, fun _ h => h⟩ (fun _ h => h) h0
  · rw [if_neg h0]
    exact onGo_ok (M := fun t => Sound t ∧ ∀ q ∈ t.pods, q ∈ s.pods) _ s [] ⟨hs, fun _ h => h⟩ hm h0
theorem drops_mem {q : Pd} : ∀ {l : List ByteArray} {s : St}, q ∈ (l.foldl dropS s).pods ↔ q ∈ s.pods ∧ q.name ∉ l
  | [], s => by simp
  | a :: l, s => by
    rw [List.foldl_cons, drops_mem, drop_mem, List.mem_cons, not_or, and_assoc]
theorem drop_len : ∀ {l : List Pd} {name : ByteArray}, Apart l → (∃ x ∈ l, x.name = name) → (l.filter fun p => !isNm name p).length + 1 = l.length
  | y :: l, name, ha, hx => by
    obtain ⟨a1, a2⟩ := List.pairwise_cons.1 ha
    by_cases e : y.name = name
    · have hf : l.filter (fun p => !isNm name p) = l := List.filter_eq_self.2 fun z hz => by
        have : isNm name z = false := decide_eq_false fun k => a1 z hz (e.trans k.symm)
        rw [this]; rfl
      rw [List.filter_cons_of_neg (by simp [isNm, e]), hf]; rfl
    · rw [List.filter_cons_of_pos (by simp [isNm, e]), List.length_cons, List.length_cons, drop_len a2]
      obtain ⟨x, hx, k⟩ := hx
      rcases List.mem_cons.1 hx with rfl | hx
      · exact absurd k e
      · exact ⟨x, hx, k⟩
theorem drops_len : ∀ {l : List ByteArray} {s : St}, Apart s.pods → l.Nodup → (∀ a ∈ l, ∃ x ∈ s.pods, x.name = a) → (l.foldl dropS s).pods.length + l.length = s.pods.length
  | [], s, _, _, _ => rfl
  | a :: l, s, ha, hn, hx => by
    obtain ⟨n1, n2⟩ := List.nodup_cons.1 hn
    have h1 : (dropS s a).pods.length + 1 = s.pods.length := drop_len ha (hx a (List.mem_cons_self ..))
    have h2 := drops_len (l := l) (s := dropS s a) (ha.sublist List.filter_sublist) n2 (fun b hb => by
      obtain ⟨x, hx, e⟩ := hx b (List.mem_cons_of_mem _ hb)
      exact ⟨x, drop_mem.2 ⟨hx, fun k => n1 (by rw [← k, e]; exact hb)⟩, e⟩)
    rw [List.foldl_cons, List.length_cons]
    omega
theorem holds_nodup {s : St} (h : Apart s.pods) (name : ByteArray) : (holdsOf (onV s name)).Nodup := by
  unfold holdsOf onV
  have h1 : Apart ((s.pods.filter fun p => decide (p.node = name) && !emptyB name).filter (·.hold)) := (h.sublist List.filter_sublist).sublist List.filter_sublist
  unfold List.Nodup
  rw [List.pairwise_map]
  exact h1
/-- What a way comes to. -/
theorem way_there {s : St} (hs : Sound s) {p : Pd} (hp : p ∈ s.pods) (hh : p.hold = false) :
    ((forW fitV s p).2 = true ↔ ∃ n ∈ s.nodes, fitV (allOff s n.name) p n.name = 0) ∧
    ((forW fitV s p).2 = true → Sound (doW s (forW fitV s p).1) ∧ (doW s (forW fitV s p).1).pods.length + (forW fitV s p).1.holds.length = s.pods.length ∧
      (∀ a ∈ (forW fitV s p).1.holds, ∃ x ∈ s.pods, x.name = a ∧ x.hold = true ∧ x.node = (forW fitV s p).1.to_) ∧
      ∃ q ∈ (doW s (forW fitV s p).1).pods, q.name = p.name ∧ q.node = (forW fitV s p).1.to_) := by
  have hg := pod_need (hs.pok p hp)
  refine ⟨⟨fun h => ?_, ?_⟩, fun h => ?_⟩
  · obtain ⟨n, hn, -, -, h3⟩ := forW_says h
    exact ⟨n, hn, (onW_ok hs hg n.name).1 (by rw [h3])⟩
  · rintro ⟨n, hn, h⟩
    exact (forW_least hh hn ((onW_ok hs hg n.name).2 h)).1
  · obtain ⟨n, hn, h1, h2, h3⟩ := forW_says h
    obtain ⟨h4, h5⟩ := onW_pre h3
    generalize (forW fitV s p).1 = w at *
    have hin : ∀ a ∈ w.holds, ∃ x ∈ s.pods, x.name = a ∧ x.hold = true ∧ x.node = n.name := fun a ha => by
      have := h4.subset ha
      unfold holdsOf at this
      obtain ⟨x, hx, rfl⟩ := List.mem_map.1 this
      obtain ⟨hx, hb⟩ := List.mem_filter.1 hx
      obtain ⟨k1, k2⟩ := onV_mem hx
      exact ⟨x, k1, rfl, hb, k2⟩
    have hpt : p ∈ (w.holds.foldl dropS s).pods := drops_mem.2 ⟨hp, fun k => by
      obtain ⟨x, hx, e, hb, -⟩ := hin _ k
      have := apart_one hs.apart x hx p hp e
      subst this
      rw [hh] at hb; cases hb⟩
    unfold doW
    rw [h2, h1]
    refine ⟨(hs.drops w.holds).moveFit hpt h5, ?_, hin, { p with node := n.name }, ?_, rfl, rfl⟩
    · show (List.map _ _).length + _ = _
      rw [List.length_map]
      exact drops_len hs.apart ((holds_nodup hs.apart n.name).sublist h4.sublist) (fun a ha => by obtain ⟨x, hx, e, -⟩ := hin a ha; exact ⟨x, hx, e⟩)
    · show _ ∈ List.map _ _
      exact List.mem_map.2 ⟨p, hpt, by rw [if_pos rfl]⟩
end Go.Proofs.YtnmhicgbdalniaaGreatDoor
namespace Go.Proofs.YtnmhicgbdalniaaGreatDoor
open Go.RowKit Go.Sort

/-! WayNeeds: the plain law. -/
theorem pend_in {s : St} {p : Pd} (h : p ∈ pendV s) : p ∈ s.pods ∧ p.hold = false := by
  have := ((sortP_sorted (s.pods.filter pendB)).1.mem_iff).1 h
  obtain ⟨h1, h2⟩ := List.mem_filter.1 this
  unfold pendB at h2
  simp only [Bool.and_eq_true, Bool.not_eq_true'] at h2
  exact ⟨h1, h2.2⟩
theorem nodesQ_pos {s : St} {p : Pd} : 0 < (nodesQ s p).length ↔ ∃ n ∈ s.nodes, fitQ s p n.name = 0 := by
  unfold nodesQ
  rw [List.length_map, List.length_pos_iff]
  constructor
  · intro h
    obtain ⟨n, hn⟩ := List.exists_mem_of_ne_nil _ h
    obtain ⟨h1, h2⟩ := List.mem_filter.1 hn
    exact ⟨n, h1, of_decide_eq_true h2⟩
  · rintro ⟨n, h1, h2⟩ e
    have : n ∈ s.nodes.filter fun n => decide (fitQ s p n.name = 0) := List.mem_filter.2 ⟨h1, decide_eq_true h2⟩
    rw [e] at this
    cases this
theorem needs_can {s : St} {p : Pd} (hp : p.hold = false) (h : 0 < (nodesQ s p).length) : (forW fitQ s p).2 = true ∧ (forW fitQ s p).1.holds = [] ∧ fitQ s p (forW fitQ s p).1.to_ = 0 := by
  obtain ⟨n, hn, hf⟩ := nodesQ_pos.1 h
  have ho : onW fitQ s p n.name = ([], true) := by unfold onW; rw [if_pos hf]
  obtain ⟨h1, h2⟩ := forW_least hp hn (by rw [ho])
  rw [ho] at h2
  have h3 : (forW fitQ s p).1.holds = [] := List.eq_nil_of_length_eq_zero (by simpa using h2)
  refine ⟨h1, h3, ?_⟩
  obtain ⟨m, -, h4, -, h5⟩ := forW_says h1
  rw [h3] at h5
  rw [h4]
  rcases onW_says h5 with ⟨-, h6⟩ | ⟨-, r, x, h6, -⟩
  · exact h6
  · exact absurd h6 (by simp)
theorem needs_none {s : St} {p : Pd} (h : (forW fitQ s p).2 = true) (h0 : (forW fitQ s p).1.holds = []) : 0 < (nodesQ s p).length := by
  obtain ⟨n, hn, -, -, h5⟩ := forW_says h
  rw [h0] at h5
  refine nodesQ_pos.2 ⟨n, hn, ?_⟩
  rcases onW_says h5 with ⟨-, h6⟩ | ⟨-, r, x, h6, -⟩
  · exact h6
  · exact absurd h6 (by simp)
theorem needs_some {s : St} {p : Pd} (h : (forW fitQ s p).2 = true) (h0 : (forW fitQ s p).1.holds ≠ []) :
    ∃ r x, (forW fitQ s p).1.holds = r ++ [x] ∧ fitQ (r.foldl dropS s) p (forW fitQ s p).1.to_ ≠ 0 ∧ fitQ (dropS (r.foldl dropS s) x) p (forW fitQ s p).1.to_ = 0 := by
  obtain ⟨n, hn, e, -, h5⟩ := forW_says h
  rcases onW_says h5 with ⟨h6, -⟩ | ⟨-, r, x, h6, h7, h8⟩
  · exact absurd h6 h0
  · exact ⟨r, x, h6, by rw [e]; exact h7, by rw [e]; exact h8⟩
/-- All that is asked of one pod. -/
structure Needs (s : St) (p : Pd) (aw : Wy) (ab can : Bool) : Prop where
  yes : can = true → ab = true ∧ aw.holds = [] ∧ fitQ s p aw.to_ = 0
  no : ab = false → can = false
  none : ab = true → aw.holds = [] → can = true
  some : ab = true → aw.holds ≠ [] → can = false ∧ ∃ r x, aw.holds = r ++ [x] ∧ fitQ (r.foldl dropS s) p aw.to_ ≠ 0 ∧ fitQ (dropS (r.foldl dropS s) x) p aw.to_ = 0
theorem needs_all {s : St} {p : Pd} (hp : p.hold = false) {aw : Wy} {ab : Bool} (h : forW fitQ s p = (aw, ab)) : Needs s p aw ab (decide (0 < (nodesQ s p).length)) := by
  have e1 : (forW fitQ s p).1 = aw := by rw [h]
  have e2 : (forW fitQ s p).2 = ab := by rw [h]
  subst e1 e2
  refine ⟨fun hc => needs_can hp (of_decide_eq_true hc), fun h0 => decide_eq_false fun hc => ?_, fun h1 h2 => decide_eq_true (needs_none h1 h2), fun h1 h2 => ⟨decide_eq_false fun hc => h2 (needs_can hp hc).2.1, needs_some h1 h2⟩⟩
  rw [(needs_can hp hc).1] at h0
  cases h0
end Go.Proofs.YtnmhicgbdalniaaGreatDoor
namespace Go.Proofs.YtnmhicgbdalniaaGreatDoor
open Go.RowKit Go.Sort

/-! WayNeeds: the walk. -/
theorem row_form {w : World} {base : Nat} {e : TypeId} {size : Nat} {v : Value} {n : Nat} {xs : List Value} (h : w.ownsRow base e size v n xs) : ∃ A c, v = .slice A n c := by
  rcases h.2 with ⟨rfl, h0⟩ | ⟨g, cap, cur, rfl, _⟩
  · exact ⟨none, 0, by rw [h0]⟩
  · exact ⟨_, _, rfl⟩
set_option maxHeartbeats 16000000 in
set_option maxRecDepth 100000 in
theorem WayNeeds_calls (v : Value) (s : St) (w : World) (hv : Kd.state.V (vw w []) v s) : Calls Tryz.prog 4 #[v] w (BoolDone true w) := by
  obtain ⟨cs, rfl, hks⟩ := hv
  have hvs : Kd.state.V (vw w []) (.agg cs.toArray) s := ⟨cs, rfl, hks⟩
  obtain ⟨A1, c1, A2, c2, A3, c3, rfl, -⟩ := hks
  have HVS : Hid (Kd.state.V (vw w []) (.agg #[.slice A1 s.nodes.length c1, .slice A2 s.pods.length c2, .slice A3 s.budgets.length c3]) s) := hvs
  clear hvs
  go_enter Tryz.func4, Tryz.ntmps4
  go_wp2_with fail
  refine (known_calls _).mono ?_
  rintro e w1 ⟨rfl, hb⟩
  have HB1 := Lib.hid (Below.then (alloc_below w _) hb)
  have HQ1 := Lib.hid ((hb.block w.heap.size (by simp)).trans (blk_last w _))
  clear hb
  obtain ⟨z, zf⟩ := blk_all HQ1.out
  go_wp2_with fail
  refine (Good_calls _ s _ (V_below HVS.out HB1.out)).mono ?_
  rintro e w2 ⟨r, rfl, hr, hb⟩
  have HB2 := Lib.hid (Below.then HB1.out hb)
  have HQ2 := Lib.hid ((hb.block _ (blk_lt HQ1.out)).trans HQ1.out)
  clear z zf hb
  cases r with
  | false =>
    clear hr
    go_wp2
    go_ret
    exact ⟨rfl, HB2.out⟩
  | true =>
  obtain ⟨hfew, hck⟩ := hr rfl
  have hn : s.nodes.length ≤ 1000 := by have := hfew.1; omega
  have hpn : s.pods.length ≤ 1000 := by have := hfew.2.1; omega
  have HAP := Lib.hid ((sound_iff s).1 hck).apart
  clear hr hfew hck HB1 HQ1
  obtain ⟨z, zf⟩ := blk_all HQ2.out
  go_wp2_with fail
  refine (Pending_calls _ s _ (V_below HVS.out HB2.out) hpn HAP.out).mono ?_
  rintro e w3 ⟨G, gc, rfl, hS, hb⟩
  have HPI : Hid (∀ p ∈ pendV s, p.hold = false) := fun p hp => (pend_in hp).2
  have hlp := pend_mem_len s
  obtain ⟨PL, hL⟩ : ∃ PL, pendV s = PL := ⟨_, rfl⟩
  rw [hL] at hS hlp HPI ⊢
  obtain ⟨-, fl1, fl2⟩ := hS.form
  have SL := Lib.hid hS
  have HB3 := Lib.hid (Below.then HB2.out hb)
  have HQ3 := Lib.hid ((hb.block _ (blk_lt HQ2.out)).trans HQ2.out)
  clear hS hb hL z zf HB2 HQ2
  go_wp2
  go_loopw [4] (fun i wr => ∃ k : Nat, k ≤ PL.length ∧ i = .int .i64 k ∧ Hid (Below w3.heap.size w3 wr)) (fun i _ => PL.length - (intOf i).toNat)
  case atStart => exact ⟨0, Nat.zero_le _, rfl, Below.refl _ _⟩
  case round =>
    obtain ⟨k, hk, rfl, HB⟩ := hrel
    have HBX := Lib.hid (Below.then HB3.out HB.out)
    have HQ := Lib.hid ((HB.out.block _ (blk_lt HQ3.out)).trans HQ3.out)
    by_cases hlt : k < PL.length
    · obtain ⟨lb, lo, cx, rfl, hkx, hc⟩ := SL.out.both HB.out k hlt
      have hph := HPI.out PL[k] (List.getElem_mem hlt)
      obtain ⟨x, hx⟩ : ∃ x, PL[k] = x := ⟨_, rfl⟩
      rw [hx] at hkx hph
      have HKX := Lib.hid hkx
      obtain ⟨B1, d1, B2, d2, B3, d3, B4, d4, rfl, -⟩ := hkx
      have HEL : Hid (wr.rangeAt lb (lo + k * 11) [.string x.name, .string x.owner, .int .i64 x.prio, .slice B1 x.need.length d1, .slice B2 x.labels.length d2, .slice B3 x.sel.length d3, .slice B4 x.tols.length d4, .string x.key, .int .i64 x.most, .string x.node, .bool x.hold]) := hc
      have HLB : Hid (lb < wr.heap.size) := World.block_lt_of_cell? wr _ (hc 0 _ rfl)
      obtain ⟨aw, ab, hfor⟩ : ∃ aw ab, forW fitQ s x = (aw, ab) := ⟨_, _, rfl⟩
      have HNE := Lib.hid (needs_all hph hfor)
      have HFOR := Lib.hid hfor
      have b1 : (0 : Int) ≤ (k : Int) := by omega
      have b2 : (k : Int) < (PL.length : Int) := by omega
      clear hc hx hph hfor
      go_upto_region 9 with fail
      refine wp_region_slots [24, 25, 26, 27, 28, 29, 23, 30, 31, 5, 6] (fun L vs W' => ∃ (s24 s25 s26 s27 s28 s29 s23 s30 s31 s5 s6 v u : Value), vs = [s24, s25, s26, s27, s28, s29, s23, s30, s31, s5, s6] ∧ (L 0 = true → s24 = .agg #[.slice A1 s.nodes.length c1, .slice A2 s.pods.length c2, .slice A3 s.budgets.length c3]) ∧ (L 1 = true → s25 = .slice (some ⟨lb, lo, none⟩) PL.length gc) ∧ (L 2 = true → s26 = .int .i64 (k : Int)) ∧ (L 3 = true → s27 = .pointer (some ⟨lb, lo + k * 11, none⟩)) ∧ (L 4 = true → s28 = .agg #[.string x.name, .string x.owner, .int .i64 x.prio, .slice B1 x.need.length d1, .slice B2 x.labels.length d2, .slice B3 x.sel.length d3, .slice B4 x.tols.length d4, .string x.key, .int .i64 x.most, .string x.node, .bool x.hold]) ∧ (L 5 = true → s29 = .tuple #[v, .bool ab]) ∧ (L 6 = true → L 5 = true ∧ s23 = .tuple #[v, .bool ab]) ∧ (L 7 = true → L 5 = true ∧ s30 = v) ∧ (L 8 = true → s31 = .bool ab) ∧ (L 11 = true → s6 = .bool ab) ∧ (L 10 = true → L 5 = true ∧ L 9 = true) ∧ PairJ Kd.way aw 55 Kd.unit () 55 wr (L 5) false (L 9) false (L 10) false v u s5 undef W') (by kernel_rfl) (by kernel_rfl) ?start (And.intro ?o0 (And.intro ?o1 (And.intro ?o2 (And.intro ?o3 (And.intro ?o4 (And.intro ?o5 (And.intro ?o6 (And.intro ?o7 (And.intro ?o8 (And.intro ?o9 (And.intro ?o10 (And.intro ?o11 trivial)))))))))))) ?rest
      case start =>
        intro L vs hL hlen
        obtain ⟨s24, s25, s26, s27, s28, s29, s23, s30, s31, s5, s6, rfl⟩ := list_of11 hlen
        have h0 := hL 0 (by simp)
        have h1 := hL 1 (by simp)
        have h2 := hL 2 (by simp)
        have h3 := hL 3 (by simp)
        have h4 := hL 4 (by simp)
        have h5 := hL 5 (by simp)
        have h6 := hL 6 (by simp)
        have h7 := hL 7 (by simp)
        have h8 := hL 8 (by simp)
        have h9 := hL 9 (by simp)
        have h10 := hL 10 (by simp)
        have h11 := hL 11 (by simp)
        refine ⟨s24, s25, s26, s27, s28, s29, s23, s30, s31, s5, s6, undef, undef, rfl, (fun h => by rw [h0] at h; cases h), (fun h => by rw [h1] at h; cases h), (fun h => by rw [h2] at h; cases h), (fun h => by rw [h3] at h; cases h), (fun h => by rw [h4] at h; cases h), (fun h => by rw [h5] at h; cases h), (fun h => by rw [h6] at h; cases h), (fun h => by rw [h7] at h; cases h), (fun h => by rw [h8] at h; cases h), (fun h => by rw [h11] at h; cases h), (fun h => by rw [h10] at h; cases h), ?_⟩
        rw [h5, h9, h10]; exact PairJ.start (drew_below _)
      case o0 =>
        rintro L a' W' K ⟨vs, rfl, s24, s25, s26, s27, s28, s29, s23, s30, s31, s5, s6, v, u, rfl, f0, f1, f2, f3, f4, f5, f6, f7, f8, f11, dS, hJ⟩ hL hd hK
        simp only [putAll, Act.put, List.setIfInBounds_toArray, List.set_cons_zero, List.set_cons_succ]
        have zz : ∀ j, W'.cell? ⟨w.heap.size, j, none⟩ = #[.slice A1 s.nodes.length c1, .slice A2 s.pods.length c2, .slice A3 s.budgets.length c3][j]? := fun j => (hJ.bel.cell (p := ⟨w.heap.size, j, none⟩) (blk_lt HQ.out)).trans ((blk_all HQ.out).1 j)
        go_simp
        exact hK _ _ ⟨[.agg #[.slice A1 s.nodes.length c1, .slice A2 s.pods.length c2, .slice A3 s.budgets.length c3], s25, s26, s27, s28, s29, s23, s30, s31, s5, s6], (by simp only [putAll, Act.put, List.setIfInBounds_toArray, List.set_cons_zero, List.set_cons_succ]), .agg #[.slice A1 s.nodes.length c1, .slice A2 s.pods.length c2, .slice A3 s.budgets.length c3], s25, s26, s27, s28, s29, s23, s30, s31, s5, s6, v, u, rfl, (fun _ => rfl), f1, f2, f3, f4, f5, f6, f7, f8, f11, dS, hJ⟩
      case o1 =>
        rintro L a' W' K ⟨vs, rfl, s24, s25, s26, s27, s28, s29, s23, s30, s31, s5, s6, v, u, rfl, f0, f1, f2, f3, f4, f5, f6, f7, f8, f11, dS, hJ⟩ hL hd hK
        simp only [putAll, Act.put, List.setIfInBounds_toArray, List.set_cons_zero, List.set_cons_succ]
        go_simp
        exact hK _ _ ⟨[s24, .slice (some ⟨lb, lo, none⟩) PL.length gc, s26, s27, s28, s29, s23, s30, s31, s5, s6], (by simp only [putAll, Act.put, List.setIfInBounds_toArray, List.set_cons_zero, List.set_cons_succ]), s24, .slice (some ⟨lb, lo, none⟩) PL.length gc, s26, s27, s28, s29, s23, s30, s31, s5, s6, v, u, rfl, f0, (fun _ => rfl), f2, f3, f4, f5, f6, f7, f8, f11, dS, hJ⟩
      case o2 =>
        rintro L a' W' K ⟨vs, rfl, s24, s25, s26, s27, s28, s29, s23, s30, s31, s5, s6, v, u, rfl, f0, f1, f2, f3, f4, f5, f6, f7, f8, f11, dS, hJ⟩ hL hd hK
        simp only [putAll, Act.put, List.setIfInBounds_toArray, List.set_cons_zero, List.set_cons_succ]
        go_simp
        exact hK _ _ ⟨[s24, s25, .int .i64 (k : Int), s27, s28, s29, s23, s30, s31, s5, s6], (by simp only [putAll, Act.put, List.setIfInBounds_toArray, List.set_cons_zero, List.set_cons_succ]), s24, s25, .int .i64 (k : Int), s27, s28, s29, s23, s30, s31, s5, s6, v, u, rfl, f0, f1, (fun _ => rfl), f3, f4, f5, f6, f7, f8, f11, dS, hJ⟩
      case o3 =>
        rintro L a' W' K ⟨vs, rfl, s24, s25, s26, s27, s28, s29, s23, s30, s31, s5, s6, v, u, rfl, f0, f1, f2, f3, f4, f5, f6, f7, f8, f11, dS, hJ⟩ hL hd hK
        simp only [putAll, Act.put, List.setIfInBounds_toArray, List.set_cons_zero, List.set_cons_succ]
        obtain rfl := f1 (hd 1 (by decide))
        obtain rfl := f2 (hd 2 (by decide))
        go_simp
        exact hK _ _ ⟨[s24, .slice (some ⟨lb, lo, none⟩) PL.length gc, .int .i64 (k : Int), .pointer (some ⟨lb, lo + k * 11, none⟩), s28, s29, s23, s30, s31, s5, s6], (by simp only [putAll, Act.put, List.setIfInBounds_toArray, List.set_cons_zero, List.set_cons_succ]), s24, .slice (some ⟨lb, lo, none⟩) PL.length gc, .int .i64 (k : Int), .pointer (some ⟨lb, lo + k * 11, none⟩), s28, s29, s23, s30, s31, s5, s6, v, u, rfl, f0, f1, f2, (fun _ => rfl), f4, f5, f6, f7, f8, f11, dS, hJ⟩
      case o4 =>
        rintro L a' W' K ⟨vs, rfl, s24, s25, s26, s27, s28, s29, s23, s30, s31, s5, s6, v, u, rfl, f0, f1, f2, f3, f4, f5, f6, f7, f8, f11, dS, hJ⟩ hL hd hK
        simp only [putAll, Act.put, List.setIfInBounds_toArray, List.set_cons_zero, List.set_cons_succ]
        obtain rfl := f3 (hd 3 (by decide))
        have hel : W'.rangeAt lb (lo + k * 11) [.string x.name, .string x.owner, .int .i64 x.prio, .slice B1 x.need.length d1, .slice B2 x.labels.length d2, .slice B3 x.sel.length d3, .slice B4 x.tols.length d4, .string x.key, .int .i64 x.most, .string x.node, .bool x.hold] := fun j u hu => (hJ.bel.cell (p := ⟨lb, lo + k * 11 + j, none⟩) HLB.out).trans (HEL.out j u hu)
        have q0 : W'.cell? ⟨lb, lo + k * 11, none⟩ = some (.string x.name) := hel 0 _ rfl
        have q1 : W'.cell? ⟨lb, lo + k * 11 + 1, none⟩ = some (.string x.owner) := hel 1 _ rfl
        have q2 : W'.cell? ⟨lb, lo + k * 11 + 2, none⟩ = some (.int .i64 x.prio) := hel 2 _ rfl
        have q3 : W'.cell? ⟨lb, lo + k * 11 + 3, none⟩ = some (.slice B1 x.need.length d1) := hel 3 _ rfl
        have q4 : W'.cell? ⟨lb, lo + k * 11 + 4, none⟩ = some (.slice B2 x.labels.length d2) := hel 4 _ rfl
        have q5 : W'.cell? ⟨lb, lo + k * 11 + 5, none⟩ = some (.slice B3 x.sel.length d3) := hel 5 _ rfl
        have q6 : W'.cell? ⟨lb, lo + k * 11 + 6, none⟩ = some (.slice B4 x.tols.length d4) := hel 6 _ rfl
        have q7 : W'.cell? ⟨lb, lo + k * 11 + 7, none⟩ = some (.string x.key) := hel 7 _ rfl
        have q8 : W'.cell? ⟨lb, lo + k * 11 + 8, none⟩ = some (.int .i64 x.most) := hel 8 _ rfl
        have q9 : W'.cell? ⟨lb, lo + k * 11 + 9, none⟩ = some (.string x.node) := hel 9 _ rfl
        have q10 : W'.cell? ⟨lb, lo + k * 11 + 10, none⟩ = some (.bool x.hold) := hel 10 _ rfl
        clear hel
        go_simp
        exact hK _ _ ⟨[s24, s25, s26, .pointer (some ⟨lb, lo + k * 11, none⟩), .agg #[.string x.name, .string x.owner, .int .i64 x.prio, .slice B1 x.need.length d1, .slice B2 x.labels.length d2, .slice B3 x.sel.length d3, .slice B4 x.tols.length d4, .string x.key, .int .i64 x.most, .string x.node, .bool x.hold], s29, s23, s30, s31, s5, s6], (by simp only [putAll, Act.put, List.setIfInBounds_toArray, List.set_cons_zero, List.set_cons_succ]), s24, s25, s26, .pointer (some ⟨lb, lo + k * 11, none⟩), .agg #[.string x.name, .string x.owner, .int .i64 x.prio, .slice B1 x.need.length d1, .slice B2 x.labels.length d2, .slice B3 x.sel.length d3, .slice B4 x.tols.length d4, .string x.key, .int .i64 x.most, .string x.node, .bool x.hold], s29, s23, s30, s31, s5, s6, v, u, rfl, f0, f1, f2, f3, (fun _ => rfl), f5, f6, f7, f8, f11, dS, hJ⟩
      case o5 =>
        rintro L a' W' K ⟨vs, rfl, s24, s25, s26, s27, s28, s29, s23, s30, s31, s5, s6, v, u, rfl, f0, f1, f2, f3, f4, f5, f6, f7, f8, f11, dS, hJ⟩ hL hd hK
        simp only [putAll, Act.put, List.setIfInBounds_toArray, List.set_cons_zero, List.set_cons_succ]
        have ht : L 10 = false := by
          cases h : L 10 with
          | false => rfl
          | true => have := (dS h).1; rw [hL] at this; cases this
        obtain rfl := f0 (hd 0 (by decide))
        obtain rfl := f4 (hd 4 (by decide))
        go_simp
        refine (For_calls _ _ s x _ (V_below HVS.out (Below.then HBX.out hJ.bel)) ⟨_, rfl, Kd.pod.mono (vw_below (Below.then HB.out hJ.bel)) HKX.out⟩ hn hpn).mono ?_
        rw [HFOR.out]
        rintro e w9 ⟨cs, rfl, hk, hb⟩
        exact hK _ _ ⟨[.agg #[.slice A1 s.nodes.length c1, .slice A2 s.pods.length c2, .slice A3 s.budgets.length c3], s25, s26, s27, .agg #[.string x.name, .string x.owner, .int .i64 x.prio, .slice B1 x.need.length d1, .slice B2 x.labels.length d2, .slice B3 x.sel.length d3, .slice B4 x.tols.length d4, .string x.key, .int .i64 x.most, .string x.node, .bool x.hold], .tuple #[.agg cs.toArray, .bool ab], s23, s30, s31, s5, s6], (by simp only [putAll, Act.put, List.setIfInBounds_toArray, List.set_cons_zero, List.set_cons_succ]), .agg #[.slice A1 s.nodes.length c1, .slice A2 s.pods.length c2, .slice A3 s.budgets.length c3], s25, s26, s27, .agg #[.string x.name, .string x.owner, .int .i64 x.prio, .slice B1 x.need.length d1, .slice B2 x.labels.length d2, .slice B3 x.sel.length d3, .slice B4 x.tols.length d4, .string x.key, .int .i64 x.most, .string x.node, .bool x.hold], .tuple #[.agg cs.toArray, .bool ab], s23, s30, s31, s5, s6, .agg cs.toArray, u, rfl, f0, f1, f2, f3, f4, (fun _ => rfl), (fun h => by have h := (f6 h).1; rw [hL] at h; cases h), (fun h => by have h := (f7 h).1; rw [hL] at h; cases h), f8, f11, (fun h => ⟨rfl, (dS h).2⟩), hJ.call1 ht hb hk⟩
      case o6 =>
        rintro L a' W' K ⟨vs, rfl, s24, s25, s26, s27, s28, s29, s23, s30, s31, s5, s6, v, u, rfl, f0, f1, f2, f3, f4, f5, f6, f7, f8, f11, dS, hJ⟩ hL hd hK
        simp only [putAll, Act.put, List.setIfInBounds_toArray, List.set_cons_zero, List.set_cons_succ]
        obtain rfl := f5 (hd 5 (by decide))
        go_simp
        exact hK _ _ ⟨[s24, s25, s26, s27, s28, .tuple #[v, .bool ab], .tuple #[v, .bool ab], s30, s31, s5, s6], (by simp only [putAll, Act.put, List.setIfInBounds_toArray, List.set_cons_zero, List.set_cons_succ]), s24, s25, s26, s27, s28, .tuple #[v, .bool ab], .tuple #[v, .bool ab], s30, s31, s5, s6, v, u, rfl, f0, f1, f2, f3, f4, f5, (fun _ => ⟨hd 5 (by decide), rfl⟩), f7, f8, f11, dS, hJ⟩
      case o7 =>
        rintro L a' W' K ⟨vs, rfl, s24, s25, s26, s27, s28, s29, s23, s30, s31, s5, s6, v, u, rfl, f0, f1, f2, f3, f4, f5, f6, f7, f8, f11, dS, hJ⟩ hL hd hK
        simp only [putAll, Act.put, List.setIfInBounds_toArray, List.set_cons_zero, List.set_cons_succ]
        obtain ⟨-, rfl⟩ := f6 (hd 6 (by decide))
        go_simp
        exact hK _ _ ⟨[s24, s25, s26, s27, s28, s29, .tuple #[v, .bool ab], v, s31, s5, s6], (by simp only [putAll, Act.put, List.setIfInBounds_toArray, List.set_cons_zero, List.set_cons_succ]), s24, s25, s26, s27, s28, s29, .tuple #[v, .bool ab], v, s31, s5, s6, v, u, rfl, f0, f1, f2, f3, f4, f5, f6, (fun _ => ⟨(f6 (hd 6 (by decide))).1, rfl⟩), f8, f11, dS, hJ⟩
      case o8 =>
        rintro L a' W' K ⟨vs, rfl, s24, s25, s26, s27, s28, s29, s23, s30, s31, s5, s6, v, u, rfl, f0, f1, f2, f3, f4, f5, f6, f7, f8, f11, dS, hJ⟩ hL hd hK
        simp only [putAll, Act.put, List.setIfInBounds_toArray, List.set_cons_zero, List.set_cons_succ]
        obtain ⟨-, rfl⟩ := f6 (hd 6 (by decide))
        go_simp
        exact hK _ _ ⟨[s24, s25, s26, s27, s28, s29, .tuple #[v, .bool ab], s30, .bool ab, s5, s6], (by simp only [putAll, Act.put, List.setIfInBounds_toArray, List.set_cons_zero, List.set_cons_succ]), s24, s25, s26, s27, s28, s29, .tuple #[v, .bool ab], s30, .bool ab, s5, s6, v, u, rfl, f0, f1, f2, f3, f4, f5, f6, f7, (fun _ => rfl), f11, dS, hJ⟩
      case o9 =>
        rintro L a' W' K ⟨vs, rfl, s24, s25, s26, s27, s28, s29, s23, s30, s31, s5, s6, v, u, rfl, f0, f1, f2, f3, f4, f5, f6, f7, f8, f11, dS, hJ⟩ hL hd hK
        simp only [putAll, Act.put, List.setIfInBounds_toArray, List.set_cons_zero, List.set_cons_succ]
        have ht : L 10 = false := by
          cases h : L 10 with
          | false => rfl
          | true => have := (dS h).2; rw [hL] at this; cases this
        go_simp
        exact hK _ _ ⟨[s24, s25, s26, s27, s28, s29, s23, s30, s31, .pointer (some ⟨W'.heap.size, 0, none⟩), s6], (by simp only [putAll, Act.put, List.setIfInBounds_toArray, List.set_cons_zero, List.set_cons_succ]), s24, s25, s26, s27, s28, s29, s23, s30, s31, .pointer (some ⟨W'.heap.size, 0, none⟩), s6, v, u, rfl, f0, f1, f2, f3, f4, f5, f6, f7, f8, f11, (fun h => ⟨(dS h).1, rfl⟩), hJ.alloc1 hL ht (old := [.string ⟨#[]⟩, .string ⟨#[]⟩, .slice none 0 0]) rfl⟩
      case o10 =>
        rintro L a' W' K ⟨vs, rfl, s24, s25, s26, s27, s28, s29, s23, s30, s31, s5, s6, v, u, rfl, f0, f1, f2, f3, f4, f5, f6, f7, f8, f11, dS, hJ⟩ hL hd hK
        simp only [putAll, Act.put, List.setIfInBounds_toArray, List.set_cons_zero, List.set_cons_succ]
        obtain ⟨-, rfl⟩ := f7 (hd 7 (by decide))
        obtain ⟨b, cs, rfl, hp, hl, hth, ⟨_, hk⟩, hJ2⟩ := hJ.store1 (hd 5 (by decide)) (hd 9 (by decide)) (fun h => by cases h)
        subst hp
        obtain ⟨A, c, rfl, -⟩ := hk
        rw [if_pos (by rfl)]
        refine wp_store_mid 55 (.tmp 5) (.tmp 30) rfl b 0 _ rfl rfl hth (by kernel_rfl) (by simp [Value.oneCell']) ?_
        exact hK _ _ ⟨[s24, s25, s26, s27, s28, s29, s23, .agg #[.string aw.pod, .string aw.to_, .slice A aw.holds.length c], s31, .pointer (some ⟨b, 0, none⟩), s6], (by simp only [putAll, Act.put, List.setIfInBounds_toArray, List.set_cons_zero, List.set_cons_succ]), s24, s25, s26, s27, s28, s29, s23, .agg #[.string aw.pod, .string aw.to_, .slice A aw.holds.length c], s31, .pointer (some ⟨b, 0, none⟩), s6, _, u, rfl, f0, f1, f2, f3, f4, f5, f6, f7, f8, f11, (fun _ => ⟨hd 5 (by decide), hd 9 (by decide)⟩), hJ2⟩
      case o11 =>
        rintro L a' W' K ⟨vs, rfl, s24, s25, s26, s27, s28, s29, s23, s30, s31, s5, s6, v, u, rfl, f0, f1, f2, f3, f4, f5, f6, f7, f8, f11, dS, hJ⟩ hL hd hK
        simp only [putAll, Act.put, List.setIfInBounds_toArray, List.set_cons_zero, List.set_cons_succ]
        obtain rfl := f8 (hd 8 (by decide))
        go_simp
        exact hK _ _ ⟨[s24, s25, s26, s27, s28, s29, s23, s30, .bool ab, s5, .bool ab], (by simp only [putAll, Act.put, List.setIfInBounds_toArray, List.set_cons_zero, List.set_cons_succ]), s24, s25, s26, s27, s28, s29, s23, s30, .bool ab, s5, .bool ab, v, u, rfl, f0, f1, f2, f3, f4, f5, f6, f7, f8, (fun _ => rfl), dS, hJ⟩
      case rest =>
        rintro L vs W5 ⟨s24, s25, s26, s27, s28, s29, s23, s30, s31, s5, s6, v, u, rfl, f0, f1, f2, f3, f4, f5, f6, f7, f8, f11, -, hJ⟩ hL
        rw [hL 5, hL 9, hL 10] at hJ
        obtain rfl := f0 (hL 0)
        obtain rfl := f1 (hL 1)
        obtain rfl := f2 (hL 2)
        obtain rfl := f3 (hL 3)
        obtain rfl := f4 (hL 4)
        obtain rfl := f5 (hL 5)
        obtain ⟨-, rfl⟩ := f6 (hL 6)
        obtain ⟨-, rfl⟩ := f7 (hL 7)
        obtain rfl := f8 (hL 8)
        obtain rfl := f11 (hL 11)
        obtain ⟨b, cs, rfl, rfl, hq, hk, hlo, hbel⟩ := hJ.done1
        replace HBX := Lib.hid (Below.then HBX.out hbel)
        replace HB := Lib.hid (Below.then HB.out hbel)
        replace HQ := Lib.hid ((hbel.block _ (blk_lt HQ.out)).trans HQ.out)
        replace HEL : Hid (W5.rangeAt lb (lo + k * 11) [.string x.name, .string x.owner, .int .i64 x.prio, .slice B1 x.need.length d1, .slice B2 x.labels.length d2, .slice B3 x.sel.length d3, .slice B4 x.tols.length d4, .string x.key, .int .i64 x.most, .string x.node, .bool x.hold]) := fun j u hu => (hbel.cell (p := ⟨lb, lo + k * 11 + j, none⟩) HLB.out).trans (HEL.out j u hu)
        replace HLB := Lib.hid (Nat.lt_of_lt_of_le HLB.out hbel.size)
        have HW := Lib.hid hq
        have HWK := Lib.hid hk
        obtain ⟨A, c, rfl, -⟩ := hk
        clear hq hbel hlo hJ hL f0 f1 f2 f3 f4 f5 f6 f7 f8 f11 L
        simp only [putAll, Act.put, List.setIfInBounds_toArray, List.set_cons_zero, List.set_cons_succ]
        go_upto_region 10 with fail
        have HSV : Hid (Kd.state.V (vw W5 []) (.agg #[.slice A1 s.nodes.length c1, .slice A2 s.pods.length c2, .slice A3 s.budgets.length c3]) s) := V_below HVS.out HBX.out
        have HXV : Hid (Kd.pod.V (vw W5 []) (.agg #[.string x.name, .string x.owner, .int .i64 x.prio, .slice B1 x.need.length d1, .slice B2 x.labels.length d2, .slice B3 x.sel.length d3, .slice B4 x.tols.length d4, .string x.key, .int .i64 x.most, .string x.node, .bool x.hold]) x) := ⟨_, rfl, Kd.pod.mono (vw_below HB.out) HKX.out⟩
        obtain ⟨N, hN⟩ : ∃ N, (nodesQ s x).length = N := ⟨_, rfl⟩
        have HNN := Lib.hid hN
        have hne := HNE.out
        rw [hN] at hne
        clear hN HNE
        by_cases hc : 0 < N
        · rw [decide_eq_true hc] at hne
          obtain ⟨rfl, h0, hfit⟩ := hne.yes rfl
          have HFIT := Lib.hid hfit
          have hl0 : aw.holds.length = 0 := by rw [h0]; rfl
          rw [hl0] at HW ⊢
          clear hfit hne HWK
          have g0 : decide ((0 : Int) < (N : Int)) = true := by simp; omega
          obtain ⟨z, zf⟩ := blk_all HQ.out
          have hel := HEL.out
          have q0 : W5.cell? ⟨lb, lo + k * 11, none⟩ = some (.string x.name) := hel 0 _ rfl
          have q1 : W5.cell? ⟨lb, lo + k * 11 + 1, none⟩ = some (.string x.owner) := hel 1 _ rfl
          have q2 : W5.cell? ⟨lb, lo + k * 11 + 2, none⟩ = some (.int .i64 x.prio) := hel 2 _ rfl
          have q3 : W5.cell? ⟨lb, lo + k * 11 + 3, none⟩ = some (.slice B1 x.need.length d1) := hel 3 _ rfl
          have q4 : W5.cell? ⟨lb, lo + k * 11 + 4, none⟩ = some (.slice B2 x.labels.length d2) := hel 4 _ rfl
          have q5 : W5.cell? ⟨lb, lo + k * 11 + 5, none⟩ = some (.slice B3 x.sel.length d3) := hel 5 _ rfl
          have q6 : W5.cell? ⟨lb, lo + k * 11 + 6, none⟩ = some (.slice B4 x.tols.length d4) := hel 6 _ rfl
          have q7 : W5.cell? ⟨lb, lo + k * 11 + 7, none⟩ = some (.string x.key) := hel 7 _ rfl
          have q8 : W5.cell? ⟨lb, lo + k * 11 + 8, none⟩ = some (.int .i64 x.most) := hel 8 _ rfl
          have q9 : W5.cell? ⟨lb, lo + k * 11 + 9, none⟩ = some (.string x.node) := hel 9 _ rfl
          have q10 : W5.cell? ⟨lb, lo + k * 11 + 10, none⟩ = some (.bool x.hold) := hel 10 _ rfl
          clear hel
          go_region_held3 (fun w' => (∀ j, w'.cell? ⟨w.heap.size, j, none⟩ = #[.slice A1 s.nodes.length c1, .slice A2 s.pods.length c2, .slice A3 s.budgets.length c3][j]?) ∧ w'.cell? ⟨lb, lo + k * 11, none⟩ = some (.string x.name) ∧ w'.cell? ⟨lb, lo + k * 11 + 1, none⟩ = some (.string x.owner) ∧ w'.cell? ⟨lb, lo + k * 11 + 2, none⟩ = some (.int .i64 x.prio) ∧ w'.cell? ⟨lb, lo + k * 11 + 3, none⟩ = some (.slice B1 x.need.length d1) ∧ w'.cell? ⟨lb, lo + k * 11 + 4, none⟩ = some (.slice B2 x.labels.length d2) ∧ w'.cell? ⟨lb, lo + k * 11 + 5, none⟩ = some (.slice B3 x.sel.length d3) ∧ w'.cell? ⟨lb, lo + k * 11 + 6, none⟩ = some (.slice B4 x.tols.length d4) ∧ w'.cell? ⟨lb, lo + k * 11 + 7, none⟩ = some (.string x.key) ∧ w'.cell? ⟨lb, lo + k * 11 + 8, none⟩ = some (.int .i64 x.most) ∧ w'.cell? ⟨lb, lo + k * 11 + 9, none⟩ = some (.string x.node) ∧ w'.cell? ⟨lb, lo + k * 11 + 10, none⟩ = some (.bool x.hold)) (first | go_keep | exact ⟨z, q0, q1, q2, q3, q4, q5, q6, q7, q8, q9, q10⟩)
            (first
            | (go_at_call 31; (with_reducible refine (Nodes_calls _ _ s x _ (by with_reducible exact Kd.V.mono (vw_below (drew_below _)) HSV.out) (by with_reducible exact Kd.V.mono (vw_below (drew_below _)) HXV.out) hn hpn).mono ?_); rintro e w6 ⟨sv, rfl, ho, hb⟩; obtain ⟨A', c', rfl⟩ := row_form ho; rw [HNN.out]; have hb6 := Below.then (drew_below _) hb; clear ho hb z zf q0 q1 q2 q3 q4 q5 q6 q7 q8 q9 q10; replace HBX := Lib.hid (Below.then HBX.out hb6); replace HB := Lib.hid (Below.then HB.out hb6); replace HQ := Lib.hid ((hb6.block _ (blk_lt HQ.out)).trans HQ.out); replace HW := Lib.hid ((hb6.block _ (blk_lt HW.out)).trans HW.out); replace HSV := Lib.hid (V_below HSV.out hb6); replace HXV := Lib.hid (V_below HXV.out hb6); replace HEL : Hid (w6.rangeAt lb (lo + k * 11) [.string x.name, .string x.owner, .int .i64 x.prio, .slice B1 x.need.length d1, .slice B2 x.labels.length d2, .slice B3 x.sel.length d3, .slice B4 x.tols.length d4, .string x.key, .int .i64 x.most, .string x.node, .bool x.hold]) := fun j u hu => (hb6.cell (p := ⟨lb, lo + k * 11 + j, none⟩) HLB.out).trans (HEL.out j u hu); replace HLB := Lib.hid (Nat.lt_of_lt_of_le HLB.out hb6.size); clear hb6; obtain ⟨z, zf⟩ := blk_all HQ.out; have hel := HEL.out; have q0 : w6.cell? ⟨lb, lo + k * 11, none⟩ = some (.string x.name) := hel 0 _ rfl; have q1 : w6.cell? ⟨lb, lo + k * 11 + 1, none⟩ = some (.string x.owner) := hel 1 _ rfl; have q2 : w6.cell? ⟨lb, lo + k * 11 + 2, none⟩ = some (.int .i64 x.prio) := hel 2 _ rfl; have q3 : w6.cell? ⟨lb, lo + k * 11 + 3, none⟩ = some (.slice B1 x.need.length d1) := hel 3 _ rfl; have q4 : w6.cell? ⟨lb, lo + k * 11 + 4, none⟩ = some (.slice B2 x.labels.length d2) := hel 4 _ rfl; have q5 : w6.cell? ⟨lb, lo + k * 11 + 5, none⟩ = some (.slice B3 x.sel.length d3) := hel 5 _ rfl; have q6 : w6.cell? ⟨lb, lo + k * 11 + 6, none⟩ = some (.slice B4 x.tols.length d4) := hel 6 _ rfl; have q7 : w6.cell? ⟨lb, lo + k * 11 + 7, none⟩ = some (.string x.key) := hel 7 _ rfl; have q8 : w6.cell? ⟨lb, lo + k * 11 + 8, none⟩ = some (.int .i64 x.most) := hel 8 _ rfl; have q9 : w6.cell? ⟨lb, lo + k * 11 + 9, none⟩ = some (.string x.node) := hel 9 _ rfl; have q10 : w6.cell? ⟨lb, lo + k * 11 + 10, none⟩ = some (.bool x.hold) := hel 10 _ rfl; clear hel))
          go_upto_region 11 with fail
          obtain ⟨y, yf⟩ := blk_all HW.out
          go_region_held3 (fun w' => (∀ j, w'.cell? ⟨w.heap.size, j, none⟩ = #[.slice A1 s.nodes.length c1, .slice A2 s.pods.length c2, .slice A3 s.budgets.length c3][j]?) ∧ (∀ j, w'.cell? ⟨b, j, none⟩ = #[.string aw.pod, .string aw.to_, .slice A 0 c][j]?) ∧ w'.cell? ⟨lb, lo + k * 11, none⟩ = some (.string x.name) ∧ w'.cell? ⟨lb, lo + k * 11 + 1, none⟩ = some (.string x.owner) ∧ w'.cell? ⟨lb, lo + k * 11 + 2, none⟩ = some (.int .i64 x.prio) ∧ w'.cell? ⟨lb, lo + k * 11 + 3, none⟩ = some (.slice B1 x.need.length d1) ∧ w'.cell? ⟨lb, lo + k * 11 + 4, none⟩ = some (.slice B2 x.labels.length d2) ∧ w'.cell? ⟨lb, lo + k * 11 + 5, none⟩ = some (.slice B3 x.sel.length d3) ∧ w'.cell? ⟨lb, lo + k * 11 + 6, none⟩ = some (.slice B4 x.tols.length d4) ∧ w'.cell? ⟨lb, lo + k * 11 + 7, none⟩ = some (.string x.key) ∧ w'.cell? ⟨lb, lo + k * 11 + 8, none⟩ = some (.int .i64 x.most) ∧ w'.cell? ⟨lb, lo + k * 11 + 9, none⟩ = some (.string x.node) ∧ w'.cell? ⟨lb, lo + k * 11 + 10, none⟩ = some (.bool x.hold)) (first | go_keep | exact ⟨z, y, q0, q1, q2, q3, q4, q5, q6, q7, q8, q9, q10⟩)
            (first
            | (go_at_call 32; (with_reducible refine (Fit_calls _ _ s x aw.to_ _ (by with_reducible exact Kd.V.mono (vw_below (drew_below _)) HSV.out) (by with_reducible exact Kd.V.mono (vw_below (drew_below _)) HXV.out) hn hpn).mono ?_); rintro e w7 ⟨rfl, hb⟩; rw [HFIT.out]; have hb7 := Below.then (drew_below _) hb; clear hb y yf z zf q0 q1 q2 q3 q4 q5 q6 q7 q8 q9 q10; replace HBX := Lib.hid (Below.then HBX.out hb7); replace HB := Lib.hid (Below.then HB.out hb7); replace HQ := Lib.hid ((hb7.block _ (blk_lt HQ.out)).trans HQ.out); replace HW := Lib.hid ((hb7.block _ (blk_lt HW.out)).trans HW.out); replace HSV := Lib.hid (V_below HSV.out hb7); replace HXV := Lib.hid (V_below HXV.out hb7); replace HEL : Hid (w7.rangeAt lb (lo + k * 11) [.string x.name, .string x.owner, .int .i64 x.prio, .slice B1 x.need.length d1, .slice B2 x.labels.length d2, .slice B3 x.sel.length d3, .slice B4 x.tols.length d4, .string x.key, .int .i64 x.most, .string x.node, .bool x.hold]) := fun j u hu => (hb7.cell (p := ⟨lb, lo + k * 11 + j, none⟩) HLB.out).trans (HEL.out j u hu); replace HLB := Lib.hid (Nat.lt_of_lt_of_le HLB.out hb7.size); clear hb7; obtain ⟨z, zf⟩ := blk_all HQ.out; obtain ⟨y, yf⟩ := blk_all HW.out; have hel := HEL.out; have q0 : w7.cell? ⟨lb, lo + k * 11, none⟩ = some (.string x.name) := hel 0 _ rfl; have q1 : w7.cell? ⟨lb, lo + k * 11 + 1, none⟩ = some (.string x.owner) := hel 1 _ rfl; have q2 : w7.cell? ⟨lb, lo + k * 11 + 2, none⟩ = some (.int .i64 x.prio) := hel 2 _ rfl; have q3 : w7.cell? ⟨lb, lo + k * 11 + 3, none⟩ = some (.slice B1 x.need.length d1) := hel 3 _ rfl; have q4 : w7.cell? ⟨lb, lo + k * 11 + 4, none⟩ = some (.slice B2 x.labels.length d2) := hel 4 _ rfl; have q5 : w7.cell? ⟨lb, lo + k * 11 + 5, none⟩ = some (.slice B3 x.sel.length d3) := hel 5 _ rfl; have q6 : w7.cell? ⟨lb, lo + k * 11 + 6, none⟩ = some (.slice B4 x.tols.length d4) := hel 6 _ rfl; have q7 : w7.cell? ⟨lb, lo + k * 11 + 7, none⟩ = some (.string x.key) := hel 7 _ rfl; have q8 : w7.cell? ⟨lb, lo + k * 11 + 8, none⟩ = some (.int .i64 x.most) := hel 8 _ rfl; have q9 : w7.cell? ⟨lb, lo + k * 11 + 9, none⟩ = some (.string x.node) := hel 9 _ rfl; have q10 : w7.cell? ⟨lb, lo + k * 11 + 10, none⟩ = some (.bool x.hold) := hel 10 _ rfl; clear hel))
          go_wp2
          go_roundw
          case rel => exact ⟨k + 1, by omega, by go_num, HB.out⟩
          case measure => simp [intOf]; omega
        · rw [decide_eq_false hc] at hne
          have g0 : decide ((0 : Int) < (N : Int)) = false := by simp; omega
          obtain ⟨z, zf⟩ := blk_all HQ.out
          have hel := HEL.out
          have q0 : W5.cell? ⟨lb, lo + k * 11, none⟩ = some (.string x.name) := hel 0 _ rfl
          have q1 : W5.cell? ⟨lb, lo + k * 11 + 1, none⟩ = some (.string x.owner) := hel 1 _ rfl
          have q2 : W5.cell? ⟨lb, lo + k * 11 + 2, none⟩ = some (.int .i64 x.prio) := hel 2 _ rfl
          have q3 : W5.cell? ⟨lb, lo + k * 11 + 3, none⟩ = some (.slice B1 x.need.length d1) := hel 3 _ rfl
          have q4 : W5.cell? ⟨lb, lo + k * 11 + 4, none⟩ = some (.slice B2 x.labels.length d2) := hel 4 _ rfl
          have q5 : W5.cell? ⟨lb, lo + k * 11 + 5, none⟩ = some (.slice B3 x.sel.length d3) := hel 5 _ rfl
          have q6 : W5.cell? ⟨lb, lo + k * 11 + 6, none⟩ = some (.slice B4 x.tols.length d4) := hel 6 _ rfl
          have q7 : W5.cell? ⟨lb, lo + k * 11 + 7, none⟩ = some (.string x.key) := hel 7 _ rfl
          have q8 : W5.cell? ⟨lb, lo + k * 11 + 8, none⟩ = some (.int .i64 x.most) := hel 8 _ rfl
          have q9 : W5.cell? ⟨lb, lo + k * 11 + 9, none⟩ = some (.string x.node) := hel 9 _ rfl
          have q10 : W5.cell? ⟨lb, lo + k * 11 + 10, none⟩ = some (.bool x.hold) := hel 10 _ rfl
          clear hel
          go_region_held3 (fun w' => (∀ j, w'.cell? ⟨w.heap.size, j, none⟩ = #[.slice A1 s.nodes.length c1, .slice A2 s.pods.length c2, .slice A3 s.budgets.length c3][j]?) ∧ w'.cell? ⟨lb, lo + k * 11, none⟩ = some (.string x.name) ∧ w'.cell? ⟨lb, lo + k * 11 + 1, none⟩ = some (.string x.owner) ∧ w'.cell? ⟨lb, lo + k * 11 + 2, none⟩ = some (.int .i64 x.prio) ∧ w'.cell? ⟨lb, lo + k * 11 + 3, none⟩ = some (.slice B1 x.need.length d1) ∧ w'.cell? ⟨lb, lo + k * 11 + 4, none⟩ = some (.slice B2 x.labels.length d2) ∧ w'.cell? ⟨lb, lo + k * 11 + 5, none⟩ = some (.slice B3 x.sel.length d3) ∧ w'.cell? ⟨lb, lo + k * 11 + 6, none⟩ = some (.slice B4 x.tols.length d4) ∧ w'.cell? ⟨lb, lo + k * 11 + 7, none⟩ = some (.string x.key) ∧ w'.cell? ⟨lb, lo + k * 11 + 8, none⟩ = some (.int .i64 x.most) ∧ w'.cell? ⟨lb, lo + k * 11 + 9, none⟩ = some (.string x.node) ∧ w'.cell? ⟨lb, lo + k * 11 + 10, none⟩ = some (.bool x.hold)) (first | go_keep | exact ⟨z, q0, q1, q2, q3, q4, q5, q6, q7, q8, q9, q10⟩)
            (first
            | (go_at_call 31; (with_reducible refine (Nodes_calls _ _ s x _ (by with_reducible exact Kd.V.mono (vw_below (drew_below _)) HSV.out) (by with_reducible exact Kd.V.mono (vw_below (drew_below _)) HXV.out) hn hpn).mono ?_); rintro e w6 ⟨sv, rfl, ho, hb⟩; obtain ⟨A', c', rfl⟩ := row_form ho; rw [HNN.out]; have hb6 := Below.then (drew_below _) hb; clear ho hb z zf q0 q1 q2 q3 q4 q5 q6 q7 q8 q9 q10; replace HBX := Lib.hid (Below.then HBX.out hb6); replace HB := Lib.hid (Below.then HB.out hb6); replace HQ := Lib.hid ((hb6.block _ (blk_lt HQ.out)).trans HQ.out); replace HW := Lib.hid ((hb6.block _ (blk_lt HW.out)).trans HW.out); replace HWK := Lib.hid (Kd.way.mono (vw_below hb6) HWK.out); replace HSV := Lib.hid (V_below HSV.out hb6); replace HXV := Lib.hid (V_below HXV.out hb6); replace HEL : Hid (w6.rangeAt lb (lo + k * 11) [.string x.name, .string x.owner, .int .i64 x.prio, .slice B1 x.need.length d1, .slice B2 x.labels.length d2, .slice B3 x.sel.length d3, .slice B4 x.tols.length d4, .string x.key, .int .i64 x.most, .string x.node, .bool x.hold]) := fun j u hu => (hb6.cell (p := ⟨lb, lo + k * 11 + j, none⟩) HLB.out).trans (HEL.out j u hu); replace HLB := Lib.hid (Nat.lt_of_lt_of_le HLB.out hb6.size); clear hb6; obtain ⟨z, zf⟩ := blk_all HQ.out; have hel := HEL.out; have q0 : w6.cell? ⟨lb, lo + k * 11, none⟩ = some (.string x.name) := hel 0 _ rfl; have q1 : w6.cell? ⟨lb, lo + k * 11 + 1, none⟩ = some (.string x.owner) := hel 1 _ rfl; have q2 : w6.cell? ⟨lb, lo + k * 11 + 2, none⟩ = some (.int .i64 x.prio) := hel 2 _ rfl; have q3 : w6.cell? ⟨lb, lo + k * 11 + 3, none⟩ = some (.slice B1 x.need.length d1) := hel 3 _ rfl; have q4 : w6.cell? ⟨lb, lo + k * 11 + 4, none⟩ = some (.slice B2 x.labels.length d2) := hel 4 _ rfl; have q5 : w6.cell? ⟨lb, lo + k * 11 + 5, none⟩ = some (.slice B3 x.sel.length d3) := hel 5 _ rfl; have q6 : w6.cell? ⟨lb, lo + k * 11 + 6, none⟩ = some (.slice B4 x.tols.length d4) := hel 6 _ rfl; have q7 : w6.cell? ⟨lb, lo + k * 11 + 7, none⟩ = some (.string x.key) := hel 7 _ rfl; have q8 : w6.cell? ⟨lb, lo + k * 11 + 8, none⟩ = some (.int .i64 x.most) := hel 8 _ rfl; have q9 : w6.cell? ⟨lb, lo + k * 11 + 9, none⟩ = some (.string x.node) := hel 9 _ rfl; have q10 : w6.cell? ⟨lb, lo + k * 11 + 10, none⟩ = some (.bool x.hold) := hel 10 _ rfl; clear hel))
          go_upto_region 11 with fail
          go_quiet (fail)
          clear z zf q0 q1 q2 q3 q4 q5 q6 q7 q8 q9 q10
          obtain ⟨W7, hW7⟩ : ∃ W7, W7 = w6.drewN nq := ⟨_, rfl⟩
          rw [← hW7]
          have hb7 : Below w6.heap.size w6 W7 := by rw [hW7]; exact drewN_below _ _
          replace HBX := Lib.hid (Below.then HBX.out hb7)
          replace HB := Lib.hid (Below.then HB.out hb7)
          replace HQ := Lib.hid ((hb7.block _ (blk_lt HQ.out)).trans HQ.out)
          replace HW := Lib.hid ((hb7.block _ (blk_lt HW.out)).trans HW.out)
          replace HWK := Lib.hid (Kd.way.mono (vw_below hb7) HWK.out)
          replace HSV := Lib.hid (V_below HSV.out hb7)
          replace HXV := Lib.hid (V_below HXV.out hb7)
          replace HEL : Hid (W7.rangeAt lb (lo + k * 11) [.string x.name, .string x.owner, .int .i64 x.prio, .slice B1 x.need.length d1, .slice B2 x.labels.length d2, .slice B3 x.sel.length d3, .slice B4 x.tols.length d4, .string x.key, .int .i64 x.most, .string x.node, .bool x.hold]) := fun j u hu => (hb7.cell (p := ⟨lb, lo + k * 11 + j, none⟩) HLB.out).trans (HEL.out j u hu)
          replace HLB := Lib.hid (Nat.lt_of_lt_of_le HLB.out hb7.size)
          clear hb7 hW7
          obtain ⟨y, yf⟩ := blk_all HW.out
          cases ab with
          | false =>
            clear hne
            go_wp2
            go_roundw
            case rel => exact ⟨k + 1, by omega, by go_num, HB.out⟩
            case measure => simp [intOf]; omega
          | true =>
            by_cases hh : aw.holds = []
            · have := hne.none rfl hh
              cases this
            · obtain ⟨-, r, lst, hr, hf1, hf2⟩ := hne.some rfl hh
              have HR := Lib.hid hr
              have HF1 := Lib.hid hf1
              have HF2 := Lib.hid hf2
              have g2 : ((aw.holds.length : Int) == 0) = false := by
                have := List.length_pos_iff.2 hh
                simp; omega
              clear hr hf1 hf2 hne
              have hlen0 : 0 < aw.holds.length := List.length_pos_iff.2 hh
              obtain ⟨Aw, cw', hcw, -, hsw⟩ := id HWK.out
              have eA : A = Aw ∧ c = cw' := by simpa using hcw
              obtain ⟨rfl, rfl⟩ := eA
              obtain ⟨-, fw1, fw2⟩ := hsw.form
              obtain ⟨g, o, rfl, -⟩ := hsw.elem1 0 hlen0
              have HSW := Lib.hid hsw
              obtain ⟨z, zf⟩ := blk_all HQ.out
              go_upto_region 17 with fail
              obtain ⟨V, hV⟩ : ∃ V, V = W7.alloc (.cells #[.slice A1 s.nodes.length c1, .slice A2 s.pods.length c2, .slice A3 s.budgets.length c3] 26) := ⟨_, rfl⟩
              have hBV : Below W7.heap.size W7 V := by rw [hV]; exact alloc_below _ _
              have hqV : V.heap[W7.heap.size]? = some (.cells #[.slice A1 s.nodes.length c1, .slice A2 s.pods.length c2, .slice A3 s.budgets.length c3] 26 (0, 0)) := by rw [hV]; exact blk_last W7 _
              change Code.wp _ _ _ _ (W7.alloc (.cells #[.slice A1 s.nodes.length c1, .slice A2 s.pods.length c2, .slice A3 s.budgets.length c3] 26))
              rw [← hV]
              have HBV := Lib.hid hBV
              have HQV := Lib.hid hqV
              have HKV : Hid (Kd.state.K (vw V [W7.heap.size]) s [.slice A1 s.nodes.length c1, .slice A2 s.pods.length c2, .slice A3 s.budgets.length c3]) := by
                obtain ⟨cq, eq, kq⟩ := HSV.out
                obtain rfl : [.slice A1 s.nodes.length c1, .slice A2 s.pods.length c2, .slice A3 s.budgets.length c3] = cq := by simpa using eq
                exact Kd.state.mono (vw_grow hBV (by simp)) kq
              clear hcw hsw hV hBV hqV z zf y yf
              go_wp2
              go_loopw [9] (fun i2 wr => ∃ (j : Nat) (t : St) (ct : List Value), j + 1 ≤ aw.holds.length ∧ i2 = .int .i64 j ∧ t.nodes.length ≤ 1000 ∧ t.pods.length ≤ 1000 ∧ Hid (Below W7.heap.size W7 wr) ∧ Hid (wr.heap[W7.heap.size]? = some (.cells ct.toArray 26 (0, 0))) ∧ Hid (Kd.state.K (vw wr [W7.heap.size]) t ct) ∧ Hid ((aw.holds.take j).foldl dropS s = t)) (fun i2 _ => aw.holds.length - (intOf i2).toNat)
              case atStart => exact ⟨0, s, _, hlen0, rfl, hn, hpn, HBV.out, HQV.out, HKV.out, rfl⟩
              case round =>
                clear HBV HQV HKV
                obtain ⟨j, t, ct, hj, rfl, htn, htp, HBB, HZT, HKT, HT⟩ := hrel
                have hl6 : W7.heap.size < wr.heap.size := blk_lt HZT.out
                have HWR := Lib.hid ((HBB.out.block _ (blk_lt HW.out)).trans HW.out)
                obtain ⟨y, yf⟩ := blk_all HWR.out
                obtain ⟨E1, x1, E2, x2, E3, x3, hcs, -⟩ := id HKT.out
                subst hcs
                obtain ⟨n, hln⟩ : ∃ n, aw.holds.length = n := ⟨_, rfl⟩
                by_cases hlj : j + 1 < aw.holds.length
                · obtain ⟨g', o', eg, hc, -⟩ := (HSW.out.mono (vw_below HBB.out)).elem1 j (by omega)
                  injection eg with eg
                  injection eg with eg1 eg2
                  subst eg1 eg2
                  obtain ⟨nm, hnm⟩ : ∃ nm, aw.holds[j]'(by omega) = nm := ⟨_, rfl⟩
                  have hT2 : (aw.holds.take (j + 1)).foldl dropS s = dropS t nm := by
                    rw [List.take_succ_eq_append_getElem (by omega), List.foldl_append, HT.out, hnm]; rfl
                  have HT2 := Lib.hid hT2
                  rw [hnm] at hc
                  obtain ⟨z, zf⟩ := blk_all HZT.out
                  have b3 : (0 : Int) ≤ (j : Int) := by omega
                  have b4 : (j : Int) < (aw.holds.length : Int) := by omega
                  have b5 : (j : Int) + 1 < (aw.holds.length : Int) := by omega
                  clear hT2 hnm hln
                  go_upto_region 20 with fail
                  go_still_tail 6, (by kernel_rfl)
                  change wpList _ _ _ _ _ wr.drew
                  have z2 : ∀ j, wr.drew.cell? ⟨W7.heap.size, j, none⟩ = #[.slice E1 t.nodes.length x1, .slice E2 t.pods.length x2, .slice E3 t.budgets.length x3][j]? := z
                  have zf2 : ∀ j, wr.drew.frozen? ⟨W7.heap.size, j, none⟩ = false := zf
                  have HZ2 : Hid (wr.drew.heap[W7.heap.size]? = some (.cells #[.slice E1 t.nodes.length x1, .slice E2 t.pods.length x2, .slice E3 t.budgets.length x3] 26 (0, 0))) := HZT.out
                  have HK2 : Hid (Kd.state.K (vw wr.drew [W7.heap.size]) t [.slice E1 t.nodes.length x1, .slice E2 t.pods.length x2, .slice E3 t.budgets.length x3]) := HKT.out
                  have HB2 : Hid (Below W7.heap.size W7 wr.drew) := Below.then HBB.out (drew_below _)
                  have hl7 : W7.heap.size < wr.drew.heap.size := hl6
                  generalize wr.drew = U2 at z2 zf2 HZ2 HK2 HB2 hl7 ⊢
                  clear z zf y yf hc
                  go_wp2_with fail
                  refine (Drop_calls _ t nm _ (M := [W7.heap.size]) ⟨_, rfl, HK2.out⟩ htp (by simp; omega)).mono ?_
                  rintro e w8 ⟨cs3, rfl, ⟨cs3', e2, hk3⟩, hb3⟩
                  obtain rfl : cs3' = cs3 := by simpa using e2.symm
                  clear e2
                  have HK3 := Lib.hid hk3
                  have HB3 := Lib.hid (Below.then HB2.out hb3)
                  have q1 := (hb3.block _ (blk_lt HZ2.out)).trans HZ2.out
                  obtain ⟨D1, y1, D2, y2, D3, y3, rfl, -⟩ := hk3
                  have hdl : (dropS t nm).pods.length ≤ t.pods.length := List.length_filter_le _ _
                  have HQ3' := Lib.hid q1
                  clear z2 zf2 hb3
                  obtain ⟨z, zf⟩ := blk_all q1
                  clear q1
                  go_wp2
                  rw [show (((w8.setCell ⟨W7.heap.size, 0, none⟩ (.slice D1 (dropS t nm).nodes.length y1)).setCell ⟨W7.heap.size, 1, none⟩ (.slice D2 (dropS t nm).pods.length y2)).setCell ⟨W7.heap.size, 2, none⟩ (.slice D3 (dropS t nm).budgets.length y3)) = w8.setCells W7.heap.size 0 [.slice D1 (dropS t nm).nodes.length y1, .slice D2 (dropS t nm).pods.length y2, .slice D3 (dropS t nm).budgets.length y3] from rfl]
                  have kU := setCells_all (cs := [.slice D1 (dropS t nm).nodes.length y1, .slice D2 (dropS t nm).pods.length y2, .slice D3 (dropS t nm).budgets.length y3]) HQ3'.out rfl
                  go_roundw
                  case rel => exact ⟨j + 1, dropS t nm, _, by omega, by go_num, htn, by omega, Below.setCells HB3.out (Nat.le_refl _) _ _, kU, Kd.state.mono (vw_setCells (List.mem_cons_self ..) _ _) HK3.out, HT2.out⟩
                  case measure => simp [intOf]; omega
                · have hlen : aw.holds.length = j + 1 := by omega
                  have hrl : r.length = j := by
                    have := HR.out
                    rw [this] at hlen
                    simpa using hlen
                  have htk : aw.holds.take j = r := by rw [HR.out, ← hrl, List.take_left]
                  have hlast : aw.holds[j]'(by omega) = lst := by
                    have h := List.getElem_of_eq HR.out (i := j) (by omega)
                    rw [h, List.getElem_append_right (by omega)]
                    simp [hrl]
                  have hte : r.foldl dropS s = t := by rw [← htk]; exact HT.out
                  obtain ⟨g', o', eg, hc, -⟩ := (HSW.out.mono (vw_below HBB.out)).elem1 j (by omega)
                  injection eg with eg
                  injection eg with eg1 eg2
                  subst eg1 eg2
                  rw [hlast] at hc
                  have hf1 := HF1.out
                  have hf2 := HF2.out
                  rw [hte] at hf1 hf2
                  obtain ⟨F1, hF1⟩ : ∃ F, fitQ t x aw.to_ = F := ⟨_, rfl⟩
                  rw [hF1] at hf1
                  have HFA := Lib.hid hF1
                  have HFB := Lib.hid hf2
                  have t1 : (F1 == 0) = false := by simp [hf1]
                  have HC := Lib.hid hc
                  have HGB : Hid (g < wr.heap.size) := World.block_lt_of_cell? wr _ hc
                  rw [hln] at HWR
                  obtain ⟨y', yf'⟩ := blk_all HWR.out
                  have HTV : Hid (Kd.state.V (vw wr []) (.agg #[.slice E1 t.nodes.length x1, .slice E2 t.pods.length x2, .slice E3 t.budgets.length x3]) t) := ⟨_, rfl, Kd.state.mono (vw_sub (by simp)) HKT.out⟩
                  have HXV2 := Lib.hid (V_below HXV.out HBB.out)
                  have HELW : Hid (wr.rangeAt lb (lo + k * 11) [.string x.name, .string x.owner, .int .i64 x.prio, .slice B1 x.need.length d1, .slice B2 x.labels.length d2, .slice B3 x.sel.length d3, .slice B4 x.tols.length d4, .string x.key, .int .i64 x.most, .string x.node, .bool x.hold]) := fun j u hu => (HBB.out.cell (p := ⟨lb, lo + k * 11 + j, none⟩) HLB.out).trans (HEL.out j u hu)
                  have HLBW := Lib.hid (Nat.lt_of_lt_of_le HLB.out HBB.out.size)
                  have HBW := Lib.hid (Below.then HB.out HBB.out)
                  have hnj : n = j + 1 := by omega
                  have ws1 : IntKind.i64.wrap ((n : Int) - 1) = (j : Int) := by
                    have e : ((n : Int) - 1) = (j : Int) := by omega
                    rw [e]
                    exact IntWalk.i64_in (j : Int) (by omega)
                  have b3 : (0 : Int) ≤ (j : Int) := by omega
                  have b4 : (j : Int) < (n : Int) := by omega
                  have b5 : ¬ ((j : Int) + 1 < (n : Int)) := by omega
                  rw [hln]
                  clear y yf hc hf1 hf2 hF1 hte htk hlast hrl hnj
                  go_upto_region 21 with fail
                  have hdn : (dropS t lst).nodes.length ≤ 1000 := htn
                  have hdl : (dropS t lst).pods.length ≤ 1000 := Nat.le_trans (List.length_filter_le _ _) htp
                  obtain ⟨z, zf⟩ := blk_all HZT.out
                  obtain ⟨y, yf⟩ := blk_all HWR.out
                  have qs := HC.out
                  have hel := HELW.out
                  have q0 : wr.cell? ⟨lb, lo + k * 11, none⟩ = some (.string x.name) := hel 0 _ rfl
                  have q1 : wr.cell? ⟨lb, lo + k * 11 + 1, none⟩ = some (.string x.owner) := hel 1 _ rfl
                  have q2 : wr.cell? ⟨lb, lo + k * 11 + 2, none⟩ = some (.int .i64 x.prio) := hel 2 _ rfl
                  have q3 : wr.cell? ⟨lb, lo + k * 11 + 3, none⟩ = some (.slice B1 x.need.length d1) := hel 3 _ rfl
                  have q4 : wr.cell? ⟨lb, lo + k * 11 + 4, none⟩ = some (.slice B2 x.labels.length d2) := hel 4 _ rfl
                  have q5 : wr.cell? ⟨lb, lo + k * 11 + 5, none⟩ = some (.slice B3 x.sel.length d3) := hel 5 _ rfl
                  have q6 : wr.cell? ⟨lb, lo + k * 11 + 6, none⟩ = some (.slice B4 x.tols.length d4) := hel 6 _ rfl
                  have q7 : wr.cell? ⟨lb, lo + k * 11 + 7, none⟩ = some (.string x.key) := hel 7 _ rfl
                  have q8 : wr.cell? ⟨lb, lo + k * 11 + 8, none⟩ = some (.int .i64 x.most) := hel 8 _ rfl
                  have q9 : wr.cell? ⟨lb, lo + k * 11 + 9, none⟩ = some (.string x.node) := hel 9 _ rfl
                  have q10 : wr.cell? ⟨lb, lo + k * 11 + 10, none⟩ = some (.bool x.hold) := hel 10 _ rfl
                  clear hel
                  go_region_held3 (fun w' => (∀ j', w'.cell? ⟨W7.heap.size, j', none⟩ = #[.slice E1 t.nodes.length x1, .slice E2 t.pods.length x2, .slice E3 t.budgets.length x3][j']?) ∧ (∀ j', w'.cell? ⟨b, j', none⟩ = #[.string aw.pod, .string aw.to_, .slice (some ⟨g, o, none⟩) n c][j']?) ∧ w'.cell? ⟨g, o + j, none⟩ = some (.string lst) ∧ w'.cell? ⟨lb, lo + k * 11, none⟩ = some (.string x.name) ∧ w'.cell? ⟨lb, lo + k * 11 + 1, none⟩ = some (.string x.owner) ∧ w'.cell? ⟨lb, lo + k * 11 + 2, none⟩ = some (.int .i64 x.prio) ∧ w'.cell? ⟨lb, lo + k * 11 + 3, none⟩ = some (.slice B1 x.need.length d1) ∧ w'.cell? ⟨lb, lo + k * 11 + 4, none⟩ = some (.slice B2 x.labels.length d2) ∧ w'.cell? ⟨lb, lo + k * 11 + 5, none⟩ = some (.slice B3 x.sel.length d3) ∧ w'.cell? ⟨lb, lo + k * 11 + 6, none⟩ = some (.slice B4 x.tols.length d4) ∧ w'.cell? ⟨lb, lo + k * 11 + 7, none⟩ = some (.string x.key) ∧ w'.cell? ⟨lb, lo + k * 11 + 8, none⟩ = some (.int .i64 x.most) ∧ w'.cell? ⟨lb, lo + k * 11 + 9, none⟩ = some (.string x.node) ∧ w'.cell? ⟨lb, lo + k * 11 + 10, none⟩ = some (.bool x.hold)) (first | go_keep | exact ⟨z, y, qs, q0, q1, q2, q3, q4, q5, q6, q7, q8, q9, q10⟩)
                    (first
                    | (go_at_call 32; (with_reducible refine (Fit_calls _ _ t x aw.to_ _ (by with_reducible first | exact HTV.out | exact Kd.V.mono (vw_below (drew_below _)) HTV.out) (by with_reducible first | exact HXV2.out | exact Kd.V.mono (vw_below (drew_below _)) HXV2.out) htn htp).mono ?_); rintro e w9 ⟨rfl, hb⟩; rw [HFA.out]; have hb9 := Below.then (drew_below _) hb; clear hb z zf y yf qs q0 q1 q2 q3 q4 q5 q6 q7 q8 q9 q10; replace HZT := Lib.hid ((hb9.block _ (blk_lt HZT.out)).trans HZT.out); replace HWR := Lib.hid ((hb9.block _ (blk_lt HWR.out)).trans HWR.out); replace HC := Lib.hid ((hb9.cell (p := ⟨g, o + j, none⟩) HGB.out).trans HC.out); replace HGB := Lib.hid (Nat.lt_of_lt_of_le HGB.out hb9.size); replace HELW : Hid (w9.rangeAt lb (lo + k * 11) [.string x.name, .string x.owner, .int .i64 x.prio, .slice B1 x.need.length d1, .slice B2 x.labels.length d2, .slice B3 x.sel.length d3, .slice B4 x.tols.length d4, .string x.key, .int .i64 x.most, .string x.node, .bool x.hold]) := fun j u hu => (hb9.cell (p := ⟨lb, lo + k * 11 + j, none⟩) HLBW.out).trans (HELW.out j u hu); replace HLBW := Lib.hid (Nat.lt_of_lt_of_le HLBW.out hb9.size); replace HBW := Lib.hid (Below.then HBW.out hb9); replace HTV := Lib.hid (V_below HTV.out hb9); replace HXV2 := Lib.hid (V_below HXV2.out hb9); clear hb9; obtain ⟨z, zf⟩ := blk_all HZT.out; obtain ⟨y, yf⟩ := blk_all HWR.out; have qs := HC.out; have hel := HELW.out; have q0 : w9.cell? ⟨lb, lo + k * 11, none⟩ = some (.string x.name) := hel 0 _ rfl; have q1 : w9.cell? ⟨lb, lo + k * 11 + 1, none⟩ = some (.string x.owner) := hel 1 _ rfl; have q2 : w9.cell? ⟨lb, lo + k * 11 + 2, none⟩ = some (.int .i64 x.prio) := hel 2 _ rfl; have q3 : w9.cell? ⟨lb, lo + k * 11 + 3, none⟩ = some (.slice B1 x.need.length d1) := hel 3 _ rfl; have q4 : w9.cell? ⟨lb, lo + k * 11 + 4, none⟩ = some (.slice B2 x.labels.length d2) := hel 4 _ rfl; have q5 : w9.cell? ⟨lb, lo + k * 11 + 5, none⟩ = some (.slice B3 x.sel.length d3) := hel 5 _ rfl; have q6 : w9.cell? ⟨lb, lo + k * 11 + 6, none⟩ = some (.slice B4 x.tols.length d4) := hel 6 _ rfl; have q7 : w9.cell? ⟨lb, lo + k * 11 + 7, none⟩ = some (.string x.key) := hel 7 _ rfl; have q8 : w9.cell? ⟨lb, lo + k * 11 + 8, none⟩ = some (.int .i64 x.most) := hel 8 _ rfl; have q9 : w9.cell? ⟨lb, lo + k * 11 + 9, none⟩ = some (.string x.node) := hel 9 _ rfl; have q10 : w9.cell? ⟨lb, lo + k * 11 + 10, none⟩ = some (.bool x.hold) := hel 10 _ rfl; clear hel)
                    | (go_at_call 33; (with_reducible refine (Drop_calls _ t lst _ (M := []) (by with_reducible exact HTV.out) htp).mono ?_); rintro e w10 ⟨cs3, rfl, hv3, hb⟩; have HVD := Lib.hid hv3; clear hv3 z zf y yf qs q0 q1 q2 q3 q4 q5 q6 q7 q8 q9 q10; replace HZT := Lib.hid ((hb.block _ (blk_lt HZT.out)).trans HZT.out); replace HWR := Lib.hid ((hb.block _ (blk_lt HWR.out)).trans HWR.out); replace HC := Lib.hid ((hb.cell (p := ⟨g, o + j, none⟩) HGB.out).trans HC.out); replace HGB := Lib.hid (Nat.lt_of_lt_of_le HGB.out hb.size); replace HELW : Hid (w10.rangeAt lb (lo + k * 11) [.string x.name, .string x.owner, .int .i64 x.prio, .slice B1 x.need.length d1, .slice B2 x.labels.length d2, .slice B3 x.sel.length d3, .slice B4 x.tols.length d4, .string x.key, .int .i64 x.most, .string x.node, .bool x.hold]) := fun j u hu => (hb.cell (p := ⟨lb, lo + k * 11 + j, none⟩) HLBW.out).trans (HELW.out j u hu); replace HLBW := Lib.hid (Nat.lt_of_lt_of_le HLBW.out hb.size); replace HBW := Lib.hid (Below.then HBW.out hb); replace HTV := Lib.hid (V_below HTV.out hb); replace HXV2 := Lib.hid (V_below HXV2.out hb); clear hb; obtain ⟨z, zf⟩ := blk_all HZT.out; obtain ⟨y, yf⟩ := blk_all HWR.out; have qs := HC.out; have hel := HELW.out; have q0 : w10.cell? ⟨lb, lo + k * 11, none⟩ = some (.string x.name) := hel 0 _ rfl; have q1 : w10.cell? ⟨lb, lo + k * 11 + 1, none⟩ = some (.string x.owner) := hel 1 _ rfl; have q2 : w10.cell? ⟨lb, lo + k * 11 + 2, none⟩ = some (.int .i64 x.prio) := hel 2 _ rfl; have q3 : w10.cell? ⟨lb, lo + k * 11 + 3, none⟩ = some (.slice B1 x.need.length d1) := hel 3 _ rfl; have q4 : w10.cell? ⟨lb, lo + k * 11 + 4, none⟩ = some (.slice B2 x.labels.length d2) := hel 4 _ rfl; have q5 : w10.cell? ⟨lb, lo + k * 11 + 5, none⟩ = some (.slice B3 x.sel.length d3) := hel 5 _ rfl; have q6 : w10.cell? ⟨lb, lo + k * 11 + 6, none⟩ = some (.slice B4 x.tols.length d4) := hel 6 _ rfl; have q7 : w10.cell? ⟨lb, lo + k * 11 + 7, none⟩ = some (.string x.key) := hel 7 _ rfl; have q8 : w10.cell? ⟨lb, lo + k * 11 + 8, none⟩ = some (.int .i64 x.most) := hel 8 _ rfl; have q9 : w10.cell? ⟨lb, lo + k * 11 + 9, none⟩ = some (.string x.node) := hel 9 _ rfl; have q10 : w10.cell? ⟨lb, lo + k * 11 + 10, none⟩ = some (.bool x.hold) := hel 10 _ rfl; clear hel)
                    | (go_at_call 32; (with_reducible refine (Fit_calls _ _ (dropS t lst) x aw.to_ _ (by with_reducible exact HVD.out) (by with_reducible exact HXV2.out) hdn hdl).mono ?_); rintro e w11 ⟨rfl, hb⟩; rw [HFB.out]; clear HVD z zf y yf qs q0 q1 q2 q3 q4 q5 q6 q7 q8 q9 q10; replace HZT := Lib.hid ((hb.block _ (blk_lt HZT.out)).trans HZT.out); replace HWR := Lib.hid ((hb.block _ (blk_lt HWR.out)).trans HWR.out); replace HC := Lib.hid ((hb.cell (p := ⟨g, o + j, none⟩) HGB.out).trans HC.out); replace HGB := Lib.hid (Nat.lt_of_lt_of_le HGB.out hb.size); replace HELW : Hid (w11.rangeAt lb (lo + k * 11) [.string x.name, .string x.owner, .int .i64 x.prio, .slice B1 x.need.length d1, .slice B2 x.labels.length d2, .slice B3 x.sel.length d3, .slice B4 x.tols.length d4, .string x.key, .int .i64 x.most, .string x.node, .bool x.hold]) := fun j u hu => (hb.cell (p := ⟨lb, lo + k * 11 + j, none⟩) HLBW.out).trans (HELW.out j u hu); replace HLBW := Lib.hid (Nat.lt_of_lt_of_le HLBW.out hb.size); replace HBW := Lib.hid (Below.then HBW.out hb); replace HTV := Lib.hid (V_below HTV.out hb); replace HXV2 := Lib.hid (V_below HXV2.out hb); clear hb; obtain ⟨z, zf⟩ := blk_all HZT.out; obtain ⟨y, yf⟩ := blk_all HWR.out; have qs := HC.out; have hel := HELW.out; have q0 : w11.cell? ⟨lb, lo + k * 11, none⟩ = some (.string x.name) := hel 0 _ rfl; have q1 : w11.cell? ⟨lb, lo + k * 11 + 1, none⟩ = some (.string x.owner) := hel 1 _ rfl; have q2 : w11.cell? ⟨lb, lo + k * 11 + 2, none⟩ = some (.int .i64 x.prio) := hel 2 _ rfl; have q3 : w11.cell? ⟨lb, lo + k * 11 + 3, none⟩ = some (.slice B1 x.need.length d1) := hel 3 _ rfl; have q4 : w11.cell? ⟨lb, lo + k * 11 + 4, none⟩ = some (.slice B2 x.labels.length d2) := hel 4 _ rfl; have q5 : w11.cell? ⟨lb, lo + k * 11 + 5, none⟩ = some (.slice B3 x.sel.length d3) := hel 5 _ rfl; have q6 : w11.cell? ⟨lb, lo + k * 11 + 6, none⟩ = some (.slice B4 x.tols.length d4) := hel 6 _ rfl; have q7 : w11.cell? ⟨lb, lo + k * 11 + 7, none⟩ = some (.string x.key) := hel 7 _ rfl; have q8 : w11.cell? ⟨lb, lo + k * 11 + 8, none⟩ = some (.int .i64 x.most) := hel 8 _ rfl; have q9 : w11.cell? ⟨lb, lo + k * 11 + 9, none⟩ = some (.string x.node) := hel 9 _ rfl; have q10 : w11.cell? ⟨lb, lo + k * 11 + 10, none⟩ = some (.bool x.hold) := hel 10 _ rfl; clear hel))
                  go_wp2
                  go_roundw
                  case rel => exact ⟨k + 1, by omega, by go_num, HBW.out⟩
                  case measure => simp [intOf]; omega
    · obtain rfl : k = PL.length := by omega
      go_wp2
      go_ret
      exact ⟨rfl, HBX.out⟩
end Go.Proofs.YtnmhicgbdalniaaGreatDoor
