import Derived.Test.YtnmhicgbdalniaaGreatDoorMi10
import Derived.Test.YtnmhicgbdalniaaGreatDoorMi29
import Derived.Test.YtnmhicgbdalniaaGreatDoorMi33
import Derived.Test.YtnmhicgbdalniaaGreatDoorMi34
import Derived.Test.YtnmhicgbdalniaaGreatDoorMi39
import Derived.Test.YtnmhicgbdalniaaGreatDoorMi40
import Derived.Test.YtnmhicgbdalniaaGreatDoorMi44
import Derived.Test.YtnmhicgbdalniaaGreatDoorMi45
namespace Go.Proofs.YtnmhicgbdalniaaGreatDoor
open Go.RowKit

/-! A pod put in; a way that is gone: the plain law. -/
def insN (p : Pd) : List Pd → List Pd
  | [] => [p]
  | x :: r => if ltS x.name p.name = true then x :: insN p r else p :: x :: r
def putS (s : St) (p : Pd) : St := { s with pods := insN p (dropS s p.name).pods }
theorem insN_perm (p : Pd) : ∀ l, (insN p l).Perm (p :: l)
  | [] => List.Perm.refl _
  | x :: r => by
    unfold insN
    split
    · exact ((insN_perm p r).cons x).trans (List.Perm.swap p x r)
    · exact List.Perm.refl _
theorem insN_up (p : Pd) : ∀ l, UpN Pd.name l → (∀ x ∈ l, x.name ≠ p.name) → UpN Pd.name (insN p l)
  | [], _, _ => by simp [insN, UpN]
  | x :: r, h, hne => by
    obtain ⟨h1, h2⟩ := List.pairwise_cons.1 h
    unfold insN
    split
    · rename_i hlt
      refine List.pairwise_cons.2 ⟨fun y hy => ?_, insN_up p r h2 (fun y hy => hne y (List.mem_cons_of_mem _ hy))⟩
      rcases List.mem_cons.1 ((insN_perm p r).mem_iff.1 hy) with rfl | hy
      · exact hlt
      · exact h1 y hy
    · rename_i hn
      have hlt : ltS p.name x.name = true := by
        cases hc : ltS p.name x.name with
        | true => rfl
        | false => exact absurd (ltS_tri hn (by rw [hc]; decide)) (hne x (List.mem_cons_self ..))
      refine List.pairwise_cons.2 ⟨fun y hy => ?_, h⟩
      rcases List.mem_cons.1 hy with rfl | hy
      · exact hlt
      · exact ltS_trans hlt (h1 y hy)
theorem drop_mem {s : St} {name : ByteArray} {q : Pd} : q ∈ (dropS s name).pods ↔ q ∈ s.pods ∧ q.name ≠ name := by
  unfold dropS isNm
  rw [List.mem_filter]
  simp
theorem put_mem {s : St} {p q : Pd} : q ∈ (putS s p).pods ↔ q = p ∨ q ∈ s.pods ∧ q.name ≠ p.name := by
  show q ∈ insN p _ ↔ _
  rw [(insN_perm p _).mem_iff, List.mem_cons, drop_mem]
theorem put_len (s : St) (p : Pd) : (putS s p).pods.length = (dropS s p.name).pods.length + 1 := by
  show (insN p _).length = _
  rw [(insN_perm p _).length_eq, List.length_cons]
theorem put_at (s : St) (p : Pd) (m x : ByteArray) : tot Pd.need (onAt (putS s p) m) x = tot Pd.need (onAt (dropS s p.name) m) x + (if p.node = m then getA p.need x else 0) := by
  have h1 : tot Pd.need (onAt (putS s p) m) x = tot Pd.need ((p :: (dropS s p.name).pods).filter (onB m)) x := tot_perm Pd.need ((insN_perm p (dropS s p.name).pods).filter (onB m)) x
  rw [h1]
  by_cases e : p.node = m
  · rw [if_pos e, List.filter_cons_of_pos (by simp [onB, e])]
    show getA p.need x + tot Pd.need (onAt (dropS s p.name) m) x = _
    omega
  · rw [if_neg e, List.filter_cons_of_neg (by simp [onB, e])]
    show tot Pd.need (onAt (dropS s p.name) m) x = _
    omega
theorem Sound.put {s : St} (h : Sound s) {p : Pd} (hp : checkPod p = 0) (hv : podV s p = 0) (hl : s.pods.length < 128)
    (hr : ∀ n ∈ s.nodes, p.node = n.name → ∀ x, tot Pd.need (onAt (dropS s p.name) n.name) x + getA p.need x ≤ getA n.cap x) : Sound (putS s p) where
  nlen := h.nlen
  nok := h.nok
  nup := h.nup
  plen := by
    rw [put_len]
    have : (dropS s p.name).pods.length ≤ s.pods.length := List.length_filter_le _ _
    omega
  pok := fun q hq => by
    rcases put_mem.1 hq with rfl | ⟨hq, -⟩
    · exact hp
    · exact h.pok q hq
  pup := insN_up p _ (h.drop p.name).pup (fun x hx => (drop_mem.1 hx).2)
  bok := h.bok
  there := fun q hq => by
    rcases put_mem.1 hq with rfl | ⟨hq, -⟩
    · exact hv
    · exact h.there q hq
  room := fun n hn x => by
    rw [put_at]
    have h1 := (h.drop p.name).room n hn x
    by_cases e : p.node = n.name
    · rw [if_pos e]
      exact hr n hn e x
    · rw [if_neg e]; omega
  total := h.total
theorem pod_nowhere {p : Pd} (h : checkPod p = 0) : checkPod { p with node := ⟨#[]⟩ } = 0 := pod_at h (by unfold maybeV emptyB; simp)
/-- A pod put in that is nowhere. -/
theorem Sound.putNowhere {s : St} (h : Sound s) {p : Pd} (hp : checkPod p = 0) (hn : p.node = ⟨#[]⟩) (hl : s.pods.length < 128) : Sound (putS s p) :=
  h.put hp (by unfold podV emptyB; rw [hn]; simp) hl fun n hm e => by
    have := name_full (node_name (h.nok n hm))
    unfold emptyB at this
    rw [decide_eq_false_iff_not] at this
    exact absurd (e.symm.trans hn) this
theorem drop_comm (s : St) (a b : ByteArray) : dropS (dropS s a) b = dropS (dropS s b) a := by
  unfold dropS
  simp only [List.filter_filter]
  congr 2
  funext p
  exact Bool.and_comm _ _
/-- Placeholders don't count for the spread. -/
theorem skew_hold {s : St} {name : ByteArray} (h : ∀ q ∈ s.pods, q.name = name → q.hold = true) (p : Pd) (m : ByteArray) : skewV (dropS s name) p m = skewV s p m := by
  have hc : ∀ dom, countV (dropS s name) p dom (dropS s name).pods = countV s p dom s.pods := fun dom => by
    unfold countV
    show List.countP _ (s.pods.filter _) = _
    rw [List.countP_filter]
    refine List.countP_congr fun q hq => ?_
    show (other p q && inDom s q.node p.key dom && !isNm name q) = true ↔ _
    by_cases e : q.name = name
    · have : other p q = false := by
        unfold other
        rw [h q hq e]
        simp
      rw [this]; simp
    · have : isNm name q = false := decide_eq_false e
      rw [this]; simp
  have hl : ∀ (own : ByteArray) (here : Nat) (l : List (List UInt8)), leastV (dropS s name) p own here l = leastV s p own here l := fun own here l => by
    unfold leastV
    simp only [hc]
  have hh : ∀ own, hereV (dropS s name) p own = hereV s p own := fun own => by unfold hereV; rw [hc]
  unfold skewV
  simp only [hl, hh]
  rfl
theorem fit_mono {s t : St} (h0 : Apart s.pods) (ht : Sound t) (hsub : ∀ q ∈ t.pods, q ∈ s.pods) {x : Pd} (hx : x ∈ s.pods) (hh : x.hold = true) {p : Pd} {name : ByteArray} (hp : GoodV p.need) (hf : fitV t p name = 0) : fitV (dropS t x.name) p name = 0 := by
  show fitD (dropS (dropS t x.name) p.name) p name = 0
  rw [drop_comm]
  obtain ⟨h1, h2, h3, h4, h5, h6⟩ := fitD_says (show fitD (dropS t p.name) p name = 0 from hf)
  have hu := ht.drop p.name
  have hq : ∀ q ∈ (dropS t p.name).pods, q.name = x.name → q.hold = true := fun q hq e => by
    have := apart_one h0 q (hsub q (drop_mem.1 hq).1) x hx e
    rw [this]; exact hh
  obtain ⟨n, hn, rfl⟩ := find_has.1 h1
  obtain ⟨v, e1, v1⟩ := hu.free (n := n) hn
  obtain ⟨v', e2, v2⟩ := (hu.drop x.name).free (n := n) hn
  refine fitD_mk h1 h2 h3 ?_ (by rw [e2]) ?_
  · unfold skewOk
    rw [skew_hold hq]
    exact h4
  · rw [e1] at h6
    rw [e2]
    have h7 := (fits_iff hp (fun y => by rw [v1]; have := hu.room n hn y; omega)).1 h6
    refine (fits_iff hp (fun y => by rw [v2]; have := (hu.drop x.name).room n hn y; omega)).2 fun y => ?_
    have k1 := h7 y
    rw [v1] at k1
    rw [v2]
    have k2 := tot_sub Pd.need (onAt_sub (s := dropS t p.name) (l := (dropS (dropS t p.name) x.name).pods) List.filter_sublist n.name) (hu.needs _) y
    have k3 : tot Pd.need (onAt (dropS (dropS t p.name) x.name) n.name) y ≤ tot Pd.need (onAt (dropS t p.name) n.name) y := k2
    omega
def holdsOf (l : List Pd) : List ByteArray := (l.filter (·.hold)).map (·.name)
def allOff (s : St) (name : ByteArray) : St := (holdsOf (onV s name)).foldl dropS s
theorem holdsOf_cons (x : Pd) (l : List Pd) : holdsOf (x :: l) = if x.hold = true then x.name :: holdsOf l else holdsOf l := by
  unfold holdsOf
  by_cases h : x.hold = true
  · rw [List.filter_cons_of_pos h, if_pos h]; rfl
  · rw [List.filter_cons_of_neg h, if_neg h]
theorem onGo_ok {F : FitF} {p : Pd} {name : ByteArray} {M : St → Prop} : ∀ (l : List Pd) (s : St) (out : List ByteArray), M s → (∀ t, M t → ∀ x ∈ l, x.hold = true → M (dropS t x.name) ∧ (F t p name = 0 → F (dropS t x.name) p name = 0)) →
    F s p name ≠ 0 → ((onGo F p name s l out).2 = true ↔ F ((holdsOf l).foldl dropS s) p name = 0)
  | [], s, out, _, _, hf => by
    show false = true ↔ F s p name = 0
    exact ⟨fun h => (by cases h), fun h => absurd h hf⟩
  | x :: l, s, out, hs, hm, hf => by
    have hm' : ∀ t, M t → ∀ y ∈ l, y.hold = true → M (dropS t y.name) ∧ (F t p name = 0 → F (dropS t y.name) p name = 0) := fun t ht y hy => hm t ht y (List.mem_cons_of_mem _ hy)
    rw [holdsOf_cons]
    unfold onGo
    by_cases h : x.hold = true
    · rw [if_pos h, if_pos h, List.foldl_cons]
      obtain ⟨m1, -⟩ := hm s hs x (List.mem_cons_self ..) h
      by_cases h0 : F (dropS s x.name) p name = 0
      · rw [if_pos h0]
        have key : ∀ (k : List Pd) (t : St), M t → (∀ y ∈ k, y ∈ l) → F t p name = 0 → F ((holdsOf k).foldl dropS t) p name = 0 := by
          intro k
          induction k with
          | nil => exact fun t _ _ h => h
          | cons y k ih =>
            intro t ht hk hF
            rw [holdsOf_cons]
            split
            · rename_i hy
              obtain ⟨q1, q2⟩ := hm' t ht y (hk y (List.mem_cons_self ..)) hy
              exact ih _ q1 (fun z hz => hk z (List.mem_cons_of_mem _ hz)) (q2 hF)
            · exact ih t ht (fun z hz => hk z (List.mem_cons_of_mem _ hz)) hF
        exact ⟨fun _ => key l _ m1 (fun _ h => h) h0, fun _ => rfl⟩
      · rw [if_neg h0]
        exact onGo_ok l _ _ m1 hm' h0
    · rw [if_neg h, if_neg h]
      exact onGo_ok l s out hs hm' hf
theorem onGo_pre {F : FitF} {p : Pd} {name : ByteArray} : ∀ (l : List Pd) (s : St) (out h : List ByteArray), onGo F p name s l out = (h, true) → ∃ r, h = out ++ r ∧ r <+: holdsOf l ∧ F (r.foldl dropS s) p name = 0
  | [], s, out, h, e => by simp [onGo] at e
  | x :: l, s, out, h, e => by
    unfold onGo at e
    rw [holdsOf_cons]
    by_cases hh : x.hold = true
    · rw [if_pos hh] at e ⊢
      split at e
      · rename_i h0
        injection e with e _
        exact ⟨[x.name], e.symm, ⟨holdsOf l, rfl⟩, h0⟩
      · obtain ⟨r, e1, ⟨k, e2⟩, e3⟩ := onGo_pre l _ _ _ e
        exact ⟨x.name :: r, by rw [e1]; simp, ⟨k, by rw [← e2]; rfl⟩, e3⟩
    · rw [if_neg hh] at e ⊢
      exact onGo_pre l s out h e
theorem onW_pre {F : FitF} {s : St} {p : Pd} {name : ByteArray} {h : List ByteArray} (e : onW F s p name = (h, true)) : h <+: holdsOf (onV s name) ∧ F (h.foldl dropS s) p name = 0 := by
  unfold onW at e
  split at e
  · rename_i h0
    injection e with e _
    subst e
    exact ⟨List.nil_prefix, h0⟩
  · obtain ⟨r, e1, e2, e3⟩ := onGo_pre _ _ _ _ e
    have : h = r := by simpa using e1
    subst this
    exact ⟨e2, e3⟩
theorem onV_mem {s : St} {name : ByteArray} {x : Pd} (h : x ∈ onV s name) : x ∈ s.pods ∧ x.node = name := by
  unfold onV at h
  obtain ⟨h1, h2⟩ := List.mem_filter.1 h
  simp only [Bool.and_eq_true, decide_eq_true_eq] at h2
  exact ⟨h1, h2.1⟩
/-- A node's way is there just where the pod fits without all placeholders. -/
theorem onW_ok {s : St} (hs : Sound s) {p : Pd} (hp : GoodV p.need) (name : ByteArray) : (onW fitV s p name).2 = true ↔ fitV (allOff s name) p name = 0 := by
  have hm : ∀ t, (Sound t ∧ ∀ q ∈ t.pods, q ∈ s.pods) → ∀ x ∈ onV s name, x.hold = true → (Sound (dropS t x.name) ∧ ∀ q ∈ (dropS t x.name).pods, q ∈ s.pods) ∧ (fitV t p name = 0 → fitV (dropS t x.name) p name = 0) := fun t ht x hx hh =>
    ⟨⟨ht.1.drop _, fun q hq => ht.2 q (drop_mem.1 hq).1⟩, fit_mono hs.apart ht.1 ht.2 (onV_mem hx).1 hh hp⟩
  unfold onW
  by_cases h0 : fitV s p name = 0
  · rw [if_pos h0]
    refine ⟨fun _ => ?_, fun _ => rfl⟩
    have key : ∀ (k : List Pd) (t : St), (Sound t ∧ ∀ q ∈ t.pods, q ∈ s.pods) → (∀ y ∈ k, y ∈ onV s name) → fitV t p name = 0 → fitV ((holdsOf k).foldl dropS t) p name = 0 := by
      intro k
      induction k with
      | nil => exact fun t _ _ h => h
      | cons y k ih =>
        intro t ht hk hF
        rw [holdsOf_cons]
        split
        · rename_i hy
          obtain ⟨q1, q2⟩ := hm t ht y (hk y (List.mem_cons_self ..)) hy
          exact ih _ q1 (fun z hz => hk z (List.mem_cons_of_mem _ hz)) (q2 hF)
        · exact ih t ht (fun z hz => hk z (List.mem_cons_of_mem _ hz)) hF
    exact key _ s ⟨hs, fun _ h => h⟩ (fun _ h => h) h0
  · rw [if_neg h0]
    exact onGo_ok (M := fun t => Sound t ∧ ∀ q ∈ t.pods, q ∈ s.pods) _ s [] ⟨hs, fun _ h => h⟩ hm h0
theorem drops_mem {q : Pd} : ∀ {l : List ByteArray} {s : St}, q ∈ (l.foldl dropS s).pods ↔ q ∈ s.pods ∧ q.name ∉ l
  | [], s => by simp
  | a :: l, s => by
    rw [List.foldl_cons, drops_mem, drop_mem, List.mem_cons, not_or, and_assoc]
theorem drop_len : ∀ {l : List Pd} {name : ByteArray}, Apart l → (∃ x ∈ l, x.name = name) → (l.filter fun p => !isNm name p).length + 1 = l.length
  | y :: l, name, ha, hx => by
    obtain ⟨a1, a2⟩ := List.pairwise_cons.1 ha
    by_cases e : y.name = name
    · have hf : l.filter (fun p => !isNm name p) = l := List.filter_eq_self.2 fun z hz => by
        have : isNm name z = false := decide_eq_false fun k => a1 z hz (e.trans k.symm)
        rw [this]; rfl
      rw [List.filter_cons_of_neg (by simp [isNm, e]), hf]; rfl
    · rw [List.filter_cons_of_pos (by simp [isNm, e]), List.length_cons, List.length_cons, drop_len a2]
      obtain ⟨x, hx, k⟩ := hx
      rcases List.mem_cons.1 hx with rfl | hx
      · exact absurd k e
      · exact ⟨x, hx, k⟩
theorem drops_len : ∀ {l : List ByteArray} {s : St}, Apart s.pods → l.Nodup → (∀ a ∈ l, ∃ x ∈ s.pods, x.name = a) → (l.foldl dropS s).pods.length + l.length = s.pods.length
  | [], s, _, _, _ => rfl
  | a :: l, s, ha, hn, hx => by
    obtain ⟨n1, n2⟩ := List.nodup_cons.1 hn
    have h1 : (dropS s a).pods.length + 1 = s.pods.length := drop_len ha (hx a (List.mem_cons_self ..))
    have h2 := drops_len (l := l) (s := dropS s a) (ha.sublist List.filter_sublist) n2 (fun b hb => by
      obtain ⟨x, hx, e⟩ := hx b (List.mem_cons_of_mem _ hb)
      exact ⟨x, drop_mem.2 ⟨hx, fun k => n1 (by rw [← k, e]; exact hb)⟩, e⟩)
    rw [List.foldl_cons, List.length_cons]
    omega
theorem holds_nodup {s : St} (h : Apart s.pods) (name : ByteArray) : (holdsOf (onV s name)).Nodup := by
  unfold holdsOf onV
  have h1 : Apart ((s.pods.filter fun p => decide (p.node = name) && !emptyB name).filter (·.hold)) := (h.sublist List.filter_sublist).sublist List.filter_sublist
  unfold List.Nodup
  rw [List.pairwise_map]
  exact h1
/-- What a way comes to. -/
theorem way_there {s : St} (hs : Sound s) {p : Pd} (hp : p ∈ s.pods) (hh : p.hold = false) :
    ((forW fitV s p).2 = true ↔ ∃ n ∈ s.nodes, fitV (allOff s n.name) p n.name = 0) ∧
    ((forW fitV s p).2 = true → Sound (doW s (forW fitV s p).1) ∧ (doW s (forW fitV s p).1).pods.length + (forW fitV s p).1.holds.length = s.pods.length ∧
      (∀ a ∈ (forW fitV s p).1.holds, ∃ x ∈ s.pods, x.name = a ∧ x.hold = true ∧ x.node = (forW fitV s p).1.to_) ∧
      ∃ q ∈ (doW s (forW fitV s p).1).pods, q.name = p.name ∧ q.node = (forW fitV s p).1.to_) := by
  have hg := pod_need (hs.pok p hp)
  refine ⟨⟨fun h => ?_, ?_⟩, fun h => ?_⟩
  · obtain ⟨n, hn, -, -, h3⟩ := forW_says h
    exact ⟨n, hn, (onW_ok hs hg n.name).1 (by rw [h3])⟩
  · rintro ⟨n, hn, h⟩
    exact (forW_least hh hn ((onW_ok hs hg n.name).2 h)).1
  · obtain ⟨n, hn, h1, h2, h3⟩ := forW_says h
    obtain ⟨h4, h5⟩ := onW_pre h3
    generalize (forW fitV s p).1 = w at *
    have hin : ∀ a ∈ w.holds, ∃ x ∈ s.pods, x.name = a ∧ x.hold = true ∧ x.node = n.name := fun a ha => by
      have := h4.subset ha
      unfold holdsOf at this
      obtain ⟨x, hx, rfl⟩ := List.mem_map.1 this
      obtain ⟨hx, hb⟩ := List.mem_filter.1 hx
      obtain ⟨k1, k2⟩ := onV_mem hx
      exact ⟨x, k1, rfl, hb, k2⟩
    have hpt : p ∈ (w.holds.foldl dropS s).pods := drops_mem.2 ⟨hp, fun k => by
      obtain ⟨x, hx, e, hb, -⟩ := hin _ k
      have := apart_one hs.apart x hx p hp e
      subst this
      rw [hh] at hb; cases hb⟩
    unfold doW
    rw [h2, h1]
    refine ⟨(hs.drops w.holds).moveFit hpt h5, ?_, hin, { p with node := n.name }, ?_, rfl, rfl⟩
    · show (List.map _ _).length + _ = _
      rw [List.length_map]
      exact drops_len hs.apart ((holds_nodup hs.apart n.name).sublist h4.sublist) (fun a ha => by obtain ⟨x, hx, e, -⟩ := hin a ha; exact ⟨x, hx, e⟩)
    · show _ ∈ List.map _ _
      exact List.mem_map.2 ⟨p, hpt, by rw [if_pos rfl]⟩
end Go.Proofs.YtnmhicgbdalniaaGreatDoor
namespace Go.Proofs.YtnmhicgbdalniaaGreatDoor
open Go.RowKit Go.Sort

/-! Ways over two fits that tell the same where nodes are. -/
theorem onGo_congr {F G : FitF} {p : Pd} {name : ByteArray} (h : ∀ t, F t p name = G t p name) : ∀ (l : List Pd) (s : St) (out : List ByteArray), onGo F p name s l out = onGo G p name s l out
  | [], _, _ => rfl
  | x :: r, s, out => by
    rw [onGo, onGo, h, onGo_congr h r, onGo_congr h r]
theorem onW_congr {F G : FitF} {s : St} {p : Pd} {name : ByteArray} (h : ∀ t, F t p name = G t p name) : onW F s p name = onW G s p name := by
  unfold onW
  rw [h, onGo_congr h]
theorem forGo_congr {F G : FitF} {s : St} {p : Pd} : ∀ (l : List Nd) (acc : Wy × Bool), (∀ n ∈ l, ∀ t, F t p n.name = G t p n.name) → forGo F s p l acc = forGo G s p l acc
  | [], _, _ => rfl
  | n :: r, acc, h => by
    rw [forGo, forGo, onW_congr (h n (List.mem_cons_self ..)), forGo_congr r _ fun m hm => h m (List.mem_cons_of_mem _ hm)]
theorem forW_congr {F G : FitF} {s : St} {p : Pd} (h : ∀ n ∈ s.nodes, ∀ t, F t p n.name = G t p n.name) : forW F s p = forW G s p := by
  unfold forW
  rw [forGo_congr s.nodes _ h]
theorem forW_same {s : St} (h : checkSt s = 0) (p : Pd) : forW fitQ s p = forW fitV s p :=
  forW_congr fun n hn _ => fitQ_eq (name_full (nodes_full h n hn))
end Go.Proofs.YtnmhicgbdalniaaGreatDoor
namespace Go.Proofs.YtnmhicgbdalniaaGreatDoor
open Go.RowKit

/-! pod.Find. -/
def zPd : Pd := ⟨⟨#[]⟩, ⟨#[]⟩, 0, [], [], [], [], ⟨#[]⟩, 0, ⟨#[]⟩, false⟩
def findP : List Pd → ByteArray → Pd × Bool
  | [], _ => (zPd, false)
  | p :: r, k => if p.name = k then (p, true) else findP r k
theorem findP_at {l : List Pd} {j : Nat} (h : j < l.length) (key : ByteArray) : findP (l.drop j) key = if l[j].name = key then (l[j], true) else findP (l.drop (j + 1)) key := by
  rw [List.drop_eq_getElem_cons h]; rfl
def FindPDone (l : List Pd) (key : ByteArray) (w : World) (e : Ending) (w' : World) : Prop := ∃ cs, e = .returned (.tuple #[.agg cs.toArray, .bool (findP l key).2]) ∧ Kd.pod.K (vw w' []) (findP l key).1 cs ∧ Below w.heap.size w w'
theorem K_zPd (h : View) : Kd.pod.K h zPd [.string ⟨#[]⟩, .string ⟨#[]⟩, .int .i64 0, .slice none 0 0, .slice none 0 0, .slice none 0 0, .slice none 0 0, .string ⟨#[]⟩, .int .i64 0, .string ⟨#[]⟩, .bool false] := ⟨none, 0, none, 0, none, 0, none, 0, rfl, ⟨⟨Nat.zero_le _, Nat.zero_le _, by unfold i64; decide⟩, Nat.zero_le _, by unfold i64; decide, Nat.zero_le _⟩, Kd.S.nil _ _, Kd.S.nil _ _, Kd.S.nil _ _, Kd.S.nil _ _⟩
set_option maxHeartbeats 8000000 in
set_option maxRecDepth 100000 in
theorem PodFind_calls (v : Value) (l : List Pd) (key : ByteArray) (w : World) (hs : Kd.pod.S (vw w []) v l) :
    Calls Tryz.prog 65 #[v, .string key] w (FindPDone l key w) := by
  obtain ⟨A, cap, rfl, hs⟩ := hs.val
  obtain ⟨_, hcap, hlen⟩ := hs.form
  have HS := Lib.hid hs
  clear hs
  go_enter Tryz.func65, Tryz.ntmps65
  go_wp2
  go_loopw [10] (fun i wr => ∃ k : Nat, k ≤ l.length ∧ i = .int .i64 k ∧ Hid (findP (l.drop k) key = findP l key) ∧ Hid (Below w.heap.size w wr) ∧ Hid (wr.heap[w.heap.size]? = some (.cells #[.string ⟨#[]⟩, .string ⟨#[]⟩, .int .i64 0, .slice none 0 0, .slice none 0 0, .slice none 0 0, .slice none 0 0, .string ⟨#[]⟩, .int .i64 0, .string ⟨#[]⟩, .bool false] 35 (0, 0)))) (fun i _ => l.length - (intOf i).toNat)
  case atStart => exact ⟨0, Nat.zero_le _, rfl, rfl, alloc_below _ _, blk_last _ _⟩
  case round =>
    obtain ⟨k, hk, rfl, HG, HB, HR0⟩ := hrel
    by_cases hlt : k < l.length
    · obtain ⟨b, off, cs, rfl, hn, hc⟩ := S_allP HS.out k hlt
      have hg := HG.out
      rw [findP_at hlt] at hg
      obtain ⟨x, hx⟩ : ∃ x, l[k] = x := ⟨_, rfl⟩
      rw [hx] at hn hg
      have hn' := hn
      obtain ⟨B1, d1, B2, d2, B3, d3, B4, d4, rfl, -⟩ := hn'
      have HN := Lib.hid hn
      have HG2 := Lib.hid hg
      have HC := Lib.hid (hc wr HB.out)
      clear hg hc hn hx
      have HB2 : Hid (Below w.heap.size w (wr.alloc (.cells #[.string x.name, .string x.owner, .int .i64 x.prio, .slice B1 x.need.length d1, .slice B2 x.labels.length d2, .slice B3 x.sel.length d3, .slice B4 x.tols.length d4, .string x.key, .int .i64 x.most, .string x.node, .bool x.hold] 35))) := Below.then HB.out (alloc_below _ _)
      have HY : Hid ((wr.alloc (.cells #[.string x.name, .string x.owner, .int .i64 x.prio, .slice B1 x.need.length d1, .slice B2 x.labels.length d2, .slice B3 x.sel.length d3, .slice B4 x.tols.length d4, .string x.key, .int .i64 x.most, .string x.node, .bool x.hold] 35)).heap[wr.heap.size]? = some (.cells #[.string x.name, .string x.owner, .int .i64 x.prio, .slice B1 x.need.length d1, .slice B2 x.labels.length d2, .slice B3 x.sel.length d3, .slice B4 x.tols.length d4, .string x.key, .int .i64 x.most, .string x.node, .bool x.hold] 35 (0, 0))) := blk_last _ _
      have HZ : Hid ((wr.alloc (.cells #[.string x.name, .string x.owner, .int .i64 x.prio, .slice B1 x.need.length d1, .slice B2 x.labels.length d2, .slice B3 x.sel.length d3, .slice B4 x.tols.length d4, .string x.key, .int .i64 x.most, .string x.node, .bool x.hold] 35)).heap[w.heap.size]? = some (.cells #[.string ⟨#[]⟩, .string ⟨#[]⟩, .int .i64 0, .slice none 0 0, .slice none 0 0, .slice none 0 0, .slice none 0 0, .string ⟨#[]⟩, .int .i64 0, .string ⟨#[]⟩, .bool false] 35 (0, 0))) := (blk_old _ _ (blk_lt HR0.out)).trans HR0.out
      have hlb := blk_lt HR0.out
      go_upto_region 4 with (with_reducible refine wpList_load_mid rfl 35 _ rfl b (off + k * 11) rfl _ _ HC.out Tryz.underlying35 rfl (by kernel_rfl) ?_)
      have hne : wr.heap.size ≠ w.heap.size := by omega
      obtain ⟨B, hB⟩ : ∃ B, wr.heap.size = B := ⟨_, rfl⟩
      rw [hB] at HY hne ⊢
      generalize wr.alloc (.cells #[.string x.name, .string x.owner, .int .i64 x.prio, .slice B1 x.need.length d1, .slice B2 x.labels.length d2, .slice B3 x.sel.length d3, .slice B4 x.tols.length d4, .string x.key, .int .i64 x.most, .string x.node, .bool x.hold] 35) = W at HB2 HY HZ ⊢
      clear hB hlb HR0 HB HC
      obtain ⟨y, yf⟩ := blk_all HY.out
      obtain ⟨z, zf⟩ := blk_all HZ.out
      by_cases he : x.name = key
      · have hb := str_beq he
        have hr := HG2.out
        rw [if_pos he] at hr
        have HR := Lib.hid hr
        clear he hr
        have hset := setCells_all (cs := [.string x.name, .string x.owner, .int .i64 x.prio, .slice B1 x.need.length d1, .slice B2 x.labels.length d2, .slice B3 x.sel.length d3, .slice B4 x.tols.length d4, .string x.key, .int .i64 x.most, .string x.node, .bool x.hold]) HZ.out rfl
        have hbl := Below.setCells HB2.out (Nat.le_refl _) [.string x.name, .string x.owner, .int .i64 x.prio, .slice B1 x.need.length d1, .slice B2 x.labels.length d2, .slice B3 x.sel.length d3, .slice B4 x.tols.length d4, .string x.key, .int .i64 x.most, .string x.node, .bool x.hold] 0
        have hkk := Kd.pod.mono (vw_below hbl) HN.out
        have HSET := Lib.hid hset
        have HBL := Lib.hid hbl
        have HKK := Lib.hid hkk
        clear hset hbl hkk
        go_wp2
        change bodyPost _ _ _ _ _ (W.setCells w.heap.size 0 [.string x.name, .string x.owner, .int .i64 x.prio, .slice B1 x.need.length d1, .slice B2 x.labels.length d2, .slice B3 x.sel.length d3, .slice B4 x.tols.length d4, .string x.key, .int .i64 x.most, .string x.node, .bool x.hold])
        refine ret_row2 (cs := [.string x.name, .string x.owner, .int .i64 x.prio, .slice B1 x.need.length d1, .slice B2 x.labels.length d2, .slice B3 x.sel.length d3, .slice B4 x.tols.length d4, .string x.key, .int .i64 x.most, .string x.node, .bool x.hold]) rfl rfl HSET.out Tryz.underlying35 rfl (by kernel_rfl) rfl ⟨[.string x.name, .string x.owner, .int .i64 x.prio, .slice B1 x.need.length d1, .slice B2 x.labels.length d2, .slice B3 x.sel.length d3, .slice B4 x.tols.length d4, .string x.key, .int .i64 x.most, .string x.node, .bool x.hold], ?_, ?_, HBL.out⟩
        · rw [← HR.out]; rfl
        · rw [← HR.out]; exact HKK.out
      · have hb := str_nbeq he
        have hr := HG2.out
        rw [if_neg he] at hr
        have HR := Lib.hid hr
        clear he hr z zf
        go_wp2
        go_roundw
        case rel => exact ⟨k + 1, by omega, by go_num, HR.out, HB2.out, HZ.out⟩
        case measure => simp [intOf]; omega
    · obtain rfl : k = l.length := by omega
      have hr := HG.out
      rw [List.drop_length] at hr
      have HR := Lib.hid hr
      clear hr
      have HSET := Lib.hid (setCells_all (cs := [.string ⟨#[]⟩, .string ⟨#[]⟩, .int .i64 0, .slice none 0 0, .slice none 0 0, .slice none 0 0, .slice none 0 0, .string ⟨#[]⟩, .int .i64 0, .string ⟨#[]⟩, .bool false]) HR0.out rfl)
      have HBL := Lib.hid (Below.setCells HB.out (Nat.le_refl _) [.string ⟨#[]⟩, .string ⟨#[]⟩, .int .i64 0, .slice none 0 0, .slice none 0 0, .slice none 0 0, .slice none 0 0, .string ⟨#[]⟩, .int .i64 0, .string ⟨#[]⟩, .bool false] 0)
      obtain ⟨z, zf⟩ := blk_all HR0.out
      go_wp2
      change bodyPost _ _ _ _ _ (wr.setCells w.heap.size 0 [.string ⟨#[]⟩, .string ⟨#[]⟩, .int .i64 0, .slice none 0 0, .slice none 0 0, .slice none 0 0, .slice none 0 0, .string ⟨#[]⟩, .int .i64 0, .string ⟨#[]⟩, .bool false])
      refine ret_row2 (cs := [.string ⟨#[]⟩, .string ⟨#[]⟩, .int .i64 0, .slice none 0 0, .slice none 0 0, .slice none 0 0, .slice none 0 0, .string ⟨#[]⟩, .int .i64 0, .string ⟨#[]⟩, .bool false]) rfl rfl HSET.out Tryz.underlying35 rfl (by kernel_rfl) rfl ⟨[.string ⟨#[]⟩, .string ⟨#[]⟩, .int .i64 0, .slice none 0 0, .slice none 0 0, .slice none 0 0, .slice none 0 0, .string ⟨#[]⟩, .int .i64 0, .string ⟨#[]⟩, .bool false], ?_, ?_, HBL.out⟩
      · rw [← HR.out]; rfl
      · rw [← HR.out]; exact K_zPd _
theorem findP_mem : ∀ {l : List Pd} {k : ByteArray}, (∃ x ∈ l, x.name = k) → (findP l k).2 = true ∧ (findP l k).1 ∈ l ∧ (findP l k).1.name = k
  | [], _, ⟨_, h, _⟩ => by cases h
  | p :: r, k, ⟨x, h, e⟩ => by
    unfold findP
    by_cases hp : p.name = k
    · rw [if_pos hp]; exact ⟨rfl, List.mem_cons_self .., hp⟩
    · rw [if_neg hp]
      rcases List.mem_cons.1 h with rfl | h
      · exact absurd e hp
      · obtain ⟨h1, h2, h3⟩ := findP_mem ⟨x, h, e⟩
        exact ⟨h1, List.mem_cons_of_mem _ h2, h3⟩
end Go.Proofs.YtnmhicgbdalniaaGreatDoor
namespace Go.Proofs.YtnmhicgbdalniaaGreatDoor
open Go.RowKit

/-! WayThere: the plain facts that the walk asks for. -/
def dropH (s : St) (l : List Pd) : St := (holdsOf l).foldl dropS s
theorem dropH_snoc (s : St) {l : List Pd} {k : Nat} (h : k < l.length) : dropH s (l.take (k + 1)) = if l[k].hold = true then dropS (dropH s (l.take k)) l[k].name else dropH s (l.take k) := by
  have e : l.take (k + 1) = l.take k ++ [l[k]] := by rw [List.take_succ_eq_append_getElem h]
  unfold dropH holdsOf
  rw [e, List.filter_append, List.map_append, List.foldl_append]
  by_cases hh : l[k].hold = true
  · rw [if_pos hh, List.filter_cons_of_pos (by simpa using hh)]; rfl
  · rw [if_neg hh, List.filter_cons_of_neg (by simpa using hh)]; rfl
theorem dropH_nodes (s : St) (l : List Pd) : (dropH s l).nodes = s.nodes := by
  unfold dropH
  generalize holdsOf l = r
  induction r generalizing s with
  | nil => rfl
  | cons a r ih => rw [List.foldl_cons, ih]; rfl
theorem dropH_len (s : St) (l : List Pd) : (dropH s l).pods.length ≤ s.pods.length := by
  unfold dropH
  generalize holdsOf l = r
  induction r generalizing s with
  | nil => exact Nat.le_refl _
  | cons a r ih => rw [List.foldl_cons]; exact Nat.le_trans (ih _) (List.length_filter_le _ _)
def canB (s : St) (p : Pd) (n : Nd) : Bool := decide (fitQ (dropH s (onV s n.name)) p n.name = 0)
def canV (s : St) (p : Pd) (l : List Nd) : Bool := l.any (canB s p)
theorem canV_snoc (s : St) (p : Pd) {l : List Nd} {k : Nat} (h : k < l.length) : canV s p (l.take (k + 1)) = (canV s p (l.take k) || canB s p l[k]) := by
  unfold canV
  rw [List.take_succ_eq_append_getElem h, List.any_append]
  simp
structure There (s : St) (p : Pd) (a : Wy × Bool) : Prop where
  sound : Sound s
  nlen : s.nodes.length ≤ 32
  plen : s.pods.length ≤ 128
  way : forW fitQ s p = a
  can : canV s p s.nodes = a.2
  done : a.2 = true → checkSt (doW s a.1) = 0
  len : a.2 = true → (doW s a.1).pods.length + a.1.holds.length = s.pods.length
  holds : a.2 = true → ∀ x ∈ a.1.holds, ∃ h : Pd, findP s.pods x = (h, true) ∧ h.hold = true ∧ h.node = a.1.to_
  at_ : a.2 = true → ∃ q : Pd, findP (doW s a.1).pods p.name = (q, true) ∧ q.node = a.1.to_
theorem findP_one {l : List Pd} (h : Apart l) {x : Pd} (hx : x ∈ l) : findP l x.name = (x, true) := by
  obtain ⟨h1, h2, h3⟩ := findP_mem (l := l) (k := x.name) ⟨x, hx, rfl⟩
  have := apart_one h _ h2 x hx h3
  exact Prod.ext this h1
theorem there_of {s : St} {p : Pd} (h0 : checkSt s = 0) (hp : checkPod p = 0) (hh : p.hold = false) (hl : s.pods.length < 128) :
    ∃ a, There (putS s { p with node := ⟨#[]⟩ }) { p with node := ⟨#[]⟩ } a := by
  have hs := (sound_iff s).1 h0
  have hT := Sound.putNowhere (p := { p with node := ⟨#[]⟩ }) hs (pod_nowhere hp) rfl hl
  have hpm : ({ p with node := ⟨#[]⟩ } : Pd) ∈ (putS s { p with node := ⟨#[]⟩ }).pods := put_mem.2 (.inl rfl)
  have hph : ({ p with node := ⟨#[]⟩ } : Pd).hold = false := hh
  generalize ({ p with node := ⟨#[]⟩ } : Pd) = P at *
  generalize putS s P = T at *
  obtain ⟨w1, w2⟩ := way_there hT hpm hph
  refine ⟨forW fitV T P, hT, hT.nlen, hT.plen, forW_same ((sound_iff T).2 hT) P, ?_, fun h => ?_, fun h => ?_, fun h x hx => ?_, fun h => ?_⟩
  · have hc : canV T P T.nodes = true ↔ ∃ n ∈ T.nodes, fitV (allOff T n.name) P n.name = 0 := by
      unfold canV
      rw [List.any_eq_true]
      constructor
      · rintro ⟨n, hn, h⟩
        refine ⟨n, hn, ?_⟩
        rw [← fitQ_eq (name_full (nodes_full ((sound_iff T).2 hT) n hn))]
        exact of_decide_eq_true h
      · rintro ⟨n, hn, h⟩
        refine ⟨n, hn, decide_eq_true ?_⟩
        rw [fitQ_eq (name_full (nodes_full ((sound_iff T).2 hT) n hn))]
        exact h
    cases h1 : canV T P T.nodes with
    | true => exact (w1.2 (hc.1 h1)).symm
    | false =>
      cases h2 : (forW fitV T P).2 with
      | false => rfl
      | true => rw [hc.2 (w1.1 h2)] at h1; cases h1
  · exact (sound_iff _).2 (w2 h).1
  · exact (w2 h).2.1
  · obtain ⟨y, hy, e, k1, k2⟩ := (w2 h).2.2.1 x hx
    subst e
    exact ⟨y, findP_one hT.apart hy, k1, k2⟩
  · obtain ⟨q, hq, e, k⟩ := (w2 h).2.2.2
    rw [← e]
    exact ⟨q, findP_one (w2 h).1.apart hq, k⟩
end Go.Proofs.YtnmhicgbdalniaaGreatDoor
namespace Go.Proofs.YtnmhicgbdalniaaGreatDoor
open Go.RowKit

/-! Where a pod is put: the plain law. -/
theorem insN_at {p : Pd} : ∀ {l : List Pd} {k : Nat}, k ≤ l.length → (∀ j, (hj : j < l.length) → j < k → ltS l[j].name p.name = true) → (∀ hk : k < l.length, ltS l[k].name p.name = false) → insN p l = l.take k ++ p :: l.drop k
  | [], 0, _, _, _ => rfl
  | [], k + 1, h, _, _ => by simp at h
  | x :: r, 0, _, _, h => by
    have := h (by simp)
    simp only [List.getElem_cons_zero] at this
    unfold insN
    rw [this, if_neg (by decide)]; rfl
  | x :: r, k + 1, hk, h1, h2 => by
    have h0 := h1 0 (by simp) (by omega)
    simp only [List.getElem_cons_zero] at h0
    unfold insN
    rw [if_pos h0, insN_at (k := k) (by simpa using hk) (fun j hj hjk => by have := h1 (j + 1) (by simpa using hj) (by omega); simpa using this) (fun hk' => by have := h2 (by simpa using hk'); simpa using this)]
    rfl
end Go.Proofs.YtnmhicgbdalniaaGreatDoor
namespace Go.Proofs.YtnmhicgbdalniaaGreatDoor
open Go.RowKit Go.Sort

/-! state.Put. -/
set_option maxHeartbeats 4000000 in
theorem put1_calls (v : Value) (x : Pd) (name : ByteArray) (w : World) (hv : ∃ h cs, v = .agg cs ∧ Kd.pod.K h x cs.toList) : Calls Tryz.prog 119 #[v, .string name] w (fun e w' => ∃ n : Int, e = .returned (.int .i64 n) ∧ decide (n < 0) = ltS x.name name ∧ Below w.heap.size w w') := by
  obtain ⟨h, cs, rfl, B1, d1, B2, d2, B3, d3, B4, d4, e, -⟩ := hv
  obtain rfl : cs = #[.string x.name, .string x.owner, .int .i64 x.prio, .slice B1 x.need.length d1, .slice B2 x.labels.length d2, .slice B3 x.sel.length d3, .slice B4 x.tols.length d4, .string x.key, .int .i64 x.most, .string x.node, .bool x.hold] := by
    have := congrArg List.toArray e
    simpa using this
  clear e
  go_enter Tryz.func119, Tryz.ntmps119
  go_upto_region 1 with fail
  have HB := Lib.hid (alloc_below w (.cells #[.string x.name, .string x.owner, .int .i64 x.prio, .slice B1 x.need.length d1, .slice B2 x.labels.length d2, .slice B3 x.sel.length d3, .slice B4 x.tols.length d4, .string x.key, .int .i64 x.most, .string x.node, .bool x.hold] 35))
  have hk := blk_last w (.cells #[.string x.name, .string x.owner, .int .i64 x.prio, .slice B1 x.need.length d1, .slice B2 x.labels.length d2, .slice B3 x.sel.length d3, .slice B4 x.tols.length d4, .string x.key, .int .i64 x.most, .string x.node, .bool x.hold] 35)
  generalize w.alloc (.cells #[.string x.name, .string x.owner, .int .i64 x.prio, .slice B1 x.need.length d1, .slice B2 x.labels.length d2, .slice B3 x.sel.length d3, .slice B4 x.tols.length d4, .string x.key, .int .i64 x.most, .string x.node, .bool x.hold] 35) = W at HB hk ⊢
  obtain ⟨z, zf⟩ := blk_all hk
  clear hk
  go_wp2_with fail
  refine (Tryz.strings_Compare x.name name _).mono ?_
  rintro e w1 ⟨rfl, rfl⟩
  have HN : Hid (decide (Lib.compareBytes x.name.data.toList name.data.toList < 0) = ltS x.name name) := by
    show _ = _
    unfold ltS
    rw [Bool.eq_iff_iff, decide_eq_true_iff, decide_eq_true_iff]
    exact cmpB_neg _ _
  go_wp2
  go_ret
  exact ⟨_, rfl, HN.out, HB.out⟩
def SearchDone (l : List Pd) (name : ByteArray) (w : World) (e : Ending) (w' : World) : Prop := ∃ (k : Nat) (b : Bool), e = .returned (.tuple #[.int .i64 (k : Int), .bool b]) ∧ k ≤ l.length ∧ (∀ j, (hj : j < l.length) → j < k → ltS l[j].name name = true) ∧ (∀ hk : k < l.length, ltS l[k].name name = false) ∧ Below w.heap.size w w'
theorem up_at {l : List Pd} (h : UpN Pd.name l) {i j : Nat} (hij : i ≤ j) (hj : j < l.length) {name : ByteArray} (hl : ltS l[j].name name = true) : ltS (l[i]'(by omega)).name name = true := by
  rcases Nat.lt_or_ge i j with h1 | h1
  · exact ltS_trans ((List.pairwise_iff_getElem.1 h) i j (by omega) hj h1) hl
  · obtain rfl : i = j := by omega
    exact hl
set_option maxHeartbeats 8000000 in
set_option maxRecDepth 100000 in
theorem search_calls (v : Value) (l : List Pd) (name : ByteArray) (w : World) {M : List Nat} (hs : Kd.pod.S (vw w M) v l) (hl : l.length ≤ 1000) (hup : UpN Pd.name l) :
    Calls Tryz.prog 118 #[v, .string name, .func (.func 119) #[] #[]] w (SearchDone l name w) := by
  obtain ⟨A, c, rfl, hs⟩ := hs.val
  have mixed : Tryz.prog.follows .mixedOrders = true := by kernel_rfl
  have HS := Lib.hid hs
  have HUP := Lib.hid hup
  clear hs hup
  go_enter Tryz.func118, Tryz.ntmps118
  go_wp2
  go_loopw [9, 10] (fun a b wr => ∃ lo hi : Nat, a = .int .i64 lo ∧ b = .int .i64 hi ∧ lo ≤ hi ∧ hi ≤ l.length ∧ Hid (∀ j, (hj : j < l.length) → j < lo → ltS l[j].name name = true) ∧ Hid (∀ j, (hj : j < l.length) → hi ≤ j → ltS l[j].name name = false) ∧ Hid (Below w.heap.size w wr)) (fun a b _ => (intOf b).toNat - (intOf a).toNat)
  case atStart => exact ⟨0, l.length, rfl, rfl, Nat.zero_le _, Nat.le_refl _, (fun j hj h => by omega), (fun j hj h => by omega), Below.refl _ _⟩
  case round =>
    obtain ⟨lo, hi, rfl, rfl, hlh, hhl, HLO, HHI, HB⟩ := hrel
    by_cases hlt : lo < hi
    · obtain ⟨m, hm⟩ : ∃ m, (lo + hi) / 2 = m := ⟨_, rfl⟩
      have hm1 : lo ≤ m := by omega
      have hm2 : m < hi := by omega
      have hm3 : ((lo : Int) + (hi : Int)) / 2 = (m : Int) := by omega
      have hml : m < l.length := by omega
      obtain ⟨b, off, cs, rfl, hn, hc⟩ := HS.out.bothM HB.out m hml
      obtain ⟨x, hx⟩ : ∃ x, l[m] = x := ⟨_, rfl⟩
      rw [hx] at hn
      have HKX := Lib.hid hn
      obtain ⟨B1, d1, B2, d2, B3, d3, B4, d4, rfl, -⟩ := hn
      have HC : Hid (wr.rangeAt b (off + m * 11) _) := hc
      have HX := Lib.hid hx
      have HM := Lib.hid hm3
      have b3 : (0 : Int) ≤ (m : Int) := by omega
      have b4 : (m : Int) < (l.length : Int) := by omega
      clear hc hx hm hm3
      go_upto_region 5 with fail
      rw [HM.out]
      go_wp2_with (with_reducible refine wpList_load_mid rfl 35 _ rfl b (off + m * 11) rfl _ _ HC.out Tryz.underlying35 rfl (by kernel_rfl) ?_)
      refine (put1_calls _ x name _ ⟨_, _, rfl, HKX.out⟩).mono ?_
      rintro e w2 ⟨n, rfl, hn, hb⟩
      obtain ⟨q, hq⟩ : ∃ q, ltS x.name name = q := ⟨_, rfl⟩
      rw [hq] at hn
      have HQ := Lib.hid hq
      have HB2 := Lib.hid (Below.then HB.out hb)
      clear hb hq
      cases q with
      | true =>
        have HLO2 : Hid (∀ j, (hj : j < l.length) → j < m + 1 → ltS l[j].name name = true) := fun j hj h => up_at HUP.out (show j ≤ m by omega) hml (by rw [HX.out]; exact HQ.out)
        go_wp2
        go_roundw
        case rel => exact ⟨m + 1, hi, by go_num, rfl, by omega, hhl, HLO2.out, HHI.out, HB2.out⟩
        case measure => simp [intOf]; omega
      | false =>
        have HHI2 : Hid (∀ j, (hj : j < l.length) → m ≤ j → ltS l[j].name name = false) := fun j hj h => by
          cases e : ltS l[j].name name with
          | false => rfl
          | true =>
            have := up_at HUP.out h hj e
            rw [HX.out, HQ.out] at this
            cases this
        go_wp2
        go_roundw
        case rel => exact ⟨lo, m, rfl, by go_num, hm1, by omega, HLO.out, HHI2.out, HB2.out⟩
        case measure => simp [intOf]; omega
    · obtain rfl : hi = lo := by omega
      by_cases hil : hi < l.length
      · obtain ⟨b, off, cs, rfl, hn, hc⟩ := HS.out.bothM HB.out hi hil
        obtain ⟨x, hx⟩ : ∃ x, l[hi] = x := ⟨_, rfl⟩
        rw [hx] at hn
        have HKX := Lib.hid hn
        obtain ⟨B1, d1, B2, d2, B3, d3, B4, d4, rfl, -⟩ := hn
        have HC : Hid (wr.rangeAt b (off + hi * 11) _) := hc
        have b3 : (0 : Int) ≤ (hi : Int) := by omega
        have b4 : (hi : Int) < (l.length : Int) := by omega
        have g0 : decide ((hi : Int) < (l.length : Int)) = true := decide_eq_true b4
        have g1 : decide (hi < l.length) = true := decide_eq_true hil
        have q0 : wr.cell? ⟨b, off + hi * 11, none⟩ = some (.string x.name) := hc 0 _ rfl
        have q1 : wr.cell? ⟨b, off + hi * 11 + 1, none⟩ = some (.string x.owner) := hc 1 _ rfl
        have q2 : wr.cell? ⟨b, off + hi * 11 + 2, none⟩ = some (.int .i64 x.prio) := hc 2 _ rfl
        have q3 : wr.cell? ⟨b, off + hi * 11 + 3, none⟩ = some (.slice B1 x.need.length d1) := hc 3 _ rfl
        have q4 : wr.cell? ⟨b, off + hi * 11 + 4, none⟩ = some (.slice B2 x.labels.length d2) := hc 4 _ rfl
        have q5 : wr.cell? ⟨b, off + hi * 11 + 5, none⟩ = some (.slice B3 x.sel.length d3) := hc 5 _ rfl
        have q6 : wr.cell? ⟨b, off + hi * 11 + 6, none⟩ = some (.slice B4 x.tols.length d4) := hc 6 _ rfl
        have q7 : wr.cell? ⟨b, off + hi * 11 + 7, none⟩ = some (.string x.key) := hc 7 _ rfl
        have q8 : wr.cell? ⟨b, off + hi * 11 + 8, none⟩ = some (.int .i64 x.most) := hc 8 _ rfl
        have q9 : wr.cell? ⟨b, off + hi * 11 + 9, none⟩ = some (.string x.node) := hc 9 _ rfl
        have q10 : wr.cell? ⟨b, off + hi * 11 + 10, none⟩ = some (.bool x.hold) := hc 10 _ rfl
        clear hc hx HC
        go_wp2_with fail
        refine (put1_calls _ x name _ ⟨_, _, rfl, HKX.out⟩).mono ?_
        rintro e w2 ⟨n, rfl, hn, hb⟩
        have HB2 := Lib.hid (Below.then HB.out hb)
        clear hb hn
        go_wp2
        go_ret2
        exact ⟨hi, _, rfl, hhl, HLO.out, (fun hk => HHI.out hi hk (Nat.le_refl _)), HB2.out⟩
      · go_wp2
        go_ret2
        exact ⟨hi, _, rfl, hhl, HLO.out, (fun hk => HHI.out hi hk (Nat.le_refl _)), HB.out⟩
theorem vw_low {W w2 w4 : World} {M : List Nat} (hle : (vw W M).le (vw w2 M)) (hb : Below W.heap.size w2 w4) : (vw W M).le (vw w4 M) := fun b o h => by
  obtain ⟨h1, h2⟩ := vw_eq h
  obtain ⟨-, h4⟩ := vw_eq (hle b o h)
  exact vw_mk h1 ((hb.block b (blk_lt h2)).trans h4)
theorem Insert_calls (base n c i vb : Nat) (A : Option Addr) (T : TypeId) (xs cx : List Value) (w : World) (hown : w.ownsRow base 35 11 (.slice A n c) n xs) (hi : i ≤ n) (hcx : cx.length = 11) (h1 : ∀ u ∈ xs, u.oneCell' = true) (h1x : ∀ u ∈ cx, u.oneCell' = true)
    (hvb : w.heap[vb]? = some (.cells cx.toArray T (0, 0))) (hne : ∀ q, (Value.slice A n c).ownBlock = some q → vb ≠ q) (hb : base ≤ w.heap.size) (hn : n ≤ 1000) :
    Calls Tryz.prog 121 #[.slice A n c, .int .i64 i, .slice (some ⟨vb, 0, none⟩) 1 1] w (InsDone base n (xs.take (i * 11) ++ cx ++ xs.drop (i * 11)) w) := by
  by_cases e : i = n
  · subst e
    have hx := hown.1
    rw [← hx, List.take_length, List.drop_length, List.append_nil]
    exact Insert_end base i c vb A T xs cx w hown hcx h1x hvb hb hn
  · rcases hown.2 with ⟨e1, e2⟩ | ⟨g, cap, cur, e1, -⟩
    · omega
    · cases e1
      by_cases hr : n + 1 ≤ c
      · exact Insert_shift base g n c i vb T xs cx w hown (by omega) hr hcx h1 h1x hvb (hne g rfl)
      · exact Insert_grow base g n c i vb T xs cx w hown (by omega) (by omega) hcx h1 h1x hvb hb hn
theorem pods_one {w : World} {M : List Nat} {css : List (List Value)} {l : List Pd} (h1 : css.length = l.length) (h2 : ∀ (j : Nat) (x : Pd), l[j]? = some x → ∃ cs, css[j]? = some cs ∧ Kd.pod.K (vw w M) x cs) : ∀ u ∈ css.flatten, u.oneCell' = true := fun u hu => by
  obtain ⟨c, hc, hu⟩ := List.mem_flatten.1 hu
  obtain ⟨j, hj, rfl⟩ := List.getElem_of_mem hc
  obtain ⟨cs, a, b⟩ := h2 j l[j] (List.getElem?_eq_getElem (by omega))
  rw [List.getElem?_eq_getElem hj] at a
  cases a
  exact pod_ones _ _ _ b u hu
theorem row_ins {w0 w : World} {M : List Nat} {base n k : Nat} {v : Value} {css : List (List Value)} {cx : List Value} {l : List Pd} {p : Pd} (h1 : css.length = l.length) (h2 : ∀ (j : Nat) (x : Pd), l[j]? = some x → ∃ cs, css[j]? = some cs ∧ Kd.pod.K (vw w0 M) x cs) (hk : k ≤ l.length) (hp : Kd.pod.K (vw w0 M) p cx) (hn : l.length = n)
    (h : w.ownsRow base 35 11 v (n + 1) (css.flatten.take (k * 11) ++ cx ++ css.flatten.drop (k * 11))) : Kd.pod.Row0 w0 M w base 35 v (l.take k ++ p :: l.drop k) := by
  have hlen := Kd.Piece.len_lists h1 h2
  refine ⟨css.take k ++ cx :: css.drop k, by simp [h1], fun j x hx => ?_, ?_⟩
  · rcases Nat.lt_or_ge j k with hj | hj
    · rw [List.getElem?_append_left (by rw [List.length_take]; omega), List.getElem?_take, if_pos hj] at hx
      obtain ⟨cs, a, b⟩ := h2 j x hx
      exact ⟨cs, by rw [List.getElem?_append_left (by rw [List.length_take]; omega), List.getElem?_take, if_pos hj]; exact a, b⟩
    · rw [List.getElem?_append_right (by rw [List.length_take]; omega), List.length_take, Nat.min_eq_left hk] at hx
      rw [List.getElem?_append_right (by rw [List.length_take]; omega), List.length_take, Nat.min_eq_left (by omega)]
      rcases Nat.eq_zero_or_pos (j - k) with h0 | h0
      · rw [h0] at hx ⊢
        simp only [List.getElem?_cons_zero, Option.some.injEq] at hx
        subst hx
        exact ⟨cx, rfl, hp⟩
      · obtain ⟨t, ht⟩ : ∃ t, j - k = t + 1 := ⟨j - k - 1, by omega⟩
        rw [ht, List.getElem?_cons_succ, List.getElem?_drop] at hx
        rw [ht, List.getElem?_cons_succ, List.getElem?_drop]
        exact h2 _ x hx
  · have e : (css.take k ++ cx :: css.drop k).flatten = css.flatten.take (k * 11) ++ cx ++ css.flatten.drop (k * 11) := by
      rw [List.flatten_append, List.flatten_cons, flat_take hlen (by omega), flat_drop hlen (by omega), List.append_assoc]; rfl
    rw [e]
    have hl : (l.take k ++ p :: l.drop k).length = n + 1 := by rw [List.length_append, List.length_cons, List.length_take, List.length_drop]; omega
    rw [hl]
    exact h
theorem Kd.Row0.S2 {α : Type} {d : Kd α} {w0 w : World} {M : List Nat} {base : Nat} {e : TypeId} {v : Value} {xs : List α} (h : d.Row0 w0 M w base e v xs) (hle : (vw w0 M).le (vw w M)) (hM : ∀ b ∈ M, b < base) (hx : xs.length ≤ 140737488351232) : d.S (vw w M) v xs := by
  rcases h.form with ⟨rfl, rfl⟩ | ⟨g, cap, css, rfl, hg, hc1, hc2, hcl, hr, hk⟩
  · exact Kd.S.nil _ _
  · refine Rw.S (d := d) (fun hm => by have := hM _ hm; omega) hr (by omega) (fun t ht => ?_) hc1 hx
    obtain ⟨cs, a, b⟩ := hk t xs[t] (List.getElem?_eq_getElem ht)
    rw [List.getElem?_eq_getElem (by omega)] at a
    cases a
    exact d.mono hle b
set_option maxHeartbeats 8000000 in
set_option maxRecDepth 100000 in
theorem Put_calls (vs vp : Value) (s : St) (p : Pd) (w : World) {M : List Nat} (hs : Kd.state.V (vw w M) vs s) (hp : Kd.pod.V (vw w M) vp p) (hl : s.pods.length ≤ 900) (hup : UpN Pd.name s.pods) (hM : ∀ b ∈ M, b < w.heap.size := by simp) :
    Calls Tryz.prog 47 #[vs, vp] w (StDone M (putS s p) w) := by
  obtain ⟨cs, rfl, hks⟩ := hs
  obtain ⟨cp, rfl, hkp⟩ := hp
  have HKS := Lib.hid hks
  have HKP := Lib.hid hkp
  obtain ⟨A1, c1, A2, c2, A3, c3, rfl, -⟩ := hks
  obtain ⟨P1, p1, P2, p2, P3, p3, P4, p4, rfl, -⟩ := hkp
  have HUP : Hid (UpN Pd.name (dropS s p.name).pods) := hup.sublist List.filter_sublist
  have hdl : (dropS s p.name).pods.length ≤ s.pods.length := List.length_filter_le _ _
  clear hup
  go_enter Tryz.func47, Tryz.ntmps47
  go_upto_region 1 with fail
  obtain ⟨W, hW, hbw, k1, k2, k3, hWs⟩ := al3 w (.cells #[.slice A1 s.nodes.length c1, .slice A2 s.pods.length c2, .slice A3 s.budgets.length c3] 26) (.cells #[.string p.name, .string p.owner, .int .i64 p.prio, .slice P1 p.need.length p1, .slice P2 p.labels.length p2, .slice P3 p.sel.length p3, .slice P4 p.tols.length p4, .string p.key, .int .i64 p.most, .string p.node, .bool p.hold] 35) (.cells #[.slice none 0 0, .slice none 0 0, .slice none 0 0] 26)
  rw [← hW]
  have HBW := Lib.hid hbw
  have HK := Lib.hid (And.intro k1 (And.intro k2 k3))
  have hgr : ∀ b ∈ w.heap.size :: (w.heap.size + 1 + 1) :: M, b ∈ M ∨ w.heap.size ≤ b := fun b hb => by
    rcases List.mem_cons.1 hb with rfl | hb
    · exact .inr (Nat.le_refl _)
    · rcases List.mem_cons.1 hb with rfl | hb
      · exact .inr (by omega)
      · exact .inl hb
  have HKP2 := Lib.hid (Kd.pod.mono (vw_grow hbw hgr) HKP.out)
  have HV : Hid (Kd.state.V (vw W (w.heap.size :: (w.heap.size + 1 + 1) :: M)) (.agg #[.slice A1 s.nodes.length c1, .slice A2 s.pods.length c2, .slice A3 s.budgets.length c3]) s) := ⟨_, rfl, Kd.state.mono (vw_grow hbw hgr) HKS.out⟩
  have HM2 : Hid (∀ b ∈ w.heap.size :: (w.heap.size + 1 + 1) :: M, b < W.heap.size) := fun b hb => by
    rcases List.mem_cons.1 hb with rfl | hb
    · omega
    · rcases List.mem_cons.1 hb with rfl | hb
      · omega
      · have := hM b hb; omega
  obtain ⟨z, zf⟩ := blk_all k1
  obtain ⟨y, yf⟩ := blk_all k2
  clear hW hbw k1 k2 k3 hgr
  go_wp2_with fail
  refine (Drop_new _ s p.name _ HV.out (by omega)).mono ?_
  rintro e w1 ⟨D1, e1, dv, D3, e3, rfl, t1, t3, hrow, hb⟩
  obtain ⟨n, hn⟩ : ∃ n, (dropS s p.name).pods.length = n := ⟨_, rfl⟩
  have hput : (putS s p).pods = insN p (dropS s p.name).pods := rfl
  obtain ⟨l, hld⟩ : ∃ l, (dropS s p.name).pods = l := ⟨_, rfl⟩
  rw [hld] at hn hrow hput hdl HUP
  obtain ⟨css, hcl, hck, hown⟩ := hrow
  rw [hn] at hown
  obtain ⟨A, c, rfl⟩ := Kd.row_form0 hown
  have HPUT := Lib.hid hput
  have T1 := Lib.hid t1
  have T3 := Lib.hid t3
  have HCL := Lib.hid hcl
  have HCK := Lib.hid hck
  have HOW := Lib.hid hown
  have HN := Lib.hid hn
  have hbs := hb.size
  have q1 := (hb.block _ (blk_lt HK.out.1)).trans HK.out.1
  have q2 := (hb.block _ (blk_lt HK.out.2.1)).trans HK.out.2.1
  have q3 := (hb.block _ (blk_lt HK.out.2.2)).trans HK.out.2.2
  have HQ1 := Lib.hid q1
  have HQ2 := Lib.hid q2
  have HQ3 := Lib.hid q3
  have HB1 := Lib.hid hb
  clear z zf y yf hb t1 t3 hcl hck hown hld hput
  obtain ⟨z, zf⟩ := blk_all q1
  clear q1 q2 q3
  go_upto_region 2 with fail
  rw [show (((w1.setCell ⟨w.heap.size, 0, none⟩ (.slice D1 s.nodes.length e1)).setCell ⟨w.heap.size, 1, none⟩ (.slice A n c)).setCell ⟨w.heap.size, 2, none⟩ (.slice D3 s.budgets.length e3)) = w1.setCells w.heap.size 0 [.slice D1 s.nodes.length e1, .slice A n c, .slice D3 s.budgets.length e3] from rfl]
  have kU := setCells_all (cs := [.slice D1 s.nodes.length e1, .slice A n c, .slice D3 s.budgets.length e3]) HQ1.out rfl
  have kU2 := (setCells_far w.heap.size [.slice D1 s.nodes.length e1, .slice A n c, .slice D3 s.budgets.length e3] 0 w1 (w.heap.size + 1) (by omega)).trans HQ2.out
  have kU3 := (setCells_far w.heap.size [.slice D1 s.nodes.length e1, .slice A n c, .slice D3 s.budgets.length e3] 0 w1 (w.heap.size + 1 + 1) (by omega)).trans HQ3.out
  have hle : (vw W (w.heap.size :: (w.heap.size + 1 + 1) :: M)).le (vw (w1.setCells w.heap.size 0 [.slice D1 s.nodes.length e1, .slice A n c, .slice D3 s.budgets.length e3]) (w.heap.size :: (w.heap.size + 1 + 1) :: M)) := View.le_trans (vw_below HB1.out) (vw_setCells (List.mem_cons_self ..) _ _)
  have hown := own_setCells (b := w.heap.size) (by omega) [.slice D1 s.nodes.length e1, .slice A n c, .slice D3 s.budgets.length e3] 0 HOW.out
  have hbu : Below w.heap.size w (w1.setCells w.heap.size 0 [.slice D1 s.nodes.length e1, .slice A n c, .slice D3 s.budgets.length e3]) := Below.setCells (Below.then HBW.out HB1.out) (Nat.le_refl _) _ _
  have hus : W.heap.size ≤ (w1.setCells w.heap.size 0 [.slice D1 s.nodes.length e1, .slice A n c, .slice D3 s.budgets.length e3]).heap.size := by rw [setCells_size]; exact hbs
  generalize w1.setCells w.heap.size 0 [.slice D1 s.nodes.length e1, .slice A n c, .slice D3 s.budgets.length e3] = U at kU kU2 kU3 hle hown hbu hus ⊢
  have HKU := Lib.hid (And.intro kU (And.intro kU2 kU3))
  have HLE := Lib.hid hle
  have HOU := Lib.hid hown
  have HBU := Lib.hid hbu
  have HSU : Hid (Kd.pod.S (vw U (w.heap.size :: (w.heap.size + 1 + 1) :: M)) (.slice A n c) l) := by
    have hr : Kd.pod.Row0 W (w.heap.size :: (w.heap.size + 1 + 1) :: M) U W.heap.size 35 (.slice A n c) l := ⟨css, HCL.out, HCK.out, by rw [HN.out]; exact hown⟩
    exact hr.S2 hle HM2.out (by omega)
  clear z zf HQ1 HQ2 HQ3 HOW HB1 hle hown hbu
  obtain ⟨z, zf⟩ := blk_all kU
  obtain ⟨y, yf⟩ := blk_all kU2
  clear kU kU2 kU3
  go_wp2_with fail
  refine (search_calls _ l p.name _ HSU.out (by omega) HUP.out).mono ?_
  rintro e w2 ⟨k, b, rfl, hkl, hk1, hk2, hb⟩
  have HINS : Hid (insN p l = l.take k ++ p :: l.drop k) := insN_at hkl hk1 hk2
  have hl2 := blk_lt HKU.out.1
  replace HKU := Lib.hid (And.intro ((hb.block _ (blk_lt HKU.out.1)).trans HKU.out.1) (And.intro ((hb.block _ (blk_lt HKU.out.2.1)).trans HKU.out.2.1) ((hb.block _ (blk_lt HKU.out.2.2)).trans HKU.out.2.2)))
  replace HLE := Lib.hid (View.le_trans HLE.out (vw_below hb))
  replace HOU := Lib.hid (own_below HOU.out hb)
  replace HBU := Lib.hid (Below.then HBU.out hb)
  have h2s := hb.size
  clear z zf y yf hb hk1 hk2 HSU
  obtain ⟨z, zf⟩ := blk_all HKU.out.1
  obtain ⟨y, yf⟩ := blk_all HKU.out.2.1
  have hal := alloc_below w2 (.cells #[.string p.name, .string p.owner, .int .i64 p.prio, .slice P1 p.need.length p1, .slice P2 p.labels.length p2, .slice P3 p.sel.length p3, .slice P4 p.tols.length p4, .string p.key, .int .i64 p.most, .string p.node, .bool p.hold] 35)
  have HA4 : Hid (∀ q, (Value.slice A n c).ownBlock = some q → w2.heap.size ≠ q) := fun q hq => by
    have := (HOU.out.lt q hq).2
    omega
  have HAL := Lib.hid hal
  clear hal
  go_wp2_with fail
  refine (Insert_calls W.heap.size n c k w2.heap.size A 35 _ _ _ (own_below HOU.out HAL.out) (by have := HN.out; omega) rfl (pods_one HCL.out HCK.out) (pod_ones _ _ _ HKP2.out) (blk_last w2 _) HA4.out (by have := HAL.out.size; omega) (by have := HN.out; omega)).mono ?_
  rintro e w4 ⟨v', rfl, ho4, hb4⟩
  have hr4 : Kd.pod.Row0 W (w.heap.size :: (w.heap.size + 1 + 1) :: M) w4 W.heap.size 35 v' (insN p l) := by
    rw [HINS.out]
    exact row_ins HCL.out HCK.out hkl HKP2.out HN.out ho4
  have hle4 : (vw W (w.heap.size :: (w.heap.size + 1 + 1) :: M)).le (vw w4 (w.heap.size :: (w.heap.size + 1 + 1) :: M)) := vw_low (View.le_trans HLE.out (vw_below HAL.out)) hb4
  have hll : (insN p l).length = n + 1 := by rw [(insN_perm p l).length_eq, List.length_cons]; have := HN.out; omega
  obtain ⟨G, gc, rfl⟩ := Kd.row_form0 ho4
  have hk4 := HKU.out
  have q1 := ((hb4.block _ (by have := HAL.out.size; omega)).trans (HAL.out.block _ (blk_lt hk4.1))).trans hk4.1
  have q3 := ((hb4.block _ (by omega)).trans (HAL.out.block _ (blk_lt hk4.2.2))).trans hk4.2.2
  have hbw4 : Below w.heap.size w w4 := (Below.then HBU.out HAL.out).trans (hb4.mono (by omega))
  have HR4 := Lib.hid hr4
  have HL4 := Lib.hid hle4
  have HLL := Lib.hid hll
  have HB4 := Lib.hid hbw4
  have HQ1 := Lib.hid q1
  have HQ3 := Lib.hid q3
  clear z zf y yf ho4 hb4 hr4 hle4 hll hk4 hbw4 HA4 HAL HKU HOU
  obtain ⟨z, zf⟩ := blk_all q1
  obtain ⟨y, yf⟩ := blk_all q3
  clear q1 q3
  go_upto_region 4 with fail
  have kV1 := blk_set (j := 1) HQ1.out (.slice G (n + 1) gc)
  have kV3 := (Below.heap_setCell w4 ⟨w.heap.size, 1, none⟩ (.slice G (n + 1) gc) (w.heap.size + 1 + 1) (by show w.heap.size + 1 + 1 ≠ w.heap.size; omega)).trans HQ3.out
  have hR5 := HR4.out.setCell (p := ⟨w.heap.size, 1, none⟩) (by show w.heap.size < W.heap.size; omega) (.slice G (n + 1) gc)
  have hL5 : (vw W (w.heap.size :: (w.heap.size + 1 + 1) :: M)).le (vw (w4.setCell ⟨w.heap.size, 1, none⟩ (.slice G (n + 1) gc)) (w.heap.size :: (w.heap.size + 1 + 1) :: M)) := View.le_trans HL4.out (vw_setCells (List.mem_cons_self ..) [.slice G (n + 1) gc] 1)
  have hB5 : Below w.heap.size w (w4.setCell ⟨w.heap.size, 1, none⟩ (.slice G (n + 1) gc)) := Below.setCell HB4.out (p := ⟨w.heap.size, 1, none⟩) (Nat.le_refl _) _
  generalize w4.setCell ⟨w.heap.size, 1, none⟩ (.slice G (n + 1) gc) = V at kV1 kV3 hR5 hL5 hB5 ⊢
  have HR5 := Lib.hid hR5
  have HL5 := Lib.hid hL5
  have HB5 := Lib.hid hB5
  have HQ5 := Lib.hid kV3
  clear z zf y yf HR4 HL4 HB4 HQ1 HQ3 hR5 hL5 hB5
  have kV1' : V.heap[w.heap.size]? = some (.cells #[.slice D1 s.nodes.length e1, .slice G (n + 1) gc, .slice D3 s.budgets.length e3] 26 (0, 0)) := kV1
  obtain ⟨z, zf⟩ := blk_all kV1'
  obtain ⟨y, yf⟩ := blk_all kV3
  clear kV1 kV1' kV3
  go_wp2
  rw [show (((V.setCell ⟨w.heap.size + 1 + 1, 0, none⟩ (.slice D1 s.nodes.length e1)).setCell ⟨w.heap.size + 1 + 1, 1, none⟩ (.slice G (n + 1) gc)).setCell ⟨w.heap.size + 1 + 1, 2, none⟩ (.slice D3 s.budgets.length e3)) = V.setCells (w.heap.size + 1 + 1) 0 [.slice D1 s.nodes.length e1, .slice G (n + 1) gc, .slice D3 s.budgets.length e3] from rfl]
  have hset := setCells_all (cs := [.slice D1 s.nodes.length e1, .slice G (n + 1) gc, .slice D3 s.budgets.length e3]) HQ5.out rfl
  have hlf : (vw W (w.heap.size :: (w.heap.size + 1 + 1) :: M)).le (vw (V.setCells (w.heap.size + 1 + 1) 0 [.slice D1 s.nodes.length e1, .slice G (n + 1) gc, .slice D3 s.budgets.length e3]) (w.heap.size :: (w.heap.size + 1 + 1) :: M)) := View.le_trans HL5.out (vw_setCells (List.mem_cons_of_mem _ (List.mem_cons_self ..)) _ _)
  have hrf : Kd.pod.Row0 W (w.heap.size :: (w.heap.size + 1 + 1) :: M) (V.setCells (w.heap.size + 1 + 1) 0 [.slice D1 s.nodes.length e1, .slice G (n + 1) gc, .slice D3 s.budgets.length e3]) W.heap.size 35 (.slice G (n + 1) gc) (insN p l) := by
    obtain ⟨css5, a1, a2, a3⟩ := HR5.out
    exact ⟨css5, a1, a2, own_setCells (by omega) _ _ a3⟩
  have hsf := hrf.S2 hlf HM2.out (by have := HLL.out; have := HN.out; omega)
  have hMM : (vw (V.setCells (w.heap.size + 1 + 1) 0 [.slice D1 s.nodes.length e1, .slice G (n + 1) gc, .slice D3 s.budgets.length e3]) (w.heap.size :: (w.heap.size + 1 + 1) :: M)).le (vw (V.setCells (w.heap.size + 1 + 1) 0 [.slice D1 s.nodes.length e1, .slice G (n + 1) gc, .slice D3 s.budgets.length e3]) M) := vw_sub (fun b hb => List.mem_cons_of_mem _ (List.mem_cons_of_mem _ hb))
  refine ret_row1 (cs := [.slice D1 s.nodes.length e1, .slice G (n + 1) gc, .slice D3 s.budgets.length e3]) rfl rfl hset Tryz.underlying26 rfl (by kernel_rfl) rfl ⟨_, rfl, ⟨D1, e1, G, gc, D3, e3, ?_, (T1.out.mono hlf).mono hMM, ?_, (T3.out.mono hlf).mono hMM⟩, Below.setCells HB5.out (by omega) _ _⟩
  · rw [HPUT.out, HLL.out]; rfl
  · rw [HPUT.out, HLL.out]; exact hsf.mono hMM
end Go.Proofs.YtnmhicgbdalniaaGreatDoor
