import Derived.Test.YtnmhicgbdalniaaGreatDoorMs32
import Derived.Test.YtnmhicgbdalniaaGreatDoorMs34
namespace Go.Proofs.YtnmhicgbdalniaaGreatDoor
open Go.RowKit

/-! A sound cluster: the plain law; what keeps it sound. -/
abbrev UpN {α : Type} (nm : α → ByteArray) (l : List α) : Prop := l.Pairwise fun a b => ltS (nm a) (nm b) = true
def onAt (s : St) (name : ByteArray) : List Pd := s.pods.filter (onB name)
structure Sound (s : St) : Prop where
  nlen : s.nodes.length ≤ 32
  nok : ∀ n ∈ s.nodes, checkNode n = 0
  nup : UpN Nd.name s.nodes
  plen : s.pods.length ≤ 128
  pok : ∀ p ∈ s.pods, checkPod p = 0
  pup : UpN Pd.name s.pods
  bok : checkBudgets s.budgets = 0
  there : ∀ p ∈ s.pods, podV s p = 0
  room : ∀ n ∈ s.nodes, ∀ x, tot Pd.need (onAt s n.name) x ≤ getA n.cap x
  total : (totalV s).2 = 0
theorem firstV_zero {α : Type} {f : α → Int} : ∀ {l : List α}, firstV f l = 0 ↔ ∀ x ∈ l, f x = 0
  | [] => ⟨fun _ x h => (by cases h), fun _ => rfl⟩
  | x :: r => by
    unfold firstV
    constructor
    · intro h
      obtain ⟨h1, h2⟩ := orV_zero h
      intro y hy
      rcases List.mem_cons.1 hy with rfl | hy
      · exact h1
      · exact firstV_zero.1 h2 y hy
    · intro h
      rw [orV_r (h x (List.mem_cons_self ..))]
      exact firstV_zero.2 fun y hy => h y (List.mem_cons_of_mem _ hy)
theorem manyV_mk {α : Type} {lim : Nat} {l : List α} {n : Int} (h : l.length ≤ lim) (hn : n = 0) : manyV lim l n = 0 := by
  unfold manyV
  rw [if_neg (by omega)]; exact hn
theorem node_cap {n : Nd} (h : checkNode n = 0) : GoodV n.cap := by
  unfold checkNode at h
  exact (vec_iff _).1 (orV_zero (orV_zero h).2).1
theorem node_name {n : Nd} (h : checkNode n = 0) : isName n.name = true := by
  unfold checkNode at h
  have := (orV_zero h).1
  cases hv : isName n.name with
  | true => rfl
  | false => rw [hv] at this; cases this
theorem pod_need {p : Pd} (h : checkPod p = 0) : GoodV p.need := by
  unfold checkPod at h
  exact (vec_iff _).1 (orV_zero (orV_zero (orV_zero (orV_zero h).2).2).2).1
theorem find_up : ∀ {l : List Nd}, UpN Nd.name l → ∀ n ∈ l, findV l n.name = (n, true)
  | m :: r, h, n, hn => by
    obtain ⟨h1, h2⟩ := List.pairwise_cons.1 h
    unfold findV
    rcases List.mem_cons.1 hn with rfl | hn
    · rw [if_pos rfl]
    · rw [if_neg (ltS_ne (h1 n hn))]
      exact find_up h2 n hn
theorem find_is : ∀ {l : List Nd} {k : ByteArray}, (findV l k).2 = true → (findV l k).1.name = k
  | n :: r, k, h => by
    unfold findV at *
    by_cases e : n.name = k
    · rw [if_pos e]; exact e
    · rw [if_neg e] at h ⊢; exact find_is h
theorem find_has {l : List Nd} {k : ByteArray} : (findV l k).2 = true ↔ ∃ n ∈ l, n.name = k := by
  constructor
  · exact fun h => ⟨_, findV_mem h, find_is h⟩
  · rintro ⟨n, hn, rfl⟩
    induction l with
    | nil => cases hn
    | cons m r ih =>
      unfold findV
      by_cases e : m.name = n.name
      · rw [if_pos e]
      · rw [if_neg e]
        rcases List.mem_cons.1 hn with rfl | hn
        · exact absurd rfl e
        · exact ih hn
theorem cap_max {l : List Nd} (h : (sumV Nd.cap l []).2 = 0) : ∀ n ∈ l, ∀ x, getA n.cap x ≤ maxN := by
  obtain ⟨h1, -, -, h4⟩ := sumV_zero Nd.cap l [] goodV_nil (fun x => by show (0 : Int) ≤ maxN; unfold maxN; decide) h
  intro n hn x
  have := h4 x
  have := tot_mem Nd.cap l h1 n hn x
  have h0 : getA ([] : List Amt) x = 0 := rfl
  omega
/-- What is in use on a node: sums. -/
theorem used_says {s : St} {n : Nd} (hf : findV s.nodes n.name = (n, true)) (hc : GoodV n.cap) (hm : ∀ x, getA n.cap x ≤ maxN) :
    roomV s n = 0 ↔ (∀ p ∈ onAt s n.name, GoodV p.need) ∧ ∀ x, tot Pd.need (onAt s n.name) x ≤ getA n.cap x := by
  have hu : usedV s n.name = sumV Pd.need (onAt s n.name) [] := by
    unfold usedV
    rw [hf]; rfl
  have h0 : ∀ x, getA ([] : List Amt) x ≤ maxN := fun x => by show (0 : Int) ≤ maxN; unfold maxN; decide
  unfold roomV
  rw [hu]
  constructor
  · intro h
    obtain ⟨h1, h2⟩ := orV_zero h
    obtain ⟨i1, i2, i3, -⟩ := sumV_zero Pd.need _ [] goodV_nil h0 h1
    refine ⟨i1, fun x => ?_⟩
    cases hft : fitsV (sumV Pd.need (onAt s n.name) []).1 n.cap with
    | false => rw [hft] at h2; cases h2
    | true =>
      have := (fits_iff i2 (fun x => hc.nonneg x)).1 hft x
      rw [i3] at this
      have h0 : getA ([] : List Amt) x = 0 := rfl
      omega
  · rintro ⟨h1, h2⟩
    have hz : (sumV Pd.need (onAt s n.name) []).2 = 0 := sumV_ok Pd.need (U := n.cap.map (·.name)) (by rw [List.length_map]; exact hc.len) _ [] goodV_nil h1 (fun z hz => by cases hz) (fun p hp z hz => by
      have g := h1 p hp
      have k1 := tot_mem Pd.need _ h1 p hp z.name
      have k2 := h2 z.name
      rw [getA_mem g.up z hz] at k1
      have k3 := (g.pos z hz).2
      obtain ⟨y, hy, e⟩ := getA_some (v := n.cap) (x := z.name) (by omega)
      rw [← e]; exact List.mem_map_of_mem hy) (fun x => by
      have := h2 x
      have := hm x
      have h0 : getA ([] : List Amt) x = 0 := rfl
      omega)
    obtain ⟨i1, i2, i3, -⟩ := sumV_zero Pd.need _ [] goodV_nil h0 hz
    rw [orV_r hz]
    have : fitsV (sumV Pd.need (onAt s n.name) []).1 n.cap = true := (fits_iff i2 (fun x => hc.nonneg x)).2 fun x => by
      rw [i3]
      have h0 : getA ([] : List Amt) x = 0 := rfl
      have := h2 x
      omega
    rw [this]; rfl
theorem sound_iff (s : St) : checkSt s = 0 ↔ Sound s := by
  unfold checkSt
  constructor
  · intro h
    obtain ⟨h1, h⟩ := orV_zero h
    obtain ⟨h2, h⟩ := orV_zero h
    obtain ⟨h3, h⟩ := orV_zero h
    obtain ⟨h4, h⟩ := orV_zero h
    obtain ⟨h5, h6⟩ := orV_zero h
    obtain ⟨a1, a2⟩ := manyV_zero h1
    obtain ⟨a2, a3, -⟩ := rowsV_zero a2
    obtain ⟨b1, b2⟩ := manyV_zero h2
    obtain ⟨b2, b3, -⟩ := rowsV_zero b2
    refine ⟨a1, a2, a3, b1, b2, b3, h3, firstV_zero.1 h4, fun n hn => ?_, h6⟩
    exact ((used_says (find_up a3 n hn) (node_cap (a2 n hn)) (cap_max h6 n hn)).1 (firstV_zero.1 h5 n hn)).2
  · rintro ⟨a1, a2, a3, b1, b2, b3, h3, h4, h5, h6⟩
    rw [orV_r (show checkNodes s.nodes = 0 from manyV_mk a1 (rowsV_mk a2 a3 (fun q h => by cases h))), orV_r (show checkPods s.pods = 0 from manyV_mk b1 (rowsV_mk b2 b3 (fun q h => by cases h))), orV_r h3, orV_r (firstV_zero.2 h4),
      orV_r (firstV_zero.2 fun n hn => (used_says (find_up a3 n hn) (node_cap (a2 n hn)) (cap_max h6 n hn)).2 ⟨fun p hp => pod_need (b2 p (List.mem_filter.1 hp).1), h5 n hn⟩)]
    exact h6
theorem Sound.needs {s : St} (h : Sound s) (name : ByteArray) : ∀ p ∈ onAt s name, GoodV p.need := fun p hp => pod_need (h.pok p (List.mem_filter.1 hp).1)
theorem Sound.apart {s : St} (h : Sound s) : Apart s.pods := List.Pairwise.imp (fun k => ltS_ne k) h.pup
theorem Sound.find {s : St} (h : Sound s) {n : Nd} (hn : n ∈ s.nodes) : findV s.nodes n.name = (n, true) := find_up h.nup n hn
theorem Sound.capm {s : St} (h : Sound s) {n : Nd} (hn : n ∈ s.nodes) : ∀ x, getA n.cap x ≤ maxN := cap_max h.total n hn
/-- What is left on a node: differences. -/
theorem Sound.free {s : St} (h : Sound s) {n : Nd} (hn : n ∈ s.nodes) : ∃ v, freeV s n.name = (v, 0) ∧ ∀ x, getA v x = getA n.cap x - tot Pd.need (onAt s n.name) x := by
  have hr := (used_says (h.find hn) (node_cap (h.nok n hn)) (h.capm hn)).2 ⟨h.needs _, h.room n hn⟩
  unfold roomV at hr
  have hz := (orV_zero hr).1
  have hu : usedV s n.name = sumV Pd.need (onAt s n.name) [] := by
    unfold usedV
    rw [h.find hn]; rfl
  rw [hu] at hz
  obtain ⟨-, i2, i3, -⟩ := sumV_zero Pd.need _ [] goodV_nil (fun x => by show (0 : Int) ≤ maxN; unfold maxN; decide) hz
  have i4 : ∀ x, getA (sumV Pd.need (onAt s n.name) []).1 x = tot Pd.need (onAt s n.name) x := fun x => by
    rw [i3]
    have h0 : getA ([] : List Amt) x = 0 := rfl
    omega
  obtain ⟨j1, j2⟩ := sub_ok (node_cap (h.nok n hn)) i2 (fun x => by rw [i4]; exact h.room n hn x)
  refine ⟨_, ?_, fun x => by rw [j2, i4]⟩
  unfold freeV
  rw [hu, if_neg (fun k => k hz), h.find hn]
  exact j1
theorem onAt_sub {s : St} {l : List Pd} (h : l.Sublist s.pods) (name : ByteArray) : (l.filter (onB name)).Sublist (onAt s name) := h.filter _
/-- Fewer pods: sound still. -/
theorem Sound.fewer {s : St} (h : Sound s) {l : List Pd} (hl : l.Sublist s.pods) : Sound { s with pods := l } where
  nlen := h.nlen
  nok := h.nok
  nup := h.nup
  plen := Nat.le_trans hl.length_le h.plen
  pok := fun p hp => h.pok p (hl.subset hp)
  pup := h.pup.sublist hl
  bok := h.bok
  there := fun p hp => h.there p (hl.subset hp)
  room := fun n hn x => Int.le_trans (tot_sub Pd.need (onAt_sub hl n.name) (h.needs _) x) (h.room n hn x)
  total := h.total
theorem Sound.drop {s : St} (h : Sound s) (name : ByteArray) : Sound (dropS s name) := h.fewer List.filter_sublist
/-- Where a pod fits there is room for it. -/
theorem fitD_says {s : St} {p : Pd} {name : ByteArray} (h : fitD s p name = 0) : (findV s.nodes name).2 = true ∧ (!(findV s.nodes name).1.cordon && matchV p.sel (findV s.nodes name).1.labels) = true ∧ (worstV p.tols (findV s.nodes name).1.taints).2 = false ∧ skewOk s p name = true ∧ (freeV s name).2 = 0 ∧ fitsV p.need (freeV s name).1 = true := by
  unfold fitD at h
  split at h
  · cases h
  · rename_i h1
    split at h
    · cases h
    · rename_i h2
      split at h
      · cases h
      · rename_i h3
        split at h
        · cases h
        · rename_i h4
          split at h
          · cases h
          · rename_i h5
            simp only [Bool.not_eq_false, Bool.and_eq_true, decide_eq_true_eq, Bool.not_eq_true] at h1 h2 h3 h4 h5
            exact ⟨h1, by rw [Bool.and_eq_true]; exact h2, h3, h4, h5.1, h5.2⟩
end Go.Proofs.YtnmhicgbdalniaaGreatDoor
