import Derived.Test.YtnmhicgbdalniaaGreatDoorMs1
import Derived.Deep.MidRow
import Derived.RegionTactic
namespace Go.Proofs.YtnmhicgbdalniaaGreatDoor
open Go.RowKit Go.ChangeShapes Go.WideShapes
/-! Structs: what their cells hold, field by field. -/
namespace Kd
variable {α β : Type}
def unit : Kd Unit where
  sz := 0
  K := fun _ _ cs => cs = []
  len := fun h => by rw [h]; rfl
  mono := fun _ h => h
def cons (d : Kd α) (e : Kd β) : Kd (α × β) where
  sz := d.sz + e.sz
  K := fun h x cs => ∃ a b, cs = a ++ b ∧ d.K h x.1 a ∧ e.K h x.2 b
  len := by rintro h x cs ⟨a, b, rfl, h1, h2⟩; rw [List.length_append, d.len h1, e.len h2]
  mono := by rintro h k x cs hk ⟨a, b, e1, h1, h2⟩; exact ⟨a, b, e1, d.mono hk h1, e.mono hk h2⟩
structure OpensFs (d : Kd α) (P : Program) (fs : List Field) (at_ : Nat) : Prop where
  out : ∀ {H : Type} {enc : TypeId × Value → H} {w : World} {base : Nat} {sp : Nat → Bool} {held : Bool} {n : Nat} {cs : List Value} {xs : List (DataW H × List MemPlace)},
    cs.length = at_ + d.sz → (∀ (i : Nat) (f : Field), fs[i]? = some f → DataW.trod enc P w base sp held n f.type ((cs.drop f.offset).take (P.cellsOf f.type)) = xs[i]?) → xs.length = fs.length →
    (∀ m ∈ DataW.weightsEach P (fs.map Field.type) (xs.map (·.1)), m ≤ reachBytes) → ∃ a, d.K (vw w []) a (cs.drop at_)
theorem opensFs_nil {P : Program} {at_ : Nat} : unit.OpensFs P [] at_ := ⟨fun {_ _ _ _ _ _ _ cs _} h _ _ _ => ⟨(), List.drop_eq_nil_of_le (by rw [h]; exact Nat.le_refl _)⟩⟩
theorem opensFs_cons {P : Program} {d : Kd α} {e : Kd β} {f : Field} {fs : List Field} {at_ : Nat} (ho : f.offset = at_) (hd : d.Opens P f.type) (he : e.OpensFs P fs (at_ + d.sz)) : (cons d e).OpensFs P (f :: fs) at_ := by
  refine ⟨fun {H enc w base sp held n cs xs} hl hf hx hw => ?_⟩
  cases xs with
  | nil => cases hx
  | cons y ys =>
    have h0 := hf 0 f rfl
    simp only [List.getElem?_cons_zero] at h0
    rw [ho, hd.1] at h0
    obtain ⟨a, ha⟩ := hd.2 h0 (fun m hm => hw m (by
      simp only [List.map_cons, DataW.weightsEach]
      exact List.mem_append_left _ hm))
    obtain ⟨b, hb⟩ := he.out (cs := cs) (xs := ys) (by simp only [cons] at hl; omega) (fun i g hg => by
      have := hf (i + 1) g (by simpa using hg)
      simpa using this) (by simpa using hx) (fun m hm => hw m (by
      simp only [List.map_cons, DataW.weightsEach]
      exact List.mem_append_right _ hm))
    refine ⟨(a, b), _, _, ?_, ha, hb⟩
    rw [← List.drop_drop, List.take_append_drop]
theorem opens_struct {P : Program} {d : Kd α} {t : TypeId} {fs : Array Field} (hs : P.cellsOf t = d.sz) (h : P.underlying t = some (.struct fs)) (ho : d.OpensFs P fs.toList 0) : d.Opens P t := by
  refine ⟨hs, fun {H enc w base sp held fuel cs x} hx hw => ?_⟩
  obtain ⟨xs, n, _, rfl, hl, hlen, hf⟩ := DataW.trod_struct h hx
  have := ho.out (cs := cs) (xs := xs) (n := n) (by omega) (fun i f hi => hf i f (by simpa using hi)) (by simpa using hlen) (fun m hm => hw m (by simpa only [DataW.weights, h] using hm))
  simpa using this
theorem Opens.conv {P : Program} {d : Kd α} {e : Kd β} {t : TypeId} (h : d.Opens P t) (hz : d.sz = e.sz) (hk : ∀ k a cs, d.K k a cs → ∃ b, e.K k b cs) : e.Opens P t :=
  ⟨h.1.trans hz, fun hx hw => by obtain ⟨a, ha⟩ := h.2 hx hw; exact hk _ _ _ ha⟩
end Kd
/-- The cells of an element, or of a struct, lie at an address of a world. -/
theorem range_of_view {w : World} {M : List Nat} {b o : Nat} {cs : List Value} (h : ∀ i u, cs[i]? = some u → (vw w M).cell? ⟨b, o + i, none⟩ = some u) : w.rangeAt b o cs := fun j v hv => cell_of_vw (h j v hv)
theorem range_block {w : World} {b : Nat} {cs : List Value} {t : TypeId} {fr : Nat × Nat} (h : w.heap[b]? = some (.cells cs.toArray t fr)) : w.rangeAt b 0 cs := fun j v hv => by
  rw [Nat.zero_add, cell_of_row w b j _ _ _ h]; simpa using hv
namespace Kd
variable {α : Type}
/-- Cells without memory behind them, n of them. -/
def flat (n : Nat) (f : α → List Value) (p : α → Prop) (hn : ∀ x, (f x).length = n) : Kd α where
  sz := n
  K := fun _ x cs => cs = f x ∧ p x
  len := fun h => by rw [h.1]; exact hn _
  mono := fun _ h => h
theorem S.elemN {n : Nat} {f : α → List Value} {p : α → Prop} {hn : ∀ x, (f x).length = n} {w : World} {M : List Nat} {A : Option Addr} {m cap : Nat} {xs : List α} (s : (flat n f p hn).S (vw w M) (.slice A m cap) xs) (j : Nat) (hj : j < xs.length) :
    ∃ b off, A = some ⟨b, off, none⟩ ∧ w.rangeAt b (off + j * n) (f xs[j]) ∧ p xs[j] := by
  obtain ⟨b, off, cs, e, h1, h2⟩ := s.elem j hj
  obtain ⟨rfl, hp⟩ := h1
  exact ⟨b, off, e, range_of_view h2, hp⟩
end Kd
end Go.Proofs.YtnmhicgbdalniaaGreatDoor
namespace Go.Proofs.YtnmhicgbdalniaaGreatDoor
open Go.RowKit

/-! A region that draws its order, by one invariant: each operation is walked once, whatever came ahead of it. -/
def setL (L : Nat → Bool) (i : Nat) : Nat → Bool := fun j => if j = i then true else L j
def depsOf (o : Oper) : List Nat := (o.after.toList.filter fun e => Region.binds .any e).map (·.on)
section
variable {P : Program} {ops : Array Oper} {Q : Exit → Act → World → Prop}
/-- What is asked of an operation. -/
def StepOk (P : Program) (ops : Array Oper) (Q : Exit → Act → World → Prop) (J : (Nat → Bool) → Act → World → Prop) (i : Nat) (o : Oper) : Prop :=
  ∀ (L : Nat → Bool) (a : Act) (w : World) (K : Act → World → Prop), J L a w → L i = false → (∀ k ∈ depsOf o, L k = true) → (∀ a' w', J (setL L i) a' w' → K a' w') →
    if Region.wanted o (yielded ops a.tmps) = true then o.wp P a w K Q else K (a.put o.dst undef) w
def StepsOk (P : Program) (ops : Array Oper) (Q : Exit → Act → World → Prop) (J : (Nat → Bool) → Act → World → Prop) : Nat → List Oper → Prop
  | _, [] => True
  | i, o :: r => StepOk P ops Q J i o ∧ StepsOk P ops Q J (i + 1) r
theorem StepsOk.get {J : (Nat → Bool) → Act → World → Prop} : ∀ (l : List Oper) (k : Nat), StepsOk P ops Q J k l → ∀ (i : Nat) (o : Oper), l[i]? = some o → StepOk P ops Q J (k + i) o
  | [], _, _, i, o, h => by simp at h
  | x :: r, k, hs, 0, o, h => by
    obtain rfl : x = o := by simpa using h
    exact hs.1
  | x :: r, k, hs, i + 1, o, h => by
    have := StepsOk.get r (k + 1) hs.2 i o (by simpa using h)
    rwa [show k + (i + 1) = k + 1 + i by omega]
def lexOk (ops : Array Oper) : Bool := (List.range ops.size).all fun i => ((ops[i]?).map fun o => o.after.all fun e => !Region.binds .any e || decide (e.on < i)).getD true
theorem lexOk_at (h : lexOk ops = true) {i : Nat} {o : Oper} (ho : ops[i]? = some o) : ∀ e ∈ o.after, Region.binds .any e = true → e.on < i := by
  intro e he hb
  have hi := (Array.getElem?_eq_some_iff.1 ho).1
  have := List.all_eq_true.1 h i (List.mem_range.2 hi)
  rw [ho] at this
  simp only [Option.map_some, Option.getD_some, Array.all_eq_true_iff_forall_mem] at this
  have := this e he
  simpa [hb] using this
theorem all_listed (hB : lexOk ops = true) {listed : Array Bool} (hs : listed.size = ops.size) (hr : Region.ready .any ops listed = []) : ∀ i, listed.getD i true = true := by
  intro i
  induction i using Nat.strongRecOn with
  | ind i ih =>
    rcases Nat.lt_or_ge i ops.size with hi | hi
    · cases hl : listed.getD i true with
      | true => rfl
      | false =>
        exfalso
        have hm : i ∈ Region.ready .any ops listed := by
          refine mem_ready.2 ⟨hl, ops[i], Array.getElem?_eq_getElem hi, fun e he hb => ?_⟩
          have hlt := lexOk_at hB (Array.getElem?_eq_getElem hi) e he hb
          have h1 := ih e.on hlt
          have h2 : e.on < listed.size := by omega
          simp only [Array.getD_eq_getD_getElem?, Array.getElem?_eq_getElem h2, Option.getD_some] at h1 ⊢
          exact h1
        rw [hr] at hm
        cases hm
    · have h2 : listed.size ≤ i := by omega
      simp [Array.getD_eq_getD_getElem?, Array.getElem?_eq_none h2]
theorem count_set : ∀ (l : List Bool) (i : Nat), l[i]? = some false → (l.set i true).count false + 1 = l.count false
  | [], i, h => by simp at h
  | b :: r, 0, h => by
    obtain rfl : b = false := by simpa using h
    simp
  | b :: r, i + 1, h => by
    have := count_set r i (by simpa using h)
    cases b <;> simp <;> omega
theorem wpAny_inv {J : (Nat → Bool) → Act → World → Prop} (hB : lexOk ops = true) (hst : StepsOk P ops Q J 0 ops.toList) (hend : ∀ L a w, J L a w → (∀ i, L i = true) → Q .normal a w) :
    ∀ (fuel : Nat) (listed : Array Bool) (a : Act) (w : World), listed.size = ops.size → listed.toList.count false ≤ fuel → J (fun i => listed.getD i true) a w → wpAny P .any ops Q fuel listed a w
  | 0, listed, a, w, hs, hc, hJ => by
    have hall : ∀ i, listed.getD i true = true := fun i => by
      rcases Nat.lt_or_ge i listed.size with h | h
      · cases hl : listed[i] with
        | true => simp [Array.getD_eq_getD_getElem?, Array.getElem?_eq_getElem h, hl]
        | false =>
          have : false ∈ listed.toList := by rw [← hl]; exact Array.mem_toList_iff.2 (Array.getElem_mem h)
          have := List.count_pos_iff.2 this
          omega
      · simp [Array.getD_eq_getD_getElem?, Array.getElem?_eq_none h]
    refine ⟨?_, hend _ a w hJ hall⟩
    cases hr : Region.ready .any ops listed with
    | nil => rfl
    | cons x r =>
      have := (mem_ready.1 (show x ∈ Region.ready .any ops listed by rw [hr]; exact List.mem_cons_self ..)).1
      rw [hall x] at this
      cases this
  | fuel + 1, listed, a, w, hs, hc, hJ => by
    refine ⟨fun hr => hend _ a w hJ (all_listed hB hs hr), fun i hi => ?_⟩
    obtain ⟨hl, o, ho, hd⟩ := mem_ready.1 hi
    have hlt : i < listed.size := by rw [hs]; exact (Array.getElem?_eq_some_iff.1 ho).1
    have hstep := StepsOk.get ops.toList 0 hst i o (by simpa using ho)
    rw [Nat.zero_add] at hstep
    have hlf : listed[i] = false := by simpa [Array.getD_eq_getD_getElem?, Array.getElem?_eq_getElem hlt] using hl
    have hset : (fun j => (listed.setIfInBounds i true).getD j true) = setL (fun j => listed.getD j true) i := funext fun j => by
      unfold setL
      by_cases e : j = i
      · subst e
        rw [if_pos rfl]
        simp [Array.getD_eq_getD_getElem?, hlt]
      · rw [if_neg e, getD_set_ne true (Ne.symm e)]
    have hcount : (listed.setIfInBounds i true).toList.count false ≤ fuel := by
      have := count_set listed.toList i (by simp [hlt, hlf])
      rw [Array.toList_setIfInBounds]
      omega
    unfold wpOp
    rw [ho]
    simp only
    have h := hstep (fun j => listed.getD j true) a w (wpAny P .any ops Q fuel (listed.setIfInBounds i true)) hJ hl (fun k hk => by
      unfold depsOf at hk
      obtain ⟨e, he, rfl⟩ := List.mem_map.1 hk
      obtain ⟨he, hb⟩ := List.mem_filter.1 he
      have h1 := hd e (by simpa using he) hb
      show listed.getD e.on true = true
      rcases Nat.lt_or_ge e.on listed.size with h | h
      · simpa [Array.getD_eq_getD_getElem?, Array.getElem?_eq_getElem h] using h1
      · simp [Array.getD_eq_getD_getElem?, Array.getElem?_eq_none h]) (fun a' w' hJ' => wpAny_inv hB hst hend fuel _ a' w' (by simpa using hs) hcount (by rw [hset]; exact hJ'))
    split
    · rename_i hw
      rw [if_pos hw] at h
      exact .inl h
    · rename_i hw
      rw [if_neg hw] at h
      exact h
theorem wp_region_inv (J : (Nat → Bool) → Act → World → Prop) {id : Nat} {a : Act} {w : World} (hm : P.follows .mixedOrders = true) (hB : lexOk ops = true) (h0 : ∀ L, (∀ i, i < ops.size → L i = false) → J L a w.drew) (hst : StepsOk P ops Q J 0 ops.toList)
    (hend : ∀ L a w, J L a w → (∀ i, L i = true) → Q .normal a w) : (Code.region id ops true).wp P Q a w :=
  wp_region_any hm (wpAny_inv hB hst hend _ _ _ _ (by simp) (by simp) (h0 _ (fun i hi => by simp [hi])))
/-- The slots that the region fills, in one list. -/
def putAll (a : Act) : List Nat → List Value → Act
  | t :: ts, v :: vs => putAll (a.put (some t) v) ts vs
  | _, _ => a
theorem put_self (a : Act) (t : Nat) : a.put (some t) (a.tmps.getD t undef) = a := by
  unfold Act.put
  simp only
  congr 1
  apply Array.ext
  · simp
  · intro i h1 h2
    rw [Array.getElem_setIfInBounds (by simpa using h1)]
    split
    · rename_i e
      subst e
      simp [Array.getD_eq_getD_getElem?, Array.getElem?_eq_getElem h2]
    · rfl
theorem putAll_self (a : Act) : ∀ ts : List Nat, ∃ vs, vs.length = ts.length ∧ putAll a ts vs = a
  | [] => ⟨[], rfl, rfl⟩
  | t :: ts => by
    obtain ⟨vs, h1, h2⟩ := putAll_self a ts
    exact ⟨a.tmps.getD t undef :: vs, by simp [h1], by show putAll (a.put _ _) ts vs = a; rw [put_self]; exact h2⟩
theorem wp_region_slots (ts : List Nat) (R : (Nat → Bool) → List Value → World → Prop) {id : Nat} {a : Act} {w : World} (hm : P.follows .mixedOrders = true) (hB : lexOk ops = true)
    (h0 : ∀ L vs, (∀ i, i < ops.size → L i = false) → vs.length = ts.length → R L vs w.drew) (hst : StepsOk P ops Q (fun L a' w' => ∃ vs, a' = putAll a ts vs ∧ R L vs w') 0 ops.toList)
    (hend : ∀ L vs w', R L vs w' → (∀ i, L i = true) → Q .normal (putAll a ts vs) w') : (Code.region id ops true).wp P Q a w := by
  obtain ⟨vs, h1, h2⟩ := putAll_self a ts
  exact wp_region_inv _ hm hB (fun L hL => ⟨vs, h2.symm, h0 L vs hL h1⟩) hst (fun L a' w' ⟨vs, e, h⟩ hL => by subst e; exact hend L vs w' h hL)
end
end Go.Proofs.YtnmhicgbdalniaaGreatDoor
