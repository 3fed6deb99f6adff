import Derived.Test.YtnmhicgbdalniaaGreatDoorProg
import Derived.Test.YtnmhicgbdalniaaGreatDoorMf1
import Derived.Test.YtnmhicgbdalniaaGreatDoorMf5
import Derived.Test.YtnmhicgbdalniaaGreatDoorMf6
import Derived.Test.YtnmhicgbdalniaaGreatDoorMf7
import Derived.Shelf.SlSortCmp.NoneTotal
import Derived.Lib.ItoaNum
import Derived.Laws.IdiomStrings
namespace Go.Proofs.YtnmhicgbdalniaaGreatDoor
open Go.RowKit Go.Shelf Go.Lib Go.Sort

/-! slices.SortFunc over a row of the call's own, of elements of any kind. -/
theorem list_choice {β : Type} (Q : Nat → β → Prop) : ∀ n, (∀ i, i < n → ∃ e, Q i e) → ∃ zs : List β, zs.length = n ∧ ∀ (i : Nat) (e : β), zs[i]? = some e → Q i e
  | 0, _ => ⟨[], rfl, fun i e h => by simp at h⟩
  | n + 1, h => by
    obtain ⟨zs, h1, h2⟩ := list_choice Q n (fun i hi => h i (by omega))
    obtain ⟨e, he⟩ := h n (by omega)
    refine ⟨zs ++ [e], by simp [h1], fun i x hx => ?_⟩
    rcases Nat.lt_or_ge i zs.length with hlt | hge
    · rw [List.getElem?_append_left hlt] at hx
      exact h2 i x hx
    · rw [List.getElem?_append_right hge] at hx
      have hi : i = n := by
        have := (List.getElem?_eq_some_iff.1 hx).1
        simp at this; omega
      subst hi
      rw [h1, Nat.sub_self] at hx
      obtain rfl : e = x := by simpa using hx
      exact he
theorem heap_sortWorldK {β : Type} [Inhabited β] (enc : β → List Value) (k : Nat) (w : World) (blk off n : Nat) (d : Array β) (os : Array Obj) {b : Nat} (hb : b < w.heap.size) (hne : b ≠ blk) :
    (sortWorldK enc k w blk off n d os).heap[b]? = w.heap[b]? := by
  unfold sortWorldK
  rw [heap_grow_old _ _ (by simp [putRowK, putRow, mapBlock, Sort.ahead]; exact hb)]
  simp [putRowK, putRow, mapBlock, Sort.ahead, Array.getElem?_modify, Ne.symm hne]
/-- A row, its elements in another order. -/
def Sorted {α : Type} (cf : α → α → Int) (xs ys : List α) : Prop := ys.Perm xs ∧ ys.Pairwise fun a b => ltOf cf b a = false
theorem pairwise_of {α : Type} [Inhabited α] {lt : α → α → Bool} {d : Array α} (h : SortedIn lt 0 d.size d) : d.toList.Pairwise fun a b => lt b a = false := by
  rw [List.pairwise_iff_getElem]
  intro i j hi hj hij
  have := h i j (Nat.zero_le _) hij (by simpa using hj)
  rw [getElem!_pos d j (by simpa using hj), getElem!_pos d i (by simpa using hi)] at this
  simpa using this
theorem perm_of {α : Type} [Inhabited α] {d d' : Array α} (h : PermIn 0 d.size d d') : d'.toList.Perm d.toList := by
  obtain ⟨h1, _, h2⟩ := h
  have e1 : d'.extract 0 d.size = d' := by rw [← h1]; simp
  have e2 : d.extract 0 d.size = d := by simp
  rwa [e1, e2] at h2
section
variable {P : Program} {ρ : Ren} {α : Type} {d : Kd α}
theorem sort_own (L : SlLaysF0.n6 P ρ) (aE : ∀ w, (isAgg (ρ.t 24)).run P w = .ok true w) (zE : ∀ w, (Go.sizeOf (ρ.t 24)).run P w = .ok d.sz w) (hz : 0 < d.sz) (h1 : ∀ h x cs, d.K h x cs → ∀ v ∈ cs, v.oneCell' = true)
    (cf : α → α → Int) (hO : SWO (ltOf cf)) (g : Nat) (eg : ∀ args w, (callFunc g args).run P w = .ok (.enter g args) w)
    (hcmp : ∀ (W : World) (x y : α) (cx cy : List Value), d.K (vw W []) x cx → d.K (vw W []) y cy → Calls P g #[.agg cx.toArray, .agg cy.toArray] W fun e w' => e = .returned (.int .i64 (cf x y)) ∧ ∃ q os, w' = grow (W.drewN q) os)
    {w : World} {base : Nat} {ty : TypeId} {v : Value} {xs : List α} (ho : d.Own w base ty 0 v xs) (hlen : xs.length ≤ 140737488351232) :
    Calls P (ρ.f 6) #[v, .func (.func g) #[] #[]] w fun e w' => e = .returned (.tuple #[]) ∧ ∃ ys, Sorted cf xs ys ∧ d.S (vw w' []) v ys ∧ Below base w w' := by
  obtain ⟨css, k1, k2, k3⟩ := ho
  have hl := k3.2
  rcases hl with ⟨rfl, h0⟩ | ⟨b, cap, cur, rfl, hg, hh, hn, hc, hs, ht⟩
  · obtain rfl : xs = [] := List.eq_nil_of_length_eq_zero h0
    refine (AnyF.slices_SortFunc_none L none 0 _ w).mono ?_
    rintro e w' ⟨rfl, rfl⟩
    exact ⟨rfl, [], ⟨List.Perm.refl _, List.Pairwise.nil⟩, Kd.S.nil _ _, Below.refl _ _⟩
  · rcases Nat.eq_zero_or_pos xs.length with hx0 | hx0
    · obtain rfl : xs = [] := List.eq_nil_of_length_eq_zero hx0
      refine (AnyF.slices_SortFunc_none L _ cap _ w).mono ?_
      rintro e w' ⟨rfl, rfl⟩
      exact ⟨rfl, [], ⟨List.Perm.refl _, List.Pairwise.nil⟩, Kd.S.empty _ _ _ _ (fun e => by cases e), Below.refl _ _⟩
    · have hlen' : ∀ c ∈ css, c.length = d.sz := fun c hc => by
        obtain ⟨j, hj, rfl⟩ := List.getElem_of_mem hc
        obtain ⟨cs, a, b⟩ := k2 j xs[j] (List.getElem?_eq_getElem (by omega))
        rw [List.getElem?_eq_getElem hj] at a
        injection a with a
        rw [a]; exact d.len b
      obtain ⟨zs, z1, z2⟩ := list_choice (fun i (e : Elt d (nx w 0 (some b))) => xs[i]? = some e.x ∧ css[i]? = some e.cs) xs.length (fun i hi => by
        obtain ⟨cs, a, k⟩ := k2 i xs[i] (List.getElem?_eq_getElem hi)
        exact ⟨⟨xs[i], cs, k⟩, List.getElem?_eq_getElem hi, a⟩)
      have hpos : 0 < zs.length := by omega
      haveI : Inhabited (Elt d (nx w 0 (some b))) := ⟨zs[0]⟩
      have hmap : zs.map Elt.x = xs := by
        refine List.ext_getElem? fun i => ?_
        rw [List.getElem?_map]
        rcases Nat.lt_or_ge i zs.length with hi | hi
        · rw [List.getElem?_eq_getElem hi]
          exact (z2 i _ (List.getElem?_eq_getElem hi)).1.symm
        · rw [List.getElem?_eq_none hi, List.getElem?_eq_none (by omega)]; rfl
      have hblk := blk_lt hh
      have hfr : ∀ x, w.frozen? ⟨b, x, none⟩ = false := fun x => by simp [World.frozen?, hh]
      have hH : HoldsK (fun e : Elt d (nx w 0 (some b)) => e.cs) d.sz w b 0 zs.toArray := by
        intro t ht'
        rw [size_flatK] at ht'
        have hq : t / d.sz < zs.length := (Nat.div_lt_iff_lt_mul hz).2 (by simpa using ht')
        have hr : t % d.sz < d.sz := Nat.mod_lt _ hz
        refine ⟨?_, hfr _⟩
        rw [get_flatK _ _ _ _ ht', Nat.zero_add]
        obtain ⟨y1, y2⟩ := z2 _ _ (List.getElem?_eq_getElem hq)
        have hcs : (zs[t / d.sz]).cs.length = d.sz := d.len (zs[t / d.sz]).ok
        have h4 := flatten_get css hlen' (t / d.sz) (t % d.sz) _ y2 hr
        rw [Nat.mul_comm, Nat.div_add_mod, ← ht, List.getElem?_take, if_pos (by simpa [z1] using ht')] at h4
        have e1 : (zs.toArray)[t / d.sz]! = zs[t / d.sz] := by rw [getElem!_pos _ _ (by simpa using hq)]; simp
        rw [e1, cell_of_row w b t cur ty (0, 0) (by simpa using hh)]
        have h5 : (zs[t / d.sz]).cs[t % d.sz]? = some ((zs[t / d.sz]).cs[t % d.sz]'(by omega)) := List.getElem?_eq_getElem _
        rw [h5] at h4
        rw [getElem!_pos _ _ (by omega)]
        simpa using h4
      have hC : CmpLays P g #[] (fun e : Elt d (nx w 0 (some b)) => e.cs) d.sz (fun x y => cf x.x y.x) b 0 zs.toArray.size w := by
        intro m os dk hds x y
        have hle : (nx w 0 (some b)).le (vw (sortWorldK (fun e : Elt d (nx w 0 (some b)) => e.cs) d.sz w b 0 m dk os) []) := fun q o hq => by
          obtain ⟨q1, q2, q3⟩ := nx_eq hq
          exact vw_mk (by simp) ((heap_sortWorldK _ _ w b 0 m dk os (blk_lt q3) (fun e => q2 (by rw [e]))).trans q3)
        exact (hcmp _ x.x y.x x.cs y.cs (d.mono hle x.ok) (d.mono hle y.ok)).mono fun e w' ⟨he, q, os', hw⟩ => ⟨he, q, os', hw⟩
      have hO' : SWO (ltOf fun x y : Elt d (nx w 0 (some b)) => cf x.x y.x) := ⟨fun x => hO.irrefl x.x, fun x y z => hO.trans x.x y.x z.x, fun x y z => hO.ntrans x.x y.x z.x⟩
      have hcon := AnyQ.slices_SortFunc L d.sz aE zE (fun e : Elt d (nx w 0 (some b)) => e.cs) (fun e => d.len e.ok) (fun e => h1 _ e.x e.cs e.ok) (fun x y => cf x.x y.x) hO' g #[] b 0 cap zs.toArray w eg hC hH hblk (by simp; omega)
      rw [show zs.toArray.size = xs.length by simpa using z1] at hcon
      refine hcon.mono ?_
      rintro e w' ⟨rfl, d', n, os, hp, hs', rfl⟩
      rw [show xs.length = zs.toArray.size by simp [z1]] at hp hs'
      have hsz' := hp.1
      have hpm := perm_of hp
      have hso := pairwise_of (show SortedIn _ 0 d'.size d' by rw [hsz']; exact hs')
      have hHH := holdsK_sortWorldK_c (fun e : Elt d (nx w 0 (some b)) => e.cs) d.sz w b 0 zs.toArray d' n os hH hblk hsz'
      have hle : (nx w 0 (some b)).le (vw (sortWorldK (fun e : Elt d (nx w 0 (some b)) => e.cs) d.sz w b 0 n d' os) []) := fun q o hq => by
        obtain ⟨q1, q2, q3⟩ := nx_eq hq
        exact vw_mk (by simp) ((heap_sortWorldK _ _ w b 0 n d' os (blk_lt q3) (fun e => q2 (by rw [e]))).trans q3)
      have hdl : d'.toList.length = xs.length := by have := hpm.length_eq; simpa [z1] using this
      refine ⟨rfl, d'.toList.map Elt.x, ⟨?_, ?_⟩, ?_, ?_⟩
      · have := hpm.map Elt.x
        simpa [hmap] using this
      · rw [List.pairwise_map]
        exact hso
      · refine ⟨_, cap, by rw [List.length_map, hdl], by rw [List.length_map, hdl]; exact hn, by rw [List.length_map, hdl]; exact hlen, fun e => (by cases e), fun _ => ⟨b, 0, rfl, fun j x hx => ?_⟩⟩
        rw [List.getElem?_map] at hx
        rcases Nat.lt_or_ge j d'.toList.length with hj | hj
        · rw [List.getElem?_eq_getElem hj] at hx
          simp only [Option.map_some, Option.some.injEq] at hx
          subst hx
          refine ⟨_, d.mono hle (d'.toList[j]).ok, fun i u hu => ?_⟩
          have hi : i < d.sz := by have := (List.getElem?_eq_some_iff.1 hu).1; rw [d.len (d'.toList[j]).ok] at this; exact this
          have hc := (HoldsK.cell hHH (i := j) (c := i) (by simpa using hj) hi).1
          have e1 : d'[j]! = d'.toList[j] := by rw [getElem!_pos d' j (by simpa using hj)]; simp
          rw [e1, getElem!_pos _ i (by rw [d.len (d'.toList[j]).ok]; exact hi)] at hc
          rw [List.getElem?_eq_getElem (by rw [d.len (d'.toList[j]).ok]; exact hi)] at hu
          injection hu with hu
          rw [hu] at hc
          exact (Kd.vw_cell hc)
        · rw [List.getElem?_eq_none hj] at hx; cases hx
      · refine ⟨?_, ?_, ?_, ?_, fun k hk => heap_sortWorldK _ _ w b 0 n d' os (by omega) (by omega)⟩
        · rfl
        · rfl
        · rfl
        · exact size_sortWorldK_c _ _ _ _ _ _ _ _
end
end Go.Proofs.YtnmhicgbdalniaaGreatDoor
namespace Go.Proofs.YtnmhicgbdalniaaGreatDoor
open Go.RowKit Go.Sort Go.Lib

/-! Which pods are nowhere, in their order: the plain law. -/
theorem cmpB_neg : ∀ a b : List UInt8, compareBytes a b < 0 ↔ a < b
  | [], [] => by simp [compareBytes]
  | [], _ :: _ => by simp [compareBytes]
  | _ :: _, [] => by simp [compareBytes]
  | x :: a, y :: b => by
    have hc : compareBytes (x :: a) (y :: b) = if x < y then -1 else if y < x then 1 else compareBytes a b := rfl
    rw [List.cons_lt_cons_iff, ← cmpB_neg a b, hc]
    by_cases h1 : x < y
    · simp [h1]
    · by_cases h2 : y < x
      · have : x ≠ y := fun e => by subst e; exact h1 h2
        simp [h1, h2, this]
      · have : x = y := Std.le_antisymm (Std.not_lt.1 h2) (Std.not_lt.1 h1)
        simp [this]
def prioLt (a b : Pd) : Bool := decide (b.prio < a.prio) || (decide (a.prio = b.prio) && ltS a.name b.name)
theorem prioLt_eq (a b : Pd) : ltOf cmpP a b = prioLt a b := by
  unfold ltOf cmpP prioLt or2 compareInt ltS
  by_cases h1 : b.prio < a.prio
  · simp [h1]
  · by_cases h2 : b.prio > a.prio
    · simp [h1, h2, show ¬ a.prio = b.prio by omega]
    · have h3 : a.prio = b.prio := by omega
      simp [h3, cmpB_neg]
theorem prioLt_iff (a b : Pd) : prioLt a b = true ↔ b.prio < a.prio ∨ (a.prio = b.prio ∧ bs a.name < bs b.name) := by
  unfold prioLt ltS bs
  simp
theorem prioLt_not (a b : Pd) : prioLt a b = false ↔ a.prio < b.prio ∨ (a.prio = b.prio ∧ bs b.name ≤ bs a.name) := by
  rw [← Bool.not_eq_true, prioLt_iff, not_or, not_and, List.not_lt]
  constructor
  · rintro ⟨h1, h2⟩
    rcases Int.lt_or_eq_of_le (Int.not_lt.1 h1) with h | h
    · exact .inl h
    · exact .inr ⟨h, h2 h⟩
  · rintro (h | ⟨h1, h2⟩)
    · exact ⟨by omega, fun e => by omega⟩
    · exact ⟨by omega, fun _ => h2⟩
theorem prio_swo : SWO (ltOf cmpP) where
  irrefl x := by
    rw [prioLt_eq, prioLt_not]
    exact .inr ⟨rfl, List.le_refl _⟩
  trans x y z h1 h2 := by
    rw [prioLt_eq, prioLt_iff] at *
    rcases h1 with h1 | ⟨h1, k1⟩ <;> rcases h2 with h2 | ⟨h2, k2⟩
    · exact .inl (by omega)
    · exact .inl (by omega)
    · exact .inl (by omega)
    · exact .inr ⟨by omega, List.lt_trans k1 k2⟩
  ntrans x y z h1 h2 := by
    rw [prioLt_eq, prioLt_not] at *
    rcases h1 with h1 | ⟨h1, k1⟩ <;> rcases h2 with h2 | ⟨h2, k2⟩
    · exact .inl (by omega)
    · exact .inl (by omega)
    · exact .inl (by omega)
    · exact .inr ⟨by omega, List.le_trans k2 k1⟩
def insP (p : Pd) : List Pd → List Pd
  | [] => [p]
  | x :: r => if prioLt p x = true then p :: x :: r else x :: insP p r
def sortP (l : List Pd) : List Pd := l.foldl (fun out p => insP p out) []
theorem insP_perm (p : Pd) : ∀ l, (insP p l).Perm (p :: l)
  | [] => List.Perm.refl _
  | x :: r => by
    unfold insP
    split
    · exact List.Perm.refl _
    · exact ((insP_perm p r).cons x).trans (List.Perm.swap p x r)
abbrev Ordered (l : List Pd) : Prop := l.Pairwise fun a b => ltOf cmpP b a = false
theorem insP_ordered (p : Pd) : ∀ l, Ordered l → Ordered (insP p l)
  | [], _ => by simp [insP, Ordered]
  | x :: r, h => by
    obtain ⟨h1, h2⟩ := List.pairwise_cons.1 h
    unfold insP
    split
    · rename_i hlt
      rw [← prioLt_eq] at hlt
      have hxp : ltOf cmpP x p = false := prio_swo.asymmA hlt
      refine List.pairwise_cons.2 ⟨fun y hy => ?_, h⟩
      rcases List.mem_cons.1 hy with rfl | hy
      · exact hxp
      · exact prio_swo.ntrans _ _ _ (h1 y hy) hxp
    · rename_i hn
      rw [← prioLt_eq, Bool.not_eq_true] at hn
      refine List.pairwise_cons.2 ⟨fun y hy => ?_, insP_ordered p r h2⟩
      rcases List.mem_cons.1 ((insP_perm p r).mem_iff.1 hy) with rfl | hy
      · exact hn
      · exact h1 y hy
theorem sortP_from (l : List Pd) : ∀ out, Ordered out → Ordered (l.foldl (fun out p => insP p out) out) ∧ (l.foldl (fun out p => insP p out) out).Perm (out ++ l) := by
  induction l with
  | nil => exact fun out h => ⟨h, by simp⟩
  | cons p r ih =>
    intro out h
    obtain ⟨h1, h2⟩ := ih (insP p out) (insP_ordered p out h)
    refine ⟨h1, h2.trans ?_⟩
    exact ((insP_perm p out).append_right r).trans List.perm_middle.symm
theorem sortP_sorted (l : List Pd) : Sorted cmpP l (sortP l) := by
  obtain ⟨h1, h2⟩ := sortP_from l [] List.Pairwise.nil
  exact ⟨by simpa [sortP] using h2, h1⟩
/-- No two of one name. -/
abbrev Apart (l : List Pd) : Prop := l.Pairwise fun a b => a.name ≠ b.name
theorem apart_one {l : List Pd} (h : Apart l) : ∀ a ∈ l, ∀ b ∈ l, a.name = b.name → a = b := by
  induction l with
  | nil => exact fun a ha => by cases ha
  | cons x r ih =>
    obtain ⟨h1, h2⟩ := List.pairwise_cons.1 h
    intro a ha b hb e
    rcases List.mem_cons.1 ha with ea | ka <;> rcases List.mem_cons.1 hb with eb | kb
    · rw [ea, eb]
    · exact absurd (by rw [← ea]; exact e) (h1 b kb)
    · exact absurd (by rw [← eb]; exact e.symm) (h1 a ka)
    · exact ih h2 a ka b kb e
theorem sorted_one {l ys zs : List Pd} (h : Apart l) (hy : Sorted cmpP l ys) (hz : Sorted cmpP l zs) : ys = zs := by
  refine List.Perm.eq_of_pairwise (fun a b ha hb h1 h2 => ?_) hy.2 hz.2 (hy.1.trans hz.1.symm)
  rw [prioLt_eq, prioLt_not] at h1 h2
  refine apart_one h a (hy.1.mem_iff.1 ha) b (hz.1.mem_iff.1 hb) (bs_inj ?_)
  rcases h1 with h1 | ⟨h1, k1⟩ <;> rcases h2 with h2 | ⟨h2, k2⟩
  · omega
  · omega
  · omega
  · exact List.le_antisymm k1 k2
def pendB (p : Pd) : Bool := emptyB p.node && !p.hold
def pendV (s : St) : List Pd := sortP (s.pods.filter pendB)
theorem pend_one {s : St} {ys : List Pd} (h : Apart s.pods) (hy : Sorted cmpP (s.pods.filter pendB) ys) : ys = pendV s :=
  sorted_one (h.sublist List.filter_sublist) hy (sortP_sorted _)
end Go.Proofs.YtnmhicgbdalniaaGreatDoor
namespace Go.Proofs.YtnmhicgbdalniaaGreatDoor
open Go.RowKit Go.Sort

/-! By which way a pod comes to a node: the plain law. -/
structure Wy where
  pod : ByteArray
  to_ : ByteArray
  holds : List ByteArray
def zWy : Wy := ⟨⟨#[]⟩, ⟨#[]⟩, []⟩
abbrev FitF := St → Pd → ByteArray → Int
section
variable (F : FitF)
/-- Which placeholders go from a node. -/
def onGo (p : Pd) (name : ByteArray) : St → List Pd → List ByteArray → List ByteArray × Bool
  | _, [], _ => ([], false)
  | s, x :: r, out => if x.hold = true then (if F (dropS s x.name) p name = 0 then (out ++ [x.name], true) else onGo p name (dropS s x.name) r (out ++ [x.name])) else onGo p name s r out
def onW (s : St) (p : Pd) (name : ByteArray) : List ByteArray × Bool := if F s p name = 0 then ([], true) else onGo F p name s (onV s name) []
def betterW (p : Pd) (n : ByteArray) (acc : Wy × Bool) (h : List ByteArray × Bool) : Wy × Bool := if (h.2 && (!acc.2 || decide (h.1.length < acc.1.holds.length))) = true then (⟨p.name, n, h.1⟩, true) else acc
def forGo (s : St) (p : Pd) : List Nd → Wy × Bool → Wy × Bool
  | [], acc => acc
  | n :: r, acc => forGo s p r (betterW p n.name acc (onW F s p n.name))
def forW (s : St) (p : Pd) : Wy × Bool := if p.hold = true then (zWy, false) else forGo F s p s.nodes (zWy, false)
def nextGo (s : St) : List Pd → Wy × Bool
  | [] => (zWy, false)
  | p :: r => if (forW F s p).2 = true then ((forW F s p).1, true) else nextGo s r
def nextW (s : St) : Wy × Bool := nextGo F s (pendV s)
end
def doW (s : St) (w : Wy) : St := moveS (w.holds.foldl dropS s) w.pod w.to_
theorem onGo_at (F : FitF) (p : Pd) (name : ByteArray) (s : St) {l : List Pd} {k : Nat} (h : k < l.length) (out : List ByteArray) :
    onGo F p name s (l.drop k) out = if l[k].hold = true then (if F (dropS s l[k].name) p name = 0 then (out ++ [l[k].name], true) else onGo F p name (dropS s l[k].name) (l.drop (k + 1)) (out ++ [l[k].name])) else onGo F p name s (l.drop (k + 1)) out := by
  rw [List.drop_eq_getElem_cons h]; rfl
theorem forGo_at (F : FitF) (s : St) (p : Pd) {l : List Nd} {k : Nat} (h : k < l.length) (acc : Wy × Bool) : forGo F s p (l.drop k) acc = forGo F s p (l.drop (k + 1)) (betterW p l[k].name acc (onW F s p l[k].name)) := by
  rw [List.drop_eq_getElem_cons h]; rfl
theorem nextGo_at (F : FitF) (s : St) {l : List Pd} {k : Nat} (h : k < l.length) : nextGo F s (l.drop k) = if (forW F s l[k]).2 = true then ((forW F s l[k]).1, true) else nextGo F s (l.drop (k + 1)) := by
  rw [List.drop_eq_getElem_cons h]; rfl
theorem drop_nodes (s : St) (n : ByteArray) : (dropS s n).nodes = s.nodes := rfl
theorem drops_nodes (s : St) : ∀ l : List ByteArray, (l.foldl dropS s).nodes = s.nodes := by
  intro l
  induction l generalizing s with
  | nil => rfl
  | cons a r ih => exact ih (dropS s a)
theorem drops_pods (s : St) : ∀ l : List ByteArray, (l.foldl dropS s).pods.length ≤ s.pods.length := by
  intro l
  induction l generalizing s with
  | nil => exact Nat.le_refl _
  | cons a r ih => exact Nat.le_trans (ih (dropS s a)) (List.length_filter_le _ _)
/-- What a node's way tells. -/
theorem onGo_says {F : FitF} {p : Pd} {name : ByteArray} : ∀ (l : List Pd) (s : St) (out h : List ByteArray), F s p name ≠ 0 → onGo F p name s l out = (h, true) →
    ∃ r x, h = out ++ r ++ [x] ∧ F (r.foldl dropS s) p name ≠ 0 ∧ F (dropS (r.foldl dropS s) x) p name = 0
  | [], s, out, h, hf, e => by simp [onGo] at e
  | y :: l, s, out, h, hf, e => by
    unfold onGo at e
    split at e
    · split at e
      · rename_i h0
        injection e with e _
        exact ⟨[], y.name, by rw [← e]; simp, hf, h0⟩
      · rename_i h0
        obtain ⟨r, x, e1, e2, e3⟩ := onGo_says l _ _ _ h0 e
        exact ⟨y.name :: r, x, by rw [e1]; simp, e2, e3⟩
    · exact onGo_says l s out h hf e
theorem onW_says {F : FitF} {s : St} {p : Pd} {name : ByteArray} {h : List ByteArray} (e : onW F s p name = (h, true)) :
    (h = [] ∧ F s p name = 0) ∨ (F s p name ≠ 0 ∧ ∃ r x, h = r ++ [x] ∧ F (r.foldl dropS s) p name ≠ 0 ∧ F (dropS (r.foldl dropS s) x) p name = 0) := by
  unfold onW at e
  split at e
  · rename_i h0
    injection e with e _
    exact .inl ⟨e.symm, h0⟩
  · rename_i h0
    obtain ⟨r, x, e1, e2, e3⟩ := onGo_says _ _ _ _ h0 e
    exact .inr ⟨h0, r, x, by simpa using e1, e2, e3⟩
/-- What is found: the fewest of those that there are. -/
theorem forGo_says {F : FitF} {s : St} {p : Pd} : ∀ (l : List Nd) (acc : Wy × Bool), (acc.2 = true → ∃ n ∈ s.nodes, acc.1.to_ = n.name ∧ acc.1.pod = p.name ∧ onW F s p n.name = (acc.1.holds, true)) → (∀ n ∈ l, n ∈ s.nodes) →
    ((forGo F s p l acc).2 = true → ∃ n ∈ s.nodes, (forGo F s p l acc).1.to_ = n.name ∧ (forGo F s p l acc).1.pod = p.name ∧ onW F s p n.name = ((forGo F s p l acc).1.holds, true)) ∧
    ((acc.2 = true → (forGo F s p l acc).2 = true ∧ (forGo F s p l acc).1.holds.length ≤ acc.1.holds.length) ∧ ∀ n ∈ l, (onW F s p n.name).2 = true → (forGo F s p l acc).2 = true ∧ (forGo F s p l acc).1.holds.length ≤ (onW F s p n.name).1.length) ∧
    ((forGo F s p l acc).2 = false → (forGo F s p l acc).1 = acc.1)
  | [], acc, h, _ => ⟨h, ⟨fun h => ⟨h, Nat.le_refl _⟩, fun n hn => by cases hn⟩, fun _ => rfl⟩
  | n :: r, acc, h, hm => by
    have hn := hm n (List.mem_cons_self ..)
    obtain ⟨i1, ⟨i2, i3⟩, i4⟩ := forGo_says r (betterW p n.name acc (onW F s p n.name)) (by
      unfold betterW
      split
      · rename_i hb
        intro _
        refine ⟨n, hn, rfl, rfl, ?_⟩
        simp only [Bool.and_eq_true] at hb
        rw [← hb.1]
      · exact h) (fun x hx => hm x (List.mem_cons_of_mem _ hx))
    refine ⟨i1, ⟨fun ha => ?_, fun x hx hw => ?_⟩, fun hf => ?_⟩
    · have hb : (betterW p n.name acc (onW F s p n.name)).2 = true ∧ (betterW p n.name acc (onW F s p n.name)).1.holds.length ≤ acc.1.holds.length := by
        unfold betterW
        split
        · rename_i hb
          simp only [ha, Bool.and_eq_true, Bool.not_true, Bool.false_or, decide_eq_true_eq] at hb
          exact ⟨rfl, Nat.le_of_lt hb.2⟩
        · exact ⟨ha, Nat.le_refl _⟩
      obtain ⟨q1, q2⟩ := i2 hb.1
      exact ⟨q1, Nat.le_trans q2 hb.2⟩
    · rcases List.mem_cons.1 hx with rfl | hx
      · have hb : (betterW p x.name acc (onW F s p x.name)).2 = true ∧ (betterW p x.name acc (onW F s p x.name)).1.holds.length ≤ (onW F s p x.name).1.length := by
          unfold betterW
          split
          · exact ⟨rfl, Nat.le_refl _⟩
          · rename_i hb
            simp only [hw, Bool.true_and, Bool.or_eq_true, Bool.not_eq_true', decide_eq_true_eq, not_or, Bool.not_eq_false] at hb
            exact ⟨hb.1, by omega⟩
        obtain ⟨q1, q2⟩ := i2 hb.1
        exact ⟨q1, Nat.le_trans q2 hb.2⟩
      · exact i3 x hx hw
    · have hb : (betterW p n.name acc (onW F s p n.name)).2 = false := by
        cases hc : (betterW p n.name acc (onW F s p n.name)).2 with
        | false => rfl
        | true =>
          have hf' : (forGo F s p r (betterW p n.name acc (onW F s p n.name))).2 = false := hf
          rw [(i2 hc).1] at hf'; cases hf'
      show (forGo F s p r _).1 = acc.1
      rw [i4 hf]
      unfold betterW at hb ⊢
      split
      · rename_i hx
        rw [if_pos hx] at hb
        cases hb
      · rfl
theorem forW_says {F : FitF} {s : St} {p : Pd} (h : (forW F s p).2 = true) : ∃ n ∈ s.nodes, (forW F s p).1.to_ = n.name ∧ (forW F s p).1.pod = p.name ∧ onW F s p n.name = ((forW F s p).1.holds, true) := by
  unfold forW at *
  split at h
  · cases h
  · rename_i hp
    rw [if_neg hp]
    exact (forGo_says s.nodes (zWy, false) (fun h => by cases h) (fun _ h => h)).1 h
theorem forW_least {F : FitF} {s : St} {p : Pd} (hp : p.hold = false) {n : Nd} (hn : n ∈ s.nodes) (hw : (onW F s p n.name).2 = true) : (forW F s p).2 = true ∧ (forW F s p).1.holds.length ≤ (onW F s p n.name).1.length := by
  unfold forW
  rw [hp, if_neg (by decide)]
  exact (forGo_says s.nodes (zWy, false) (fun h => by cases h) (fun _ h => h)).2.1.2 n hn hw
theorem forW_none {F : FitF} {s : St} {p : Pd} (h : (forW F s p).2 = false) : (forW F s p).1 = zWy := by
  unfold forW at *
  split at h
  · rename_i hp
    rw [if_pos hp]
  · rename_i hp
    rw [if_neg hp]
    exact (forGo_says s.nodes (zWy, false) (fun h => by cases h) (fun _ h => h)).2.2 h
end Go.Proofs.YtnmhicgbdalniaaGreatDoor
namespace Go.Proofs.YtnmhicgbdalniaaGreatDoor
open Go.RowKit

/-! Vectors: the plain law of their sums. -/
theorem rowsV_mk {α : Type} {f : α → Int} {nm : α → ByteArray} : ∀ {l : List α} {p : Option ByteArray}, (∀ x ∈ l, f x = 0) → l.Pairwise (fun a b => ltS (nm a) (nm b) = true) → (∀ q, p = some q → ∀ x ∈ l, ltS q (nm x) = true) → rowsV f nm p l = 0
  | [], _, _, _, _ => rfl
  | x :: r, p, h1, h2, h3 => by
    obtain ⟨k1, k2⟩ := List.pairwise_cons.1 h2
    have hl : tooLow p (nm x) = false := by
      cases p with
      | none => rfl
      | some q => show (!ltS q (nm x)) = false; rw [h3 q rfl x (List.mem_cons_self ..)]; rfl
    unfold rowsV
    rw [orV_r (h1 x (List.mem_cons_self ..)), hl, if_neg (by decide)]
    exact rowsV_mk (fun y hy => h1 y (List.mem_cons_of_mem _ hy)) k2 (fun q hq y hy => by injection hq with hq; subst hq; exact k1 y hy)
theorem nodup_length {α : Type} : ∀ {u v : List α}, u.Nodup → (∀ x ∈ u, x ∈ v) → u.length ≤ v.length
  | [], _, _, _ => Nat.zero_le _
  | x :: u, v, hn, hs => by
    obtain ⟨h1, h2⟩ := List.nodup_cons.1 hn
    obtain ⟨s, t, rfl⟩ := List.append_of_mem (hs x (List.mem_cons_self ..))
    have := nodup_length (v := s ++ t) h2 (fun y hy => by
      have := hs y (List.mem_cons_of_mem _ hy)
      rw [List.mem_append, List.mem_cons] at this
      rcases this with h | rfl | h
      · exact List.mem_append_left _ h
      · exact absurd hy h1
      · exact List.mem_append_right _ h)
    simp only [List.length_append, List.length_cons] at this ⊢
    omega
theorem ltS_tri {a b : ByteArray} (h1 : ¬ ltS a b = true) (h2 : ¬ ltS b a = true) : a = b := by
  unfold ltS at h1 h2
  simp only [decide_eq_true_eq] at h1 h2
  exact bs_inj (Std.le_antisymm (Std.not_lt.1 h2) (Std.not_lt.1 h1))
theorem up_nodup {l : List ByteArray} (h : l.Pairwise fun a b => ltS a b = true) : l.Nodup := List.Pairwise.imp (fun k => ltS_ne k) h
structure GoodV (v : List Amt) : Prop where
  len : v.length ≤ 8
  pos : ∀ x ∈ v, isName x.name = true ∧ 0 < x.n
  up : v.Pairwise fun a b => ltS a.name b.name = true
theorem amtV_zero (x : Amt) : amtV x = 0 ↔ isName x.name = true ∧ 0 < x.n := by
  unfold amtV
  cases isName x.name with
  | false => simp
  | true =>
    by_cases h : x.n ≤ 0
    · simp [h] <;> omega
    · simp [h] <;> omega
theorem vec_iff (v : List Amt) : checkVec v = 0 ↔ GoodV v := by
  constructor
  · intro h
    obtain ⟨h1, h2⟩ := manyV_zero h
    obtain ⟨h3, h4, -⟩ := rowsV_zero h2
    exact ⟨h1, fun x hx => (amtV_zero x).1 (h3 x hx), h4⟩
  · rintro ⟨h1, h2, h3⟩
    unfold checkVec manyV
    rw [if_neg (by omega)]
    exact rowsV_mk (fun x hx => (amtV_zero x).2 (h2 x hx)) h3 (fun q h => by cases h)
theorem goodV_nil : GoodV [] := ⟨by simp, fun x h => (by cases h), List.Pairwise.nil⟩
theorem getA_cons (y : Amt) (r : List Amt) (x : ByteArray) : getA (y :: r) x = if y.name = x then y.n else getA r x := rfl
theorem getA_none : ∀ {v : List Amt} {x : ByteArray}, (∀ y ∈ v, y.name ≠ x) → getA v x = 0
  | [], _, _ => rfl
  | y :: r, x, h => by
    unfold getA
    rw [if_neg (h y (List.mem_cons_self ..))]
    exact getA_none fun z hz => h z (List.mem_cons_of_mem _ hz)
theorem getA_mem : ∀ {v : List Amt}, v.Pairwise (fun a b => ltS a.name b.name = true) → ∀ y ∈ v, getA v y.name = y.n
  | x :: r, h, y, hy => by
    obtain ⟨h1, h2⟩ := List.pairwise_cons.1 h
    unfold getA
    rcases List.mem_cons.1 hy with rfl | hy
    · rw [if_pos rfl]
    · rw [if_neg (ltS_ne (h1 y hy))]
      exact getA_mem h2 y hy
theorem getA_some : ∀ {v : List Amt} {x : ByteArray}, getA v x ≠ 0 → ∃ y ∈ v, y.name = x
  | [], _, h => absurd rfl h
  | y :: r, x, h => by
    by_cases e : y.name = x
    · exact ⟨y, List.mem_cons_self .., e⟩
    · unfold getA at h
      rw [if_neg e] at h
      obtain ⟨z, hz, e⟩ := getA_some h
      exact ⟨z, List.mem_cons_of_mem _ hz, e⟩
theorem GoodV.nonneg {v : List Amt} (h : GoodV v) (x : ByteArray) : 0 ≤ getA v x := by
  by_cases e : getA v x = 0
  · omega
  · obtain ⟨y, hy, rfl⟩ := getA_some e
    rw [getA_mem h.up y hy]
    have := (h.pos y hy).2
    omega
theorem namesV_in (x : ByteArray) : ∀ a b : List Amt, x ∈ namesV a b ↔ x ∈ a.map (·.name) ∨ x ∈ b.map (·.name)
  | [], b => by rw [namesV_nil_l]; simp
  | y :: a, [] => by rw [namesV_nil_r]; simp
  | y :: a, z :: b => by
    rw [namesV]
    split
    · rw [List.mem_cons, namesV_in x a (z :: b), List.map_cons, List.map_cons, List.mem_cons, List.mem_cons]
      grind
    · split
      · rw [List.mem_cons, namesV_in x (y :: a) b, List.map_cons, List.map_cons, List.mem_cons, List.mem_cons]
        grind
      · rename_i h1 h2
        have := ltS_tri h1 h2
        rw [List.mem_cons, namesV_in x a b, List.map_cons, List.map_cons, List.mem_cons, List.mem_cons, ← this]
        grind
  termination_by a b => a.length + b.length
theorem namesV_rise : ∀ a b : List Amt, a.Pairwise (fun a b => ltS a.name b.name = true) → b.Pairwise (fun a b => ltS a.name b.name = true) → (namesV a b).Pairwise fun a b => ltS a b = true
  | [], b, _, h => by rw [namesV_nil_l, List.pairwise_map]; exact h
  | y :: a, [], h, _ => by rw [namesV_nil_r, List.pairwise_map]; exact h
  | y :: a, z :: b, h, k => by
    obtain ⟨h1, h2⟩ := List.pairwise_cons.1 h
    obtain ⟨k1, k2⟩ := List.pairwise_cons.1 k
    rw [namesV]
    split
    · rename_i hlt
      refine List.pairwise_cons.2 ⟨fun x hx => ?_, namesV_rise a (z :: b) h2 k⟩
      rcases (namesV_in x a (z :: b)).1 hx with hx | hx
      · obtain ⟨q, hq, rfl⟩ := List.mem_map.1 hx
        exact h1 q hq
      · obtain ⟨q, hq, rfl⟩ := List.mem_map.1 hx
        rcases List.mem_cons.1 hq with rfl | hq
        · exact hlt
        · exact ltS_trans hlt (k1 q hq)
    · split
      · rename_i hlt
        refine List.pairwise_cons.2 ⟨fun x hx => ?_, namesV_rise (y :: a) b h k2⟩
        rcases (namesV_in x (y :: a) b).1 hx with hx | hx
        · obtain ⟨q, hq, rfl⟩ := List.mem_map.1 hx
          rcases List.mem_cons.1 hq with rfl | hq
          · exact hlt
          · exact ltS_trans hlt (h1 q hq)
        · obtain ⟨q, hq, rfl⟩ := List.mem_map.1 hx
          exact k1 q hq
      · rename_i n1 n2
        have e := ltS_tri n1 n2
        refine List.pairwise_cons.2 ⟨fun x hx => ?_, namesV_rise a b h2 k2⟩
        rcases (namesV_in x a b).1 hx with hx | hx
        · obtain ⟨q, hq, rfl⟩ := List.mem_map.1 hx
          exact h1 q hq
        · obtain ⟨q, hq, rfl⟩ := List.mem_map.1 hx
          rw [e]; exact k1 q hq
  termination_by a b => a.length + b.length
def maxN : Int := 9223372036854775807
theorem addN_room {a b : Int} (h1 : 0 ≤ a) (h2 : 0 ≤ b) (h3 : a + b ≤ maxN) : addN a b = (a + b, 0) := by
  unfold addN
  unfold maxN at h3
  rw [if_neg (by omega), if_neg (by omega), if_neg (by omega)]
theorem addN_zero {a b : Int} (h : (addN a b).2 = 0) : 0 ≤ a ∧ 0 ≤ b ∧ a + b ≤ maxN := by
  unfold addN at h
  unfold maxN
  split at h
  · cases h
  · split at h
    · cases h
    · split at h
      · cases h
      · omega
theorem addL_ok (a b : List Amt) : ∀ (l : List ByteArray) (out : List Amt), (∀ x ∈ l, 0 ≤ getA a x ∧ 0 ≤ getA b x ∧ getA a x + getA b x ≤ maxN) → out.length + l.length ≤ 8 →
    addL a b l out = (out ++ l.map (fun x => ⟨x, getA a x + getA b x⟩), 0)
  | [], out, _, hl => by
    unfold addL
    rw [if_neg (by simp at hl; omega)]; simp
  | x :: r, out, h, hl => by
    obtain ⟨h1, h2, h3⟩ := h x (List.mem_cons_self ..)
    unfold addL
    rw [addN_room h1 h2 h3, if_neg (by simp), addL_ok a b r _ (fun y hy => h y (List.mem_cons_of_mem _ hy)) (by simp at hl ⊢; omega)]
    simp
theorem addL_zero (a b : List Amt) : ∀ (l : List ByteArray) (out : List Amt), (addL a b l out).2 = 0 → (∀ x ∈ l, 0 ≤ getA a x ∧ 0 ≤ getA b x ∧ getA a x + getA b x ≤ maxN) ∧ out.length + l.length ≤ 8
  | [], out, h => by
    unfold addL at h
    split at h
    · cases h
    · exact ⟨fun x hx => (by cases hx), by simp; omega⟩
  | x :: r, out, h => by
    unfold addL at h
    split at h
    · rename_i h0; exact absurd h h0
    · rename_i h0
      have h0 := Decidable.not_not.1 h0
      obtain ⟨i1, i2⟩ := addL_zero a b r _ h
      refine ⟨fun y hy => ?_, by simp at i2 ⊢; omega⟩
      rcases List.mem_cons.1 hy with rfl | hy
      · exact addN_zero h0
      · exact i1 y hy
def plusV (a b : List Amt) : List Amt := (namesV a b).map fun x => ⟨x, getA a x + getA b x⟩
structure Adds (a b : List Amt) : Prop where
  l : GoodV a
  r : GoodV b
  max : ∀ x, getA a x + getA b x ≤ maxN
  few : (namesV a b).length ≤ 8
theorem not_in {v : List Amt} {x : ByteArray} (h : ¬ x ∈ v.map (·.name)) : getA v x = 0 :=
  getA_none fun y hy e => h (by rw [← e]; exact List.mem_map_of_mem hy)
theorem Adds.add {a b : List Amt} (h : Adds a b) : addVec a b = (plusV a b, 0) := by
  unfold addVec
  rw [if_neg (fun k => k ((vec_iff a).2 h.l)), if_neg (fun k => k ((vec_iff b).2 h.r)), addL_ok a b _ _ (fun x _ => ⟨h.l.nonneg x, h.r.nonneg x, h.max x⟩) (by simpa using h.few)]
  rfl
theorem adds_of {a b : List Amt} (h : (addVec a b).2 = 0) : Adds a b := by
  unfold addVec at h
  split at h
  · rename_i k; exact absurd h k
  · split at h
    · rename_i k; exact absurd h k
    · rename_i k1 k2
      have g1 := (vec_iff a).1 (Decidable.not_not.1 k1)
      have g2 := (vec_iff b).1 (Decidable.not_not.1 k2)
      obtain ⟨i1, i2⟩ := addL_zero a b _ _ h
      refine ⟨g1, g2, fun x => ?_, by simpa using i2⟩
      by_cases hx : x ∈ namesV a b
      · exact (i1 x hx).2.2
      · rw [namesV_in, not_or] at hx
        rw [not_in hx.1, not_in hx.2]; unfold maxN; decide
theorem Adds.get {a b : List Amt} (h : Adds a b) (x : ByteArray) : getA (plusV a b) x = getA a x + getA b x := by
  classical
  have key : ∀ l : List ByteArray, l.Pairwise (fun a b => ltS a b = true) → getA (l.map fun x => (⟨x, getA a x + getA b x⟩ : Amt)) x = if x ∈ l then getA a x + getA b x else 0 := by
    intro l
    induction l with
    | nil => intro _; simp [getA]
    | cons y r ih =>
      intro hp
      obtain ⟨-, h2⟩ := List.pairwise_cons.1 hp
      rw [List.map_cons, getA_cons]
      by_cases e : y = x
      · subst e
        rw [if_pos rfl, if_pos (List.mem_cons_self ..)]
      · rw [if_neg e, ih h2]
        by_cases k : x ∈ r
        · rw [if_pos k, if_pos (List.mem_cons_of_mem _ k)]
        · rw [if_neg k, if_neg (by rw [List.mem_cons, not_or]; exact ⟨Ne.symm e, k⟩)]
  unfold plusV
  rw [key _ (namesV_rise a b h.l.up h.r.up)]
  split
  · rfl
  · rename_i hx
    rw [namesV_in, not_or] at hx
    rw [not_in hx.1, not_in hx.2]; rfl
theorem Adds.good {a b : List Amt} (h : Adds a b) : GoodV (plusV a b) := by
  unfold plusV
  refine ⟨by rw [List.length_map]; exact h.few, fun y hy => ?_, ?_⟩
  · obtain ⟨x, hx, rfl⟩ := List.mem_map.1 hy
    have h1 := h.l.nonneg x
    have h2 := h.r.nonneg x
    rcases (namesV_in x a b).1 hx with hx | hx
    · obtain ⟨q, hq, rfl⟩ := List.mem_map.1 hx
      refine ⟨(h.l.pos q hq).1, ?_⟩
      have := (h.l.pos q hq).2
      show 0 < getA a q.name + _
      rw [getA_mem h.l.up q hq]; omega
    · obtain ⟨q, hq, rfl⟩ := List.mem_map.1 hx
      refine ⟨(h.r.pos q hq).1, ?_⟩
      have := (h.r.pos q hq).2
      show 0 < _ + getA b q.name
      rw [getA_mem h.r.up q hq]; omega
  · rw [List.pairwise_map]
    exact namesV_rise a b h.l.up h.r.up
/-! Sums over a list. -/
section
variable {α : Type} (f : α → List Amt)
def tot : List α → ByteArray → Int
  | [], _ => 0
  | y :: r, x => getA (f y) x + tot r x
theorem tot_nonneg : ∀ (l : List α), (∀ y ∈ l, GoodV (f y)) → ∀ x, 0 ≤ tot f l x
  | [], _, _ => Int.le_refl _
  | y :: r, h, x => by
    have h1 := (h y (List.mem_cons_self ..)).nonneg x
    have h2 := tot_nonneg r (fun z hz => h z (List.mem_cons_of_mem _ hz)) x
    show 0 ≤ getA (f y) x + tot f r x
    omega
theorem tot_mem : ∀ (l : List α), (∀ y ∈ l, GoodV (f y)) → ∀ y ∈ l, ∀ x, getA (f y) x ≤ tot f l x
  | z :: r, h, y, hy, x => by
    have h1 := (h z (List.mem_cons_self ..)).nonneg x
    have h2 := tot_nonneg f r (fun z hz => h z (List.mem_cons_of_mem _ hz)) x
    show _ ≤ getA (f z) x + tot f r x
    rcases List.mem_cons.1 hy with rfl | hy
    · omega
    · have := tot_mem r (fun z hz => h z (List.mem_cons_of_mem _ hz)) y hy x
      omega
theorem tot_sub {l l' : List α} (hs : l'.Sublist l) : (∀ y ∈ l, GoodV (f y)) → ∀ x, tot f l' x ≤ tot f l x := by
  induction hs with
  | slnil => exact fun _ _ => Int.le_refl _
  | cons y _ ih =>
    intro h x
    have h1 := (h y (List.mem_cons_self ..)).nonneg x
    have := ih (fun z hz => h z (List.mem_cons_of_mem _ hz)) x
    show _ ≤ getA (f y) x + tot f _ x
    omega
  | cons_cons y _ ih =>
    intro h x
    have := ih (fun z hz => h z (List.mem_cons_of_mem _ hz)) x
    show getA (f y) x + tot f _ x ≤ getA (f y) x + tot f _ x
    omega
theorem tot_append : ∀ (l k : List α) (x : ByteArray), tot f (l ++ k) x = tot f l x + tot f k x
  | [], k, x => by show _ = 0 + _; rw [Int.zero_add]; rfl
  | y :: r, k, x => by
    show getA (f y) x + tot f (r ++ k) x = getA (f y) x + tot f r x + tot f k x
    rw [tot_append r k x]; omega
theorem tot_perm {l k : List α} (h : l.Perm k) (x : ByteArray) : tot f l x = tot f k x := by
  induction h with
  | nil => rfl
  | cons y _ ih => show getA (f y) x + _ = getA (f y) x + _; rw [ih]
  | swap y z r => show getA (f z) x + (getA (f y) x + _) = getA (f y) x + (getA (f z) x + _); omega
  | trans _ _ h1 h2 => exact h1.trans h2
theorem sumV_zero : ∀ (l : List α) (v : List Amt), GoodV v → (∀ x, getA v x ≤ maxN) → (sumV f l v).2 = 0 → (∀ y ∈ l, GoodV (f y)) ∧ GoodV (sumV f l v).1 ∧ (∀ x, getA (sumV f l v).1 x = getA v x + tot f l x) ∧ ∀ x, getA v x + tot f l x ≤ maxN
  | [], v, hv, hm, _ => ⟨fun y hy => (by cases hy), hv, fun x => (Int.add_zero _).symm, fun x => by show _ + 0 ≤ _; rw [Int.add_zero]; exact hm x⟩
  | y :: r, v, hv, hm, h => by
    unfold sumV at h ⊢
    split at h
    · rename_i k; exact absurd h k
    · rename_i k
      rw [if_neg k]
      have ha := adds_of (Decidable.not_not.1 k)
      rw [ha.add] at h ⊢
      obtain ⟨i1, i2, i3, i4⟩ := sumV_zero r (plusV v (f y)) ha.good (fun x => by rw [ha.get]; exact ha.max x) h
      refine ⟨fun z hz => ?_, i2, fun x => ?_, fun x => ?_⟩
      · rcases List.mem_cons.1 hz with rfl | hz
        · exact ha.r
        · exact i1 z hz
      · rw [i3, ha.get]
        show _ = _ + (getA (f y) x + tot f r x)
        omega
      · have := i4 x
        rw [ha.get] at this
        show _ + (getA (f y) x + tot f r x) ≤ _
        omega
theorem names_few {a b : List Amt} (ha : GoodV a) (hb : GoodV b) {U : List ByteArray} (h1 : ∀ z ∈ a, z.name ∈ U) (h2 : ∀ z ∈ b, z.name ∈ U) : (namesV a b).length ≤ U.length :=
  nodup_length (up_nodup (namesV_rise a b ha.up hb.up)) fun x hx => by
    rcases (namesV_in x a b).1 hx with hx | hx
    · obtain ⟨q, hq, rfl⟩ := List.mem_map.1 hx
      exact h1 q hq
    · obtain ⟨q, hq, rfl⟩ := List.mem_map.1 hx
      exact h2 q hq
theorem sumV_ok {U : List ByteArray} (hU : U.length ≤ 8) : ∀ (l : List α) (v : List Amt), GoodV v → (∀ y ∈ l, GoodV (f y)) → (∀ z ∈ v, z.name ∈ U) → (∀ y ∈ l, ∀ z ∈ f y, z.name ∈ U) → (∀ x, getA v x + tot f l x ≤ maxN) → (sumV f l v).2 = 0
  | [], _, _, _, _, _, _ => rfl
  | y :: r, v, hv, hf, u1, u2, hm => by
    have hy := hf y (List.mem_cons_self ..)
    have hr : ∀ z ∈ r, GoodV (f z) := fun z hz => hf z (List.mem_cons_of_mem _ hz)
    have ha : Adds v (f y) := ⟨hv, hy, fun x => by
      have h1 : getA v x + (getA (f y) x + tot f r x) ≤ maxN := hm x
      have h2 := tot_nonneg f r hr x
      omega, Nat.le_trans (names_few hv hy u1 (u2 y (List.mem_cons_self ..))) hU⟩
    unfold sumV
    rw [ha.add, if_neg (by simp)]
    refine sumV_ok hU r _ ha.good hr (fun z hz => ?_) (fun z hz => u2 z (List.mem_cons_of_mem _ hz)) (fun x => ?_)
    · obtain ⟨x, hx, rfl⟩ := List.mem_map.1 hz
      rcases (namesV_in x v (f y)).1 hx with hx | hx
      · obtain ⟨q, hq, rfl⟩ := List.mem_map.1 hx
        exact u1 q hq
      · obtain ⟨q, hq, rfl⟩ := List.mem_map.1 hx
        exact u2 y (List.mem_cons_self ..) q hq
    · rw [ha.get]
      have h1 : getA v x + (getA (f y) x + tot f r x) ≤ maxN := hm x
      omega
end
theorem fits_iff {need h : List Amt} (hn : GoodV need) (hh : ∀ x, 0 ≤ getA h x) : fitsV need h = true ↔ ∀ x, getA need x ≤ getA h x := by
  unfold fitsV
  rw [List.all_eq_true]
  constructor
  · intro k x
    by_cases e : getA need x = 0
    · rw [e]; exact hh x
    · obtain ⟨y, hy, rfl⟩ := getA_some e
      rw [getA_mem hn.up y hy]
      exact of_decide_eq_true (k y hy)
  · intro k y hy
    have := k y.name
    rw [getA_mem hn.up y hy] at this
    exact decide_eq_true this
/-! What is left. -/
theorem subN_room {a b : Int} (h2 : 0 ≤ b) (h3 : b ≤ a) : subN a b = (a - b, 0) := by
  unfold subN
  rw [if_neg (by omega), if_neg (by omega), if_neg (by omega)]
theorem subL_ok (a b : List Amt) : ∀ (l : List ByteArray) (out : List Amt), (∀ x ∈ l, 0 ≤ getA b x ∧ getA b x ≤ getA a x) →
    out.length + (l.filter fun x => decide (0 < getA a x - getA b x)).length ≤ 8 →
    subL a b l out = (out ++ (l.filter fun x => decide (0 < getA a x - getA b x)).map (fun x => ⟨x, getA a x - getA b x⟩), 0)
  | [], out, _, hl => by
    unfold subL
    rw [if_neg (by simp at hl; omega)]; simp
  | x :: r, out, h, hl => by
    obtain ⟨h1, h2⟩ := h x (List.mem_cons_self ..)
    unfold subL
    rw [subN_room h1 h2, if_neg (by simp)]
    simp only
    by_cases hp : 0 < getA a x - getA b x
    · rw [List.filter_cons_of_pos (by simpa using hp)] at hl ⊢
      rw [if_pos hp, subL_ok a b r _ (fun y hy => h y (List.mem_cons_of_mem _ hy)) (by simp at hl ⊢; omega)]
      simp
    · rw [List.filter_cons_of_neg (by simpa using hp)] at hl ⊢
      rw [if_neg hp, subL_ok a b r _ (fun y hy => h y (List.mem_cons_of_mem _ hy)) hl]
def lessV (a b : List Amt) : List Amt := ((namesV a b).filter fun x => decide (0 < getA a x - getA b x)).map fun x => ⟨x, getA a x - getA b x⟩
theorem sub_ok {a b : List Amt} (ha : GoodV a) (hb : GoodV b) (h : ∀ x, getA b x ≤ getA a x) : subVec a b = (lessV a b, 0) ∧ ∀ x, getA (lessV a b) x = getA a x - getA b x := by
  have hlen : ((namesV a b).filter fun x => decide (0 < getA a x - getA b x)).length ≤ 8 := by
    refine Nat.le_trans (nodup_length (v := a.map (·.name)) ((up_nodup (namesV_rise a b ha.up hb.up)).sublist List.filter_sublist) fun x hx => ?_) (by rw [List.length_map]; exact ha.len)
    obtain ⟨-, h2⟩ := List.mem_filter.1 hx
    have h2 := of_decide_eq_true h2
    have h3 := hb.nonneg x
    obtain ⟨y, hy, rfl⟩ := getA_some (v := a) (x := x) (by omega)
    exact List.mem_map_of_mem hy
  constructor
  · unfold subVec
    rw [if_neg (fun k => k ((vec_iff a).2 ha)), if_neg (fun k => k ((vec_iff b).2 hb)), subL_ok a b _ _ (fun x _ => ⟨hb.nonneg x, h x⟩) (by simpa using hlen)]
    rfl
  · intro x
    classical
    have key : ∀ l : List ByteArray, getA ((l.filter fun x => decide (0 < getA a x - getA b x)).map fun x => (⟨x, getA a x - getA b x⟩ : Amt)) x = if x ∈ l then getA a x - getA b x else 0 := by
      intro l
      induction l with
      | nil => simp [getA]
      | cons y r ih =>
        by_cases e : y = x
        · subst e
          by_cases hp : 0 < getA a y - getA b y
          · rw [List.filter_cons_of_pos (by simpa using hp), List.map_cons, getA_cons]
            rw [if_pos rfl, if_pos (List.mem_cons_self ..)]
          · rw [List.filter_cons_of_neg (by simpa using hp), ih, if_pos (List.mem_cons_self ..)]
            have := h y
            split <;> omega
        · have e2 : (x ∈ y :: r) ↔ x ∈ r := by rw [List.mem_cons]; exact ⟨fun k => k.resolve_left (Ne.symm e), .inr⟩
          by_cases hp : 0 < getA a y - getA b y
          · rw [List.filter_cons_of_pos (by simpa using hp), List.map_cons, getA_cons]
            rw [if_neg e, ih]
            simp only [e2]
          · rw [List.filter_cons_of_neg (by simpa using hp), ih]
            simp only [e2]
    unfold lessV
    rw [key]
    split
    · rfl
    · rename_i hx
      rw [namesV_in, not_or] at hx
      rw [not_in hx.1, not_in hx.2]; rfl
end Go.Proofs.YtnmhicgbdalniaaGreatDoor
namespace Go.Proofs.YtnmhicgbdalniaaGreatDoor
open Go.RowKit

/-! A sound cluster: the plain law; what keeps it sound. -/
abbrev UpN {α : Type} (nm : α → ByteArray) (l : List α) : Prop := l.Pairwise fun a b => ltS (nm a) (nm b) = true
def onAt (s : St) (name : ByteArray) : List Pd := s.pods.filter (onB name)
structure Sound (s : St) : Prop where
  nlen : s.nodes.length ≤ 32
  nok : ∀ n ∈ s.nodes, checkNode n = 0
  nup : UpN Nd.name s.nodes
  plen : s.pods.length ≤ 128
  pok : ∀ p ∈ s.pods, checkPod p = 0
  pup : UpN Pd.name s.pods
  bok : checkBudgets s.budgets = 0
  there : ∀ p ∈ s.pods, podV s p = 0
  room : ∀ n ∈ s.nodes, ∀ x, tot Pd.need (onAt s n.name) x ≤ getA n.cap x
  total : (totalV s).2 = 0
theorem firstV_zero {α : Type} {f : α → Int} : ∀ {l : List α}, firstV f l = 0 ↔ ∀ x ∈ l, f x = 0
  | [] => ⟨fun _ x h => (by cases h), fun _ => rfl⟩
  | x :: r => by
    unfold firstV
    constructor
    · intro h
      obtain ⟨h1, h2⟩ := orV_zero h
      intro y hy
      rcases List.mem_cons.1 hy with rfl | hy
      · exact h1
      · exact firstV_zero.1 h2 y hy
    · intro h
      rw [orV_r (h x (List.mem_cons_self ..))]
      exact firstV_zero.2 fun y hy => h y (List.mem_cons_of_mem _ hy)
theorem manyV_mk {α : Type} {lim : Nat} {l : List α} {n : Int} (h : l.length ≤ lim) (hn : n = 0) : manyV lim l n = 0 := by
  unfold manyV
  rw [if_neg (by omega)]; exact hn
theorem node_cap {n : Nd} (h : checkNode n = 0) : GoodV n.cap := by
  unfold checkNode at h
  exact (vec_iff _).1 (orV_zero (orV_zero h).2).1
theorem node_name {n : Nd} (h : checkNode n = 0) : isName n.name = true := by
  unfold checkNode at h
  have := (orV_zero h).1
  cases hv : isName n.name with
  | true => rfl
  | false => rw [hv] at this; cases this
theorem pod_need {p : Pd} (h : checkPod p = 0) : GoodV p.need := by
  unfold checkPod at h
  exact (vec_iff _).1 (orV_zero (orV_zero (orV_zero (orV_zero h).2).2).2).1
theorem pod_name {p : Pd} (h : checkPod p = 0) : isName p.name = true := by
  unfold checkPod at h
  have := (orV_zero h).1
  cases hv : isName p.name with
  | true => rfl
  | false => rw [hv] at this; cases this
theorem pod_at {p : Pd} {name : ByteArray} (h : checkPod p = 0) (hn : maybeV name = 0) : checkPod { p with node := name } = 0 := by
  unfold checkPod at *
  obtain ⟨h1, h⟩ := orV_zero h
  obtain ⟨h2, h⟩ := orV_zero h
  obtain ⟨h3, h⟩ := orV_zero h
  obtain ⟨h4, h⟩ := orV_zero h
  obtain ⟨h5, h⟩ := orV_zero h
  obtain ⟨h6, h⟩ := orV_zero h
  obtain ⟨h7, h⟩ := orV_zero h
  obtain ⟨h8, h⟩ := orV_zero h
  obtain ⟨h9, h⟩ := orV_zero h
  rw [orV_r h1, orV_r h2, orV_r (show prioV { p with node := name } = 0 from h3), orV_r h4, orV_r h5, orV_r h6, orV_r h7, orV_r h8, orV_r (show mostV { p with node := name } = 0 from h9)]
  exact hn
theorem find_up : ∀ {l : List Nd}, UpN Nd.name l → ∀ n ∈ l, findV l n.name = (n, true)
  | m :: r, h, n, hn => by
    obtain ⟨h1, h2⟩ := List.pairwise_cons.1 h
    unfold findV
    rcases List.mem_cons.1 hn with rfl | hn
    · rw [if_pos rfl]
    · rw [if_neg (ltS_ne (h1 n hn))]
      exact find_up h2 n hn
theorem find_is : ∀ {l : List Nd} {k : ByteArray}, (findV l k).2 = true → (findV l k).1.name = k
  | n :: r, k, h => by
    unfold findV at *
    by_cases e : n.name = k
    · rw [if_pos e]; exact e
    · rw [if_neg e] at h ⊢; exact find_is h
theorem find_has {l : List Nd} {k : ByteArray} : (findV l k).2 = true ↔ ∃ n ∈ l, n.name = k := by
  constructor
  · exact fun h => ⟨_, findV_mem h, find_is h⟩
  · rintro ⟨n, hn, rfl⟩
    induction l with
    | nil => cases hn
    | cons m r ih =>
      unfold findV
      by_cases e : m.name = n.name
      · rw [if_pos e]
      · rw [if_neg e]
        rcases List.mem_cons.1 hn with rfl | hn
        · exact absurd rfl e
        · exact ih hn
theorem cap_max {l : List Nd} (h : (sumV Nd.cap l []).2 = 0) : ∀ n ∈ l, ∀ x, getA n.cap x ≤ maxN := by
  obtain ⟨h1, -, -, h4⟩ := sumV_zero Nd.cap l [] goodV_nil (fun x => by show (0 : Int) ≤ maxN; unfold maxN; decide) h
  intro n hn x
  have := h4 x
  have := tot_mem Nd.cap l h1 n hn x
  have h0 : getA ([] : List Amt) x = 0 := rfl
  omega
/-- What is in use on a node: sums. -/
theorem used_says {s : St} {n : Nd} (hf : findV s.nodes n.name = (n, true)) (hc : GoodV n.cap) (hm : ∀ x, getA n.cap x ≤ maxN) :
    roomV s n = 0 ↔ (∀ p ∈ onAt s n.name, GoodV p.need) ∧ ∀ x, tot Pd.need (onAt s n.name) x ≤ getA n.cap x := by
  have hu : usedV s n.name = sumV Pd.need (onAt s n.name) [] := by
    unfold usedV
    rw [hf]; rfl
  have h0 : ∀ x, getA ([] : List Amt) x ≤ maxN := fun x => by show (0 : Int) ≤ maxN; unfold maxN; decide
  unfold roomV
  rw [hu]
  constructor
  · intro h
    obtain ⟨h1, h2⟩ := orV_zero h
    obtain ⟨i1, i2, i3, -⟩ := sumV_zero Pd.need _ [] goodV_nil h0 h1
    refine ⟨i1, fun x => ?_⟩
    cases hft : fitsV (sumV Pd.need (onAt s n.name) []).1 n.cap with
    | false => rw [hft] at h2; cases h2
    | true =>
      have := (fits_iff i2 (fun x => hc.nonneg x)).1 hft x
      rw [i3] at this
      have h0 : getA ([] : List Amt) x = 0 := rfl
      omega
  · rintro ⟨h1, h2⟩
    have hz : (sumV Pd.need (onAt s n.name) []).2 = 0 := sumV_ok Pd.need (U := n.cap.map (·.name)) (by rw [List.length_map]; exact hc.len) _ [] goodV_nil h1 (fun z hz => by cases hz) (fun p hp z hz => by
      have g := h1 p hp
      have k1 := tot_mem Pd.need _ h1 p hp z.name
      have k2 := h2 z.name
      rw [getA_mem g.up z hz] at k1
      have k3 := (g.pos z hz).2
      obtain ⟨y, hy, e⟩ := getA_some (v := n.cap) (x := z.name) (by omega)
      rw [← e]; exact List.mem_map_of_mem hy) (fun x => by
      have := h2 x
      have := hm x
      have h0 : getA ([] : List Amt) x = 0 := rfl
      omega)
    obtain ⟨i1, i2, i3, -⟩ := sumV_zero Pd.need _ [] goodV_nil h0 hz
    rw [orV_r hz]
    have : fitsV (sumV Pd.need (onAt s n.name) []).1 n.cap = true := (fits_iff i2 (fun x => hc.nonneg x)).2 fun x => by
      rw [i3]
      have h0 : getA ([] : List Amt) x = 0 := rfl
      have := h2 x
      omega
    rw [this]; rfl
theorem sound_iff (s : St) : checkSt s = 0 ↔ Sound s := by
  unfold checkSt
  constructor
  · intro h
    obtain ⟨h1, h⟩ := orV_zero h
    obtain ⟨h2, h⟩ := orV_zero h
    obtain ⟨h3, h⟩ := orV_zero h
    obtain ⟨h4, h⟩ := orV_zero h
    obtain ⟨h5, h6⟩ := orV_zero h
    obtain ⟨a1, a2⟩ := manyV_zero h1
    obtain ⟨a2, a3, -⟩ := rowsV_zero a2
    obtain ⟨b1, b2⟩ := manyV_zero h2
    obtain ⟨b2, b3, -⟩ := rowsV_zero b2
    refine ⟨a1, a2, a3, b1, b2, b3, h3, firstV_zero.1 h4, fun n hn => ?_, h6⟩
    exact ((used_says (find_up a3 n hn) (node_cap (a2 n hn)) (cap_max h6 n hn)).1 (firstV_zero.1 h5 n hn)).2
  · rintro ⟨a1, a2, a3, b1, b2, b3, h3, h4, h5, h6⟩
    rw [orV_r (show checkNodes s.nodes = 0 from manyV_mk a1 (rowsV_mk a2 a3 (fun q h => by cases h))), orV_r (show checkPods s.pods = 0 from manyV_mk b1 (rowsV_mk b2 b3 (fun q h => by cases h))), orV_r h3, orV_r (firstV_zero.2 h4),
      orV_r (firstV_zero.2 fun n hn => (used_says (find_up a3 n hn) (node_cap (a2 n hn)) (cap_max h6 n hn)).2 ⟨fun p hp => pod_need (b2 p (List.mem_filter.1 hp).1), h5 n hn⟩)]
    exact h6
theorem Sound.needs {s : St} (h : Sound s) (name : ByteArray) : ∀ p ∈ onAt s name, GoodV p.need := fun p hp => pod_need (h.pok p (List.mem_filter.1 hp).1)
theorem Sound.apart {s : St} (h : Sound s) : Apart s.pods := List.Pairwise.imp (fun k => ltS_ne k) h.pup
theorem Sound.find {s : St} (h : Sound s) {n : Nd} (hn : n ∈ s.nodes) : findV s.nodes n.name = (n, true) := find_up h.nup n hn
theorem Sound.capm {s : St} (h : Sound s) {n : Nd} (hn : n ∈ s.nodes) : ∀ x, getA n.cap x ≤ maxN := cap_max h.total n hn
/-- What is left on a node: differences. -/
theorem Sound.free {s : St} (h : Sound s) {n : Nd} (hn : n ∈ s.nodes) : ∃ v, freeV s n.name = (v, 0) ∧ ∀ x, getA v x = getA n.cap x - tot Pd.need (onAt s n.name) x := by
  have hr := (used_says (h.find hn) (node_cap (h.nok n hn)) (h.capm hn)).2 ⟨h.needs _, h.room n hn⟩
  unfold roomV at hr
  have hz := (orV_zero hr).1
  have hu : usedV s n.name = sumV Pd.need (onAt s n.name) [] := by
    unfold usedV
    rw [h.find hn]; rfl
  rw [hu] at hz
  obtain ⟨-, i2, i3, -⟩ := sumV_zero Pd.need _ [] goodV_nil (fun x => by show (0 : Int) ≤ maxN; unfold maxN; decide) hz
  have i4 : ∀ x, getA (sumV Pd.need (onAt s n.name) []).1 x = tot Pd.need (onAt s n.name) x := fun x => by
    rw [i3]
    have h0 : getA ([] : List Amt) x = 0 := rfl
    omega
  obtain ⟨j1, j2⟩ := sub_ok (node_cap (h.nok n hn)) i2 (fun x => by rw [i4]; exact h.room n hn x)
  refine ⟨_, ?_, fun x => by rw [j2, i4]⟩
  unfold freeV
  rw [hu, if_neg (fun k => k hz), h.find hn]
  exact j1
theorem onAt_sub {s : St} {l : List Pd} (h : l.Sublist s.pods) (name : ByteArray) : (l.filter (onB name)).Sublist (onAt s name) := h.filter _
/-- Fewer pods: sound still. -/
theorem Sound.fewer {s : St} (h : Sound s) {l : List Pd} (hl : l.Sublist s.pods) : Sound { s with pods := l } where
  nlen := h.nlen
  nok := h.nok
  nup := h.nup
  plen := Nat.le_trans hl.length_le h.plen
  pok := fun p hp => h.pok p (hl.subset hp)
  pup := h.pup.sublist hl
  bok := h.bok
  there := fun p hp => h.there p (hl.subset hp)
  room := fun n hn x => Int.le_trans (tot_sub Pd.need (onAt_sub hl n.name) (h.needs _) x) (h.room n hn x)
  total := h.total
theorem Sound.drop {s : St} (h : Sound s) (name : ByteArray) : Sound (dropS s name) := h.fewer List.filter_sublist
theorem Sound.drops {s : St} (h : Sound s) : ∀ l : List ByteArray, Sound (l.foldl dropS s) := by
  intro l
  induction l generalizing s with
  | nil => exact h
  | cons a r ih => exact ih (h.drop a)
/-- Where a pod fits there is room for it. -/
theorem fitD_says {s : St} {p : Pd} {name : ByteArray} (h : fitD s p name = 0) : (findV s.nodes name).2 = true ∧ (!(findV s.nodes name).1.cordon && matchV p.sel (findV s.nodes name).1.labels) = true ∧ (worstV p.tols (findV s.nodes name).1.taints).2 = false ∧ skewOk s p name = true ∧ (freeV s name).2 = 0 ∧ fitsV p.need (freeV s name).1 = true := by
  unfold fitD at h
  split at h
  · cases h
  · rename_i h1
    split at h
    · cases h
    · rename_i h2
      split at h
      · cases h
      · rename_i h3
        split at h
        · cases h
        · rename_i h4
          split at h
          · cases h
          · rename_i h5
            simp only [Bool.not_eq_false, Bool.and_eq_true, decide_eq_true_eq, Bool.not_eq_true] at h1 h2 h3 h4 h5
            exact ⟨h1, by rw [Bool.and_eq_true]; exact h2, h3, h4, h5.1, h5.2⟩
theorem fitD_mk {s : St} {p : Pd} {name : ByteArray} (h1 : (findV s.nodes name).2 = true) (h2 : (!(findV s.nodes name).1.cordon && matchV p.sel (findV s.nodes name).1.labels) = true) (h3 : (worstV p.tols (findV s.nodes name).1.taints).2 = false) (h4 : skewOk s p name = true) (h5 : (freeV s name).2 = 0)
    (h6 : fitsV p.need (freeV s name).1 = true) : fitD s p name = 0 := by
  unfold fitD
  rw [h1, h2, h3, h4, h5, h6]; rfl
theorem fit_room {s : St} {p : Pd} {name : ByteArray} (hs : Sound s) (hp : GoodV p.need) (h : fitV s p name = 0) :
    ∃ n ∈ s.nodes, n.name = name ∧ ∀ x, tot Pd.need (onAt (dropS s p.name) name) x + getA p.need x ≤ getA n.cap x := by
  obtain ⟨h1, -, -, -, h5, h6⟩ := fitD_says (show fitD (dropS s p.name) p name = 0 from h)
  obtain ⟨n, hn, rfl⟩ := find_has.1 h1
  refine ⟨n, hn, rfl, fun x => ?_⟩
  have hd := hs.drop p.name
  obtain ⟨v, e, hv⟩ := hd.free (n := n) hn
  rw [e] at h6
  have := (fits_iff hp (fun x => by rw [hv]; have := hd.room n hn x; omega)).1 h6 x
  rw [hv] at this
  omega
/-- A pod that is moved where there is room for it. -/
theorem move_at (s : St) (name to_ m : ByteArray) (ha : Apart s.pods) {p : Pd} (hp : p ∈ s.pods) (hn : p.name = name) (x : ByteArray) :
    tot Pd.need (onAt (moveS s name to_) m) x = tot Pd.need (onAt (dropS s name) m) x + (if to_ = m then getA p.need x else 0) := by
  unfold onAt moveS dropS isNm
  simp only
  generalize s.pods = l at *
  induction l with
  | nil => cases hp
  | cons q r ih =>
    obtain ⟨a1, a2⟩ := List.pairwise_cons.1 ha
    rw [List.map_cons]
    by_cases e : q.name = name
    · have hpq : p = q := apart_one ha p hp q (List.mem_cons_self ..) (hn.trans e.symm)
      subst hpq
      have hr : r.map (fun p => if p.name = name then { p with node := to_ } else p) = r := by
        conv => rhs; rw [← List.map_id r]
        refine List.map_congr_left fun z hz => ?_
        rw [if_neg (fun k => a1 z hz (e.trans k.symm))]; rfl
      have hf : r.filter (fun p => !decide (p.name = name)) = r := List.filter_eq_self.2 fun z hz => by
        have : ¬ z.name = name := fun k => a1 z hz (e.trans k.symm)
        simp [this]
      rw [hr, if_pos e, List.filter_cons_of_neg (p := fun p : Pd => !decide (p.name = name)) (by simp [e]), hf]
      by_cases k : to_ = m
      · rw [if_pos k, List.filter_cons_of_pos (by simp [onB, k])]
        show getA p.need x + _ = _
        omega
      · rw [if_neg k, List.filter_cons_of_neg (by simp [onB, k])]
        omega
    · rw [if_neg e]
      have hp' : p ∈ r := by
        rcases List.mem_cons.1 hp with rfl | h
        · exact absurd hn e
        · exact h
      have i := ih a2 hp'
      rw [List.filter_cons_of_pos (p := fun p : Pd => !decide (p.name = name)) (by simp [e])]
      by_cases k : onB m q = true
      · rw [List.filter_cons_of_pos k, List.filter_cons_of_pos k]
        show getA q.need x + _ = getA q.need x + _ + _
        omega
      · rw [List.filter_cons_of_neg k, List.filter_cons_of_neg k]
        exact i
theorem name_maybe {name : ByteArray} (h : isName name = true) : maybeV name = 0 := by
  unfold maybeV
  rw [if_neg]
  rintro ⟨-, h2⟩
  rw [h] at h2; cases h2
theorem Sound.move {s : St} (h : Sound s) {name : ByteArray} {n : Nd} (hn : n ∈ s.nodes) {p : Pd} (hp : p ∈ s.pods) (hpn : p.name = name)
    (hr : ∀ x, tot Pd.need (onAt (dropS s name) n.name) x + getA p.need x ≤ getA n.cap x) : Sound (moveS s name n.name) where
  nlen := h.nlen
  nok := h.nok
  nup := h.nup
  plen := by show (List.map _ _).length ≤ _; rw [List.length_map]; exact h.plen
  pok := fun q hq => by
    obtain ⟨z, hz, rfl⟩ := List.mem_map.1 hq
    split
    · exact pod_at (h.pok z hz) (name_maybe (node_name (h.nok n hn)))
    · exact h.pok z hz
  pup := by
    show List.Pairwise _ (List.map _ _)
    rw [List.pairwise_map]
    refine List.Pairwise.imp (fun {a b} k => ?_) h.pup
    have e : ∀ a : Pd, (if a.name = name then { a with node := n.name } else a).name = a.name := fun a => by split <;> rfl
    rw [e, e]; exact k
  bok := h.bok
  there := fun q hq => by
    obtain ⟨z, hz, rfl⟩ := List.mem_map.1 hq
    split
    · unfold podV
      rw [if_neg]
      rintro ⟨-, h2⟩
      rw [show (findV (moveS s name n.name).nodes n.name) = (n, true) from h.find hn] at h2
      cases h2
    · exact h.there z hz
  room := fun m hm x => by
    rw [move_at s name n.name m.name h.apart hp hpn x]
    by_cases e : n.name = m.name
    · rw [if_pos e]
      have hnm : n = m := by
        have h1 := h.find hn
        rw [e, h.find hm] at h1
        injection h1 with h1 _
        exact h1.symm
      subst hnm
      exact hr x
    · rw [if_neg e]
      have := (h.drop name).room m hm x
      omega
  total := h.total
theorem Sound.moveFit {s : St} (h : Sound s) {p : Pd} (hp : p ∈ s.pods) {to_ : ByteArray} (hf : fitV s p to_ = 0) : Sound (moveS s p.name to_) := by
  obtain ⟨n, hn, rfl, hr⟩ := fit_room h (pod_need (h.pok p hp)) hf
  exact h.move hn hp rfl hr
end Go.Proofs.YtnmhicgbdalniaaGreatDoor
namespace Go.Proofs.YtnmhicgbdalniaaGreatDoor
open Go.RowKit

/-! A pod put in; a way that is gone: the plain law. -/
def insN (p : Pd) : List Pd → List Pd
  | [] => [p]
  | x :: r => if ltS x.name p.name = true then x :: insN p r else p :: x :: r
def putS (s : St) (p : Pd) : St := { s with pods := insN p (dropS s p.name).pods }
theorem insN_perm (p : Pd) : ∀ l, (insN p l).Perm (p :: l)
  | [] => List.Perm.refl _
  | x :: r => by
    unfold insN
    split
    · exact ((insN_perm p r).cons x).trans (List.Perm.swap p x r)
    · exact List.Perm.refl _
theorem insN_up (p : Pd) : ∀ l, UpN Pd.name l → (∀ x ∈ l, x.name ≠ p.name) → UpN Pd.name (insN p l)
  | [], _, _ => by simp [insN, UpN]
  | x :: r, h, hne => by
    obtain ⟨h1, h2⟩ := List.pairwise_cons.1 h
    unfold insN
    split
    · rename_i hlt
      refine List.pairwise_cons.2 ⟨fun y hy => ?_, insN_up p r h2 (fun y hy => hne y (List.mem_cons_of_mem _ hy))⟩
      rcases List.mem_cons.1 ((insN_perm p r).mem_iff.1 hy) with rfl | hy
      · exact hlt
      · exact h1 y hy
    · rename_i hn
      have hlt : ltS p.name x.name = true := by
        cases hc : ltS p.name x.name with
        | true => rfl
        | false => exact absurd (ltS_tri hn (by rw [hc]; decide)) (hne x (List.mem_cons_self ..))
      refine List.pairwise_cons.2 ⟨fun y hy => ?_, h⟩
      rcases List.mem_cons.1 hy with rfl | hy
      · exact hlt
      · exact ltS_trans hlt (h1 y hy)
theorem drop_mem {s : St} {name : ByteArray} {q : Pd} : q ∈ (dropS s name).pods ↔ q ∈ s.pods ∧ q.name ≠ name := by
  unfold dropS isNm
  rw [List.mem_filter]
  simp
theorem put_mem {s : St} {p q : Pd} : q ∈ (putS s p).pods ↔ q = p ∨ q ∈ s.pods ∧ q.name ≠ p.name := by
  show q ∈ insN p _ ↔ _
  rw [(insN_perm p _).mem_iff, List.mem_cons, drop_mem]
theorem put_len (s : St) (p : Pd) : (putS s p).pods.length = (dropS s p.name).pods.length + 1 := by
  show (insN p _).length = _
  rw [(insN_perm p _).length_eq, List.length_cons]
theorem put_at (s : St) (p : Pd) (m x : ByteArray) : tot Pd.need (onAt (putS s p) m) x = tot Pd.need (onAt (dropS s p.name) m) x + (if p.node = m then getA p.need x else 0) := by
  have h1 : tot Pd.need (onAt (putS s p) m) x = tot Pd.need ((p :: (dropS s p.name).pods).filter (onB m)) x := tot_perm Pd.need ((insN_perm p (dropS s p.name).pods).filter (onB m)) x
  rw [h1]
  by_cases e : p.node = m
  · rw [if_pos e, List.filter_cons_of_pos (by simp [onB, e])]
    show getA p.need x + tot Pd.need (onAt (dropS s p.name) m) x = _
    omega
  · rw [if_neg e, List.filter_cons_of_neg (by simp [onB, e])]
    show tot Pd.need (onAt (dropS s p.name) m) x = _
    omega
theorem Sound.put {s : St} (h : Sound s) {p : Pd} (hp : checkPod p = 0) (hv : podV s p = 0) (hl : s.pods.length < 128)
    (hr : ∀ n ∈ s.nodes, p.node = n.name → ∀ x, tot Pd.need (onAt (dropS s p.name) n.name) x + getA p.need x ≤ getA n.cap x) : Sound (putS s p) where
  nlen := h.nlen
  nok := h.nok
  nup := h.nup
  plen := by
    rw [put_len]
    have : (dropS s p.name).pods.length ≤ s.pods.length := List.length_filter_le _ _
    omega
  pok := fun q hq => by
    rcases put_mem.1 hq with rfl | ⟨hq, -⟩
    · exact hp
    · exact h.pok q hq
  pup := insN_up p _ (h.drop p.name).pup (fun x hx => (drop_mem.1 hx).2)
  bok := h.bok
  there := fun q hq => by
    rcases put_mem.1 hq with rfl | ⟨hq, -⟩
    · exact hv
    · exact h.there q hq
  room := fun n hn x => by
    rw [put_at]
    have h1 := (h.drop p.name).room n hn x
    by_cases e : p.node = n.name
    · rw [if_pos e]
      exact hr n hn e x
    · rw [if_neg e]; omega
  total := h.total
theorem pod_nowhere {p : Pd} (h : checkPod p = 0) : checkPod { p with node := ⟨#[]⟩ } = 0 := pod_at h (by unfold maybeV emptyB; simp)
/-- A pod put in that is nowhere. -/
theorem Sound.putNowhere {s : St} (h : Sound s) {p : Pd} (hp : checkPod p = 0) (hn : p.node = ⟨#[]⟩) (hl : s.pods.length < 128) : Sound (putS s p) :=
  h.put hp (by unfold podV emptyB; rw [hn]; simp) hl fun n hm e => by
    have := name_full (node_name (h.nok n hm))
    unfold emptyB at this
    rw [decide_eq_false_iff_not] at this
    exact absurd (e.symm.trans hn) this
theorem drop_comm (s : St) (a b : ByteArray) : dropS (dropS s a) b = dropS (dropS s b) a := by
  unfold dropS
  simp only [List.filter_filter]
  congr 2
  funext p
  exact Bool.and_comm _ _
theorem domV_nodes {s t : St} (h : s.nodes = t.nodes) (name key : ByteArray) : domV s name key = domV t name key := by
  unfold domV
  rw [h]
/-- Placeholders don't count for the spread. -/
theorem skew_hold {s : St} {name : ByteArray} (h : ∀ q ∈ s.pods, q.name = name → q.hold = true) (p : Pd) (m : ByteArray) : skewV (dropS s name) p m = skewV s p m := by
  have hc : ∀ dom, countV (dropS s name) p dom (dropS s name).pods = countV s p dom s.pods := fun dom => by
    unfold countV
    show List.countP _ (s.pods.filter _) = _
    rw [List.countP_filter]
    refine List.countP_congr fun q hq => ?_
    show (other p q && inDom s q.node p.key dom && !isNm name q) = true ↔ _
    by_cases e : q.name = name
    · have : other p q = false := by
        unfold other
        rw [h q hq e]
        simp
      rw [this]; simp
    · have : isNm name q = false := decide_eq_false e
      rw [this]; simp
  have hl : ∀ (own : ByteArray) (here : Nat) (l : List (List UInt8)), leastV (dropS s name) p own here l = leastV s p own here l := fun own here l => by
    unfold leastV
    simp only [hc]
  have hh : ∀ own, hereV (dropS s name) p own = hereV s p own := fun own => by unfold hereV; rw [hc]
  unfold skewV
  simp only [hl, hh]
  rfl
theorem fit_mono {s t : St} (h0 : Apart s.pods) (ht : Sound t) (hsub : ∀ q ∈ t.pods, q ∈ s.pods) {x : Pd} (hx : x ∈ s.pods) (hh : x.hold = true) {p : Pd} {name : ByteArray} (hp : GoodV p.need) (hf : fitV t p name = 0) : fitV (dropS t x.name) p name = 0 := by
  show fitD (dropS (dropS t x.name) p.name) p name = 0
  rw [drop_comm]
  obtain ⟨h1, h2, h3, h4, h5, h6⟩ := fitD_says (show fitD (dropS t p.name) p name = 0 from hf)
  have hu := ht.drop p.name
  have hq : ∀ q ∈ (dropS t p.name).pods, q.name = x.name → q.hold = true := fun q hq e => by
    have := apart_one h0 q (hsub q (drop_mem.1 hq).1) x hx e
    rw [this]; exact hh
  obtain ⟨n, hn, rfl⟩ := find_has.1 h1
  obtain ⟨v, e1, v1⟩ := hu.free (n := n) hn
  obtain ⟨v', e2, v2⟩ := (hu.drop x.name).free (n := n) hn
  refine fitD_mk h1 h2 h3 ?_ (by rw [e2]) ?_
  · unfold skewOk
    rw [skew_hold hq]
    exact h4
  · rw [e1] at h6
    rw [e2]
    have h7 := (fits_iff hp (fun y => by rw [v1]; have := hu.room n hn y; omega)).1 h6
    refine (fits_iff hp (fun y => by rw [v2]; have := (hu.drop x.name).room n hn y; omega)).2 fun y => ?_
    have k1 := h7 y
    rw [v1] at k1
    rw [v2]
    have k2 := tot_sub Pd.need (onAt_sub (s := dropS t p.name) (l := (dropS (dropS t p.name) x.name).pods) List.filter_sublist n.name) (hu.needs _) y
    have k3 : tot Pd.need (onAt (dropS (dropS t p.name) x.name) n.name) y ≤ tot Pd.need (onAt (dropS t p.name) n.name) y := k2
    omega
def holdsOf (l : List Pd) : List ByteArray := (l.filter (·.hold)).map (·.name)
def allOff (s : St) (name : ByteArray) : St := (holdsOf (onV s name)).foldl dropS s
theorem holdsOf_cons (x : Pd) (l : List Pd) : holdsOf (x :: l) = if x.hold = true then x.name :: holdsOf l else holdsOf l := by
  unfold holdsOf
  by_cases h : x.hold = true
  · rw [List.filter_cons_of_pos h, if_pos h]; rfl
  · rw [List.filter_cons_of_neg h, if_neg h]
theorem onGo_ok {F : FitF} {p : Pd} {name : ByteArray} {M : St → Prop} : ∀ (l : List Pd) (s : St) (out : List ByteArray), M s → (∀ t, M t → ∀ x ∈ l, x.hold = true → M (dropS t x.name) ∧ (F t p name = 0 → F (dropS t x.name) p name = 0)) →
    F s p name ≠ 0 → ((onGo F p name s l out).2 = true ↔ F ((holdsOf l).foldl dropS s) p name = 0)
  | [], s, out, _, _, hf => by
    show false = true ↔ F s p name = 0
    exact ⟨fun h => (by cases h), fun h => absurd h hf⟩
  | x :: l, s, out, hs, hm, hf => by
    have hm' : ∀ t, M t → ∀ y ∈ l, y.hold = true → M (dropS t y.name) ∧ (F t p name = 0 → F (dropS t y.name) p name = 0) := fun t ht y hy => hm t ht y (List.mem_cons_of_mem _ hy)
    rw [holdsOf_cons]
    unfold onGo
    by_cases h : x.hold = true
    · rw [if_pos h, if_pos h, List.foldl_cons]
      obtain ⟨m1, -⟩ := hm s hs x (List.mem_cons_self ..) h
      by_cases h0 : F (dropS s x.name) p name = 0
      · rw [if_pos h0]
        have key : ∀ (k : List Pd) (t : St), M t → (∀ y ∈ k, y ∈ l) → F t p name = 0 → F ((holdsOf k).foldl dropS t) p name = 0 := by
          intro k
          induction k with
          | nil => exact fun t _ _ h => h
          | cons y k ih =>
            intro t ht hk hF
            rw [holdsOf_cons]
            split
            · rename_i hy
              obtain ⟨q1, q2⟩ := hm' t ht y (hk y (List.mem_cons_self ..)) hy
              exact ih _ q1 (fun z hz => hk z (List.mem_cons_of_mem _ hz)) (q2 hF)
            · exact ih t ht (fun z hz => hk z (List.mem_cons_of_mem _ hz)) hF
        exact ⟨fun _ => key l _ m1 (fun _ h => h) h0, fun _ => rfl⟩
      · rw [if_neg h0]
        exact onGo_ok l _ _ m1 hm' h0
    · rw [if_neg h, if_neg h]
      exact onGo_ok l s out hs hm' hf
theorem onGo_pre {F : FitF} {p : Pd} {name : ByteArray} : ∀ (l : List Pd) (s : St) (out h : List ByteArray), onGo F p name s l out = (h, true) → ∃ r, h = out ++ r ∧ r <+: holdsOf l ∧ F (r.foldl dropS s) p name = 0
  | [], s, out, h, e => by simp [onGo] at e
  | x :: l, s, out, h, e => by
    unfold onGo at e
    rw [holdsOf_cons]
    by_cases hh : x.hold = true
    · rw [if_pos hh] at e ⊢
      split at e
      · rename_i h0
        injection e with e _
        exact ⟨[x.name], e.symm, ⟨holdsOf l, rfl⟩, h0⟩
      · obtain ⟨r, e1, ⟨k, e2⟩, e3⟩ := onGo_pre l _ _ _ e
        exact ⟨x.name :: r, by rw [e1]; simp, ⟨k, by rw [← e2]; rfl⟩, e3⟩
    · rw [if_neg hh] at e ⊢
      exact onGo_pre l s out h e
theorem onW_pre {F : FitF} {s : St} {p : Pd} {name : ByteArray} {h : List ByteArray} (e : onW F s p name = (h, true)) : h <+: holdsOf (onV s name) ∧ F (h.foldl dropS s) p name = 0 := by
  unfold onW at e
  split at e
  · rename_i h0
    injection e with e _
    subst e
    exact ⟨List.nil_prefix, h0⟩
  · obtain ⟨r, e1, e2, e3⟩ := onGo_pre _ _ _ _ e
    have : h = r := by simpa using e1
    subst this
    exact ⟨e2, e3⟩
theorem onV_mem {s : St} {name : ByteArray} {x : Pd} (h : x ∈ onV s name) : x ∈ s.pods ∧ x.node = name := by
  unfold onV at h
  obtain ⟨h1, h2⟩ := List.mem_filter.1 h
  simp only [Bool.and_eq_true, decide_eq_true_eq] at h2
  exact ⟨h1, h2.1⟩
/-- A node's way is there just where the pod fits without all placeholders. -/
theorem onW_ok {s : St} (hs : Sound s) {p : Pd} (hp : GoodV p.need) (name : ByteArray) : (onW fitV s p name).2 = true ↔ fitV (allOff s name) p name = 0 := by
  have hm : ∀ t, (Sound t ∧ ∀ q ∈ t.pods, q ∈ s.pods) → ∀ x ∈ onV s name, x.hold = true → (Sound (dropS t x.name) ∧ ∀ q ∈ (dropS t x.name).pods, q ∈ s.pods) ∧ (fitV t p name = 0 → fitV (dropS t x.name) p name = 0) := fun t ht x hx hh =>
    ⟨⟨ht.1.drop _, fun q hq => ht.2 q (drop_mem.1 hq).1⟩, fit_mono hs.apart ht.1 ht.2 (onV_mem hx).1 hh hp⟩
  unfold onW
  by_cases h0 : fitV s p name = 0
  · rw [if_pos h0]
    refine ⟨fun _ => ?_, fun _ => rfl⟩
    have key : ∀ (k : List Pd) (t : St), (Sound t ∧ ∀ q ∈ t.pods, q ∈ s.pods) → (∀ y ∈ k, y ∈ onV s name) → fitV t p name = 0 → fitV ((holdsOf k).foldl dropS t) p name = 0 := by
      intro k
      induction k with
      | nil => exact fun t _ _ h => h
      | cons y k ih =>
        intro t ht hk hF
        rw [holdsOf_cons]
        split
        · rename_i hy
          obtain ⟨q1, q2⟩ := hm t ht y (hk y (List.mem_cons_self ..)) hy
          exact ih _ q1 (fun z hz => hk z (List.mem_cons_of_mem _ hz)) (q2 hF)
        · exact ih t ht (fun z hz => hk z (List.mem_cons_of_mem _ hz)) hF
    exact key _ s ⟨hs, fun _ h => h⟩ (fun _ h => h) h0
  · rw [if_neg h0]
    exact onGo_ok (M := fun t => Sound t ∧ ∀ q ∈ t.pods, q ∈ s.pods) _ s [] ⟨hs, fun _ h => h⟩ hm h0
theorem drops_mem {q : Pd} : ∀ {l : List ByteArray} {s : St}, q ∈ (l.foldl dropS s).pods ↔ q ∈ s.pods ∧ q.name ∉ l
  | [], s => by simp
  | a :: l, s => by
    rw [List.foldl_cons, drops_mem, drop_mem, List.mem_cons, not_or, and_assoc]
theorem drop_len : ∀ {l : List Pd} {name : ByteArray}, Apart l → (∃ x ∈ l, x.name = name) → (l.filter fun p => !isNm name p).length + 1 = l.length
  | y :: l, name, ha, hx => by
    obtain ⟨a1, a2⟩ := List.pairwise_cons.1 ha
    by_cases e : y.name = name
    · have hf : l.filter (fun p => !isNm name p) = l := List.filter_eq_self.2 fun z hz => by
        have : isNm name z = false := decide_eq_false fun k => a1 z hz (e.trans k.symm)
        rw [this]; rfl
      rw [List.filter_cons_of_neg (by simp [isNm, e]), hf]; rfl
    · rw [List.filter_cons_of_pos (by simp [isNm, e]), List.length_cons, List.length_cons, drop_len a2]
      obtain ⟨x, hx, k⟩ := hx
      rcases List.mem_cons.1 hx with rfl | hx
      · exact absurd k e
      · exact ⟨x, hx, k⟩
theorem drops_len : ∀ {l : List ByteArray} {s : St}, Apart s.pods → l.Nodup → (∀ a ∈ l, ∃ x ∈ s.pods, x.name = a) → (l.foldl dropS s).pods.length + l.length = s.pods.length
  | [], s, _, _, _ => rfl
  | a :: l, s, ha, hn, hx => by
    obtain ⟨n1, n2⟩ := List.nodup_cons.1 hn
    have h1 : (dropS s a).pods.length + 1 = s.pods.length := drop_len ha (hx a (List.mem_cons_self ..))
    have h2 := drops_len (l := l) (s := dropS s a) (ha.sublist List.filter_sublist) n2 (fun b hb => by
      obtain ⟨x, hx, e⟩ := hx b (List.mem_cons_of_mem _ hb)
      exact ⟨x, drop_mem.2 ⟨hx, fun k => n1 (by rw [← k, e]; exact hb)⟩, e⟩)
    rw [List.foldl_cons, List.length_cons]
    omega
theorem holds_nodup {s : St} (h : Apart s.pods) (name : ByteArray) : (holdsOf (onV s name)).Nodup := by
  unfold holdsOf onV
  have h1 : Apart ((s.pods.filter fun p => decide (p.node = name) && !emptyB name).filter (·.hold)) := (h.sublist List.filter_sublist).sublist List.filter_sublist
  unfold List.Nodup
  rw [List.pairwise_map]
  exact h1
/-- What a way comes to. -/
theorem way_there {s : St} (hs : Sound s) {p : Pd} (hp : p ∈ s.pods) (hh : p.hold = false) :
    ((forW fitV s p).2 = true ↔ ∃ n ∈ s.nodes, fitV (allOff s n.name) p n.name = 0) ∧
    ((forW fitV s p).2 = true → Sound (doW s (forW fitV s p).1) ∧ (doW s (forW fitV s p).1).pods.length + (forW fitV s p).1.holds.length = s.pods.length ∧
      (∀ a ∈ (forW fitV s p).1.holds, ∃ x ∈ s.pods, x.name = a ∧ x.hold = true ∧ x.node = (forW fitV s p).1.to_) ∧
      ∃ q ∈ (doW s (forW fitV s p).1).pods, q.name = p.name ∧ q.node = (forW fitV s p).1.to_) := by
  have hg := pod_need (hs.pok p hp)
  refine ⟨⟨fun h => ?_, ?_⟩, fun h => ?_⟩
  · obtain ⟨n, hn, -, -, h3⟩ := forW_says h
    exact ⟨n, hn, (onW_ok hs hg n.name).1 (by rw [h3])⟩
  · rintro ⟨n, hn, h⟩
    exact (forW_least hh hn ((onW_ok hs hg n.name).2 h)).1
  · obtain ⟨n, hn, h1, h2, h3⟩ := forW_says h
    obtain ⟨h4, h5⟩ := onW_pre h3
    generalize (forW fitV s p).1 = w at *
    have hin : ∀ a ∈ w.holds, ∃ x ∈ s.pods, x.name = a ∧ x.hold = true ∧ x.node = n.name := fun a ha => by
      have := h4.subset ha
      unfold holdsOf at this
      obtain ⟨x, hx, rfl⟩ := List.mem_map.1 this
      obtain ⟨hx, hb⟩ := List.mem_filter.1 hx
      obtain ⟨k1, k2⟩ := onV_mem hx
      exact ⟨x, k1, rfl, hb, k2⟩
    have hpt : p ∈ (w.holds.foldl dropS s).pods := drops_mem.2 ⟨hp, fun k => by
      obtain ⟨x, hx, e, hb, -⟩ := hin _ k
      have := apart_one hs.apart x hx p hp e
      subst this
      rw [hh] at hb; cases hb⟩
    unfold doW
    rw [h2, h1]
    refine ⟨(hs.drops w.holds).moveFit hpt h5, ?_, hin, { p with node := n.name }, ?_, rfl, rfl⟩
    · show (List.map _ _).length + _ = _
      rw [List.length_map]
      exact drops_len hs.apart ((holds_nodup hs.apart n.name).sublist h4.sublist) (fun a ha => by obtain ⟨x, hx, e, -⟩ := hin a ha; exact ⟨x, hx, e⟩)
    · show _ ∈ List.map _ _
      exact List.mem_map.2 ⟨p, hpt, by rw [if_pos rfl]⟩
end Go.Proofs.YtnmhicgbdalniaaGreatDoor
namespace Go.Proofs.YtnmhicgbdalniaaGreatDoor
open Go.RowKit

theorem tx_append (a b : List UInt8) : tx a ++ tx b = tx (a ++ b) := by
  apply ByteArray.ext
  simp [tx]
/-- One byte as a text. -/
theorem conv_one (x : Int) (h0 : 0 ≤ x) (h : x ≤ 255) (W : World) :
    (convert 115 9 (.slice (some ⟨W.heap.size, 0, none⟩) 1 1)).run Tryz.prog (W.alloc (.cells #[.int .u8 x] 5)) = .ok (.string (tx [UInt8.ofNat x.toNat])) (W.alloc (.cells #[.int .u8 x] 5)) := by
  have := run_convert_bytes_back (P := Tryz.prog) (W.alloc (.cells #[.int .u8 x] 5)) 115 9 5 ⟨W.heap.size, 0, none⟩ 1 [UInt8.ofNat x.toNat] Tryz.underlying115 Tryz.underlying5 Tryz.underlying9 (fun j hj => by
    have hj' : j < 1 := hj
    obtain rfl : j = 0 := by omega
    have e := one_new W (.int .u8 x) 5 0 (.int .u8 x) rfl
    rw [e]
    have : (UInt8.ofNat x.toNat).toNat = x.toNat := by simp; omega
    simp only [List.getElem_cons_zero, this]
    congr 2; omega)
  exact this

def digit (q : Nat) : UInt8 := 48 + UInt8.ofNat (q % 10)
theorem digit_eq (q : Nat) : UInt8.ofNat (48 + q % 10) = digit q := by rw [UInt8.ofNat_add]; rfl
theorem tx_size (l : List UInt8) : (tx l).size = l.length := rfl
theorem dec_start (n : Nat) : Lib.decDigits n = (if n < 10 then [] else Lib.decDigits (n / 10)) ++ [digit n] := by
  rw [Lib.decDigits]
  split
  · rename_i h; rw [← digit_eq, Nat.mod_eq_of_lt h, List.nil_append]
  · rw [digit_eq]
theorem dec_step {n q : Nat} {l : List UInt8} (h : Lib.decDigits n = (if q < 10 then [] else Lib.decDigits (q / 10)) ++ l) (hq : ¬ q < 10) :
    Lib.decDigits n = (if q / 10 < 10 then [] else Lib.decDigits (q / 10 / 10)) ++ (digit (q / 10) :: l) := by
  rw [h, if_neg hq, dec_start (q / 10)]
  simp

set_option maxHeartbeats 1000000 in
set_option maxRecDepth 100000 in
theorem Decimal_calls (n : Nat) (w : World) (hn : n ≤ 9223372036854775807) :
    Calls Tryz.prog 122 #[.int .i64 (n : Int)] w fun e w' => e = .returned (.string (tx (Lib.decDigits n))) ∧ Below w.heap.size w w' := by
  have hc0 := conv_one (48 + (n : Int) % 10) (by omega) (by omega)
  go_enter Tryz.func122, Tryz.ntmps122
  go_wp2
  clear hc0
  go_loopw [0, 3] (fun q s wr => ∃ (q0 : Nat) (l : List UInt8), q0 ≤ n ∧ q = .int .i64 q0 ∧ s = .string (tx l) ∧ l.length ≤ 20 ∧ q0 < 10 ^ (20 - l.length) ∧ Hid (Lib.decDigits n = (if q0 < 10 then [] else Lib.decDigits (q0 / 10)) ++ l) ∧ Hid (Below w.heap.size w wr)) (fun q _ _ => (intOf q).toNat)
  case atStart => exact ⟨n, [digit n], Nat.le_refl _, rfl, by rw [← digit_eq], by simp, by simp; omega, dec_start n, (Below.refl _ _).alloc (Nat.le_refl _) _⟩
  case round =>
    obtain ⟨q0, l, hq, rfl, rfl, hl, hp, HR, HB⟩ := hrel
    by_cases hlt : q0 < 10
    · clear hp
      go_wp2
      go_ret
      have := HR.out
      rw [if_pos hlt, List.nil_append] at this
      exact ⟨ret_str (by rw [this]), HB.out⟩
    · have hc0 := conv_one (48 + ((q0 : Int) / 10) % 10) (by omega) (by omega)
      have HD := Lib.hid (dec_step HR.out hlt)
      have hl2 : l.length + 1 ≤ 20 := by
        rcases Nat.lt_or_ge l.length 20 with h | h
        · exact h
        · rw [show 20 - l.length = 0 by omega] at hp; simp at hp; omega
      have hp2 : q0 / 10 < 10 ^ (20 - (l.length + 1)) := by
        rw [show 20 - l.length = 20 - (l.length + 1) + 1 by omega, Nat.pow_succ] at hp
        omega
      have HP := Lib.hid hp2
      have hbs := tx_size
      clear hp hp2
      go_wp2
      go_roundw
      case rel => exact ⟨q0 / 10, digit (q0 / 10) :: l, by omega, by go_num, by rw [tx_append]; rfl, hl2, HP.out, HD.out, HB.out.alloc HB.out.size _⟩
      case measure => simp [intOf]; omega
end Go.Proofs.YtnmhicgbdalniaaGreatDoor
namespace Go.Proofs.YtnmhicgbdalniaaGreatDoor
open Go.RowKit

/-! How many placeholders go, of those that are alike: the plain law. -/
def ca : ByteArray := tx [97]
def cb : ByteArray := tx [98]
def cz : ByteArray := tx [122]
def cpu : ByteArray := tx [99, 112, 117]
/-- A cluster of two nodes, on which placeholders stand that need 1. -/
structure Two (s : St) : Prop where
  sound : Sound s
  nodes : s.nodes = [ndN ca 9, ndN cb 9]
  ones : ∀ q ∈ s.pods, q.hold = true ∧ q.need = [⟨cpu, 1⟩] ∧ q.name ≠ cz
theorem tot_ones : ∀ {l : List Pd}, (∀ q ∈ l, q.need = [⟨cpu, 1⟩]) → ∀ x, tot Pd.need l x = if cpu = x then (l.length : Int) else 0
  | [], _, x => by show (0 : Int) = _; split <;> rfl
  | q :: r, h, x => by
    show getA q.need x + tot Pd.need r x = _
    rw [h q (List.mem_cons_self ..), tot_ones (fun z hz => h z (List.mem_cons_of_mem _ hz)) x]
    show (if cpu = x then 1 else 0) + _ = _
    split <;> simp <;> omega
theorem Two.drop {s : St} (h : Two s) (name : ByteArray) : Two (dropS s name) :=
  ⟨h.sound.drop name, h.nodes, fun q hq => h.ones q (drop_mem.1 hq).1⟩
theorem Two.noz {s : St} (h : Two s) : dropS s cz = s := by
  unfold dropS
  have : s.pods.filter (fun p => !isNm cz p) = s.pods := List.filter_eq_self.2 fun q hq => by
    have : isNm cz q = false := decide_eq_false (h.ones q hq).2.2
    rw [this]; rfl
  rw [this]
theorem pdz_need (n : Int) (hn : 0 < n) : GoodV (pdP cz n ⟨#[]⟩).need :=
  ⟨by show 1 ≤ 8; decide, fun x hx => by
    obtain rfl : x = ⟨cpu, n⟩ := by simpa [pdP, cpu] using hx
    exact ⟨(by decide : isName cpu = true), hn⟩, List.pairwise_singleton _ _⟩
theorem two_free {s : St} (h : Two s) {n : Int} (hn : 0 < n) {m : ByteArray} (hm : ndN m 9 ∈ s.nodes) :
    (freeV s m).2 = 0 ∧ (fitsV [⟨cpu, n⟩] (freeV s m).1 = true ↔ ((onAt s m).length : Int) + n ≤ 9) := by
  obtain ⟨v, e, hv⟩ := h.sound.free hm
  have ht := tot_ones (l := onAt s m) (fun q hq => (h.ones q (List.mem_filter.1 hq).1).2.1)
  have e' : freeV s m = (v, 0) := e
  rw [e']
  refine ⟨rfl, ?_⟩
  have hv' : ∀ x, getA v x = getA [⟨cpu, 9⟩] x - if cpu = x then ((onAt s m).length : Int) else 0 := fun x => by
    rw [← ht x]; exact hv x
  unfold fitsV
  rw [List.all_cons, List.all_nil, Bool.and_true, decide_eq_true_eq, hv' cpu, if_pos rfl, show getA [⟨cpu, 9⟩] cpu = 9 by decide]
  show n ≤ _ ↔ _
  omega
theorem two_fit {s : St} (h : Two s) {n : Int} (hn : 0 < n) {m : ByteArray} (hm : ndN m 9 ∈ s.nodes) : fitV s (pdP cz n ⟨#[]⟩) m = 0 ↔ ((onAt s m).length : Int) + n ≤ 9 := by
  have hd : fitV s (pdP cz n ⟨#[]⟩) m = fitD s (pdP cz n ⟨#[]⟩) m := by
    show fitD (dropS s cz) _ _ = _
    rw [h.noz]
  have hf : findV s.nodes m = (ndN m 9, true) := h.sound.find hm
  obtain ⟨f1, f2⟩ := two_free h hn hm
  rw [hd]
  constructor
  · intro k
    exact f2.1 (fitD_says k).2.2.2.2.2
  · intro k
    refine fitD_mk (by rw [hf]) (by rw [hf]; rfl) (by rw [hf]; rfl) ?_ f1 (f2.2 k)
    unfold skewOk
    rfl
theorem onAt_head {s : St} (ha : Apart s.pods) {m : ByteArray} {x : Pd} {r : List Pd} (h : onAt s m = x :: r) : onAt (dropS s x.name) m = r := by
  have h1 : onAt (dropS s x.name) m = (onAt s m).filter fun p => !isNm x.name p := by
    unfold onAt dropS
    simp only [List.filter_filter]
    congr 1
    funext q
    exact Bool.and_comm _ _
  have h2 : Apart (onAt s m) := ha.sublist List.filter_sublist
  rw [h1, h] at *
  obtain ⟨a1, -⟩ := List.pairwise_cons.1 h2
  rw [List.filter_cons_of_neg (by simp [isNm])]
  exact List.filter_eq_self.2 fun z hz => by
    have : isNm x.name z = false := decide_eq_false fun k => a1 z hz k.symm
    rw [this]; rfl
theorem two_go {n : Int} (hn : 0 < n) {m : ByteArray} : ∀ (l : List Pd) (s : St) (out : List ByteArray), Two s → ndN m 9 ∈ s.nodes → onAt s m = l → ¬ ((l.length : Int) + n ≤ 9) →
    (n ≤ 9 → (onGo fitV (pdP cz n ⟨#[]⟩) m s l out).2 = true ∧ ((onGo fitV (pdP cz n ⟨#[]⟩) m s l out).1.length : Int) = out.length + (l.length + n - 9)) ∧ (9 < n → (onGo fitV (pdP cz n ⟨#[]⟩) m s l out).2 = false)
  | [], s, out, _, _, _, hl => ⟨fun h => absurd (by simpa using h) hl, fun _ => rfl⟩
  | x :: r, s, out, ht, hm, he, hl => by
    have hx : x ∈ s.pods := (List.mem_filter.1 (show x ∈ s.pods.filter (onB m) by show x ∈ onAt s m; rw [he]; exact List.mem_cons_self ..)).1
    have hr := onAt_head ht.sound.apart he
    have hd := ht.drop x.name
    have hm' : ndN m 9 ∈ (dropS s x.name).nodes := hm
    have hf := two_fit hd hn hm'
    rw [hr] at hf
    unfold onGo
    rw [if_pos (ht.ones x hx).1]
    simp only [List.length_cons, Int.natCast_add, Int.natCast_one] at hl ⊢
    by_cases h0 : fitV (dropS s x.name) (pdP cz n ⟨#[]⟩) m = 0
    · have k := hf.1 h0
      rw [if_pos h0]
      refine ⟨fun _ => ⟨rfl, ?_⟩, fun h => by omega⟩
      simp only [List.length_append, List.length_cons, List.length_nil]
      omega
    · have k : ¬ ((r.length : Int) + n ≤ 9) := fun k => h0 (hf.2 k)
      rw [if_neg h0]
      obtain ⟨i1, i2⟩ := two_go hn r (dropS s x.name) (out ++ [x.name]) hd hm' hr k
      refine ⟨fun h => ⟨(i1 h).1, ?_⟩, i2⟩
      rw [(i1 h).2]
      simp only [List.length_append, List.length_cons, List.length_nil]
      omega
theorem two_on {s : St} (ht : Two s) {n : Int} (hn : 0 < n) {m : ByteArray} (hm : ndN m 9 ∈ s.nodes) (hne : emptyB m = false) :
    (n ≤ 9 → (onW fitV s (pdP cz n ⟨#[]⟩) m).2 = true ∧ ((onW fitV s (pdP cz n ⟨#[]⟩) m).1.length : Int) = max 0 ((onAt s m).length + n - 9)) ∧ (9 < n → (onW fitV s (pdP cz n ⟨#[]⟩) m).2 = false) := by
  have hf := two_fit ht hn hm
  have ho : onV s m = onAt s m := by
    rw [onV_eq]
    unfold onAt
    congr 1
    funext q
    unfold onP onB
    rw [hne]; simp
  unfold onW
  by_cases h0 : fitV s (pdP cz n ⟨#[]⟩) m = 0
  · have k := hf.1 h0
    rw [if_pos h0]
    refine ⟨fun _ => ⟨rfl, ?_⟩, fun h => by omega⟩
    simp only [List.length_nil]
    omega
  · have k : ¬ (((onAt s m).length : Int) + n ≤ 9) := fun k => h0 (hf.2 k)
    rw [if_neg h0, ho]
    obtain ⟨i1, i2⟩ := two_go hn (onAt s m) s [] ht hm rfl k
    refine ⟨fun h => ⟨(i1 h).1, ?_⟩, i2⟩
    rw [(i1 h).2]
    simp only [List.length_nil]
    omega
theorem two_for {s : St} (ht : Two s) {n : Int} (hn : 0 < n) {x y : Nat} (hx : (onAt s ca).length = x) (hy : (onAt s cb).length = y) :
    (9 < n → forW fitV s (pdP cz n ⟨#[]⟩) = (zWy, false)) ∧
    (n ≤ 9 → (forW fitV s (pdP cz n ⟨#[]⟩)).2 = true ∧ (forW fitV s (pdP cz n ⟨#[]⟩)).1.pod = cz ∧ (forW fitV s (pdP cz n ⟨#[]⟩)).1.to_ = (if max 0 ((y : Int) + n - 9) < max 0 ((x : Int) + n - 9) then cb else ca) ∧
      ((forW fitV s (pdP cz n ⟨#[]⟩)).1.holds.length : Int) = min (max 0 ((x : Int) + n - 9)) (max 0 ((y : Int) + n - 9))) := by
  obtain ⟨a1, a2⟩ := two_on ht hn (m := ca) (by rw [ht.nodes]; simp) (by decide)
  obtain ⟨b1, b2⟩ := two_on ht hn (m := cb) (by rw [ht.nodes]; simp) (by decide)
  have hw : forW fitV s (pdP cz n ⟨#[]⟩) = betterW (pdP cz n ⟨#[]⟩) cb (betterW (pdP cz n ⟨#[]⟩) ca (zWy, false) (onW fitV s (pdP cz n ⟨#[]⟩) ca)) (onW fitV s (pdP cz n ⟨#[]⟩) cb) := by
    unfold forW
    rw [if_neg (by show ¬ false = true; decide), ht.nodes]; rfl
  rw [hw]
  generalize onW fitV s (pdP cz n ⟨#[]⟩) ca = A at *
  generalize onW fitV s (pdP cz n ⟨#[]⟩) cb = B at *
  obtain ⟨A1, A2⟩ := A
  obtain ⟨B1, B2⟩ := B
  rw [hx] at a1
  rw [hy] at b1
  constructor
  · intro h
    obtain rfl : A2 = false := a2 h
    obtain rfl : B2 = false := b2 h
    rfl
  · intro h
    obtain ⟨e1, l1⟩ := a1 h
    obtain ⟨e2, l2⟩ := b1 h
    simp only at e1 e2 l1 l2
    subst e1 e2
    have hA : betterW (pdP cz n ⟨#[]⟩) ca (zWy, false) (A1, true) = (⟨cz, ca, A1⟩, true) := rfl
    rw [hA]
    unfold betterW
    simp only [Bool.not_true, Bool.false_or, Bool.true_and, decide_eq_true_eq]
    by_cases hlt : B1.length < A1.length
    · rw [if_pos hlt, if_pos (by omega)]
      exact ⟨rfl, rfl, rfl, by show (B1.length : Int) = _; omega⟩
    · rw [if_neg hlt, if_neg (by omega)]
      exact ⟨rfl, rfl, rfl, by show (A1.length : Int) = _; omega⟩
end Go.Proofs.YtnmhicgbdalniaaGreatDoor
namespace Go.Proofs.YtnmhicgbdalniaaGreatDoor
open Go.RowKit Go.Sort Go.Lib

/-! sched.Pending. -/
theorem pend_snoc {l : List Pd} {k : Nat} (h : k < l.length) : (l.take (k + 1)).filter pendB = (l.take k).filter pendB ++ (if pendB l[k] = true then [l[k]] else []) := by
  rw [List.take_succ_eq_append_getElem h, List.filter_append]
  congr 1
  cases hp : pendB l[k] <;> simp [hp]
theorem pend_le (l : List Pd) (k : Nat) : ((l.take k).filter pendB).length ≤ k := Nat.le_trans (List.length_filter_le _ _) (by rw [List.length_take]; omega)
theorem pod_ones : ∀ h x cs, Kd.pod.K h x cs → ∀ v ∈ cs, v.oneCell' = true := by
  rintro h x cs ⟨B1, d1, B2, d2, B3, d3, B4, d4, rfl, -⟩ v hv
  simp at hv
  rcases hv with rfl | rfl | rfl | rfl | rfl | rfl | rfl | rfl | rfl | rfl | rfl <;> rfl
theorem eg_compare : ∀ args w, (callFunc 93 args).run Tryz.prog w = .ok (.enter 93 args) w := enters_of Tryz.func93 (by kernel_rfl) rfl
theorem sortPods_calls {w : World} {base : Nat} {ty : TypeId} {v : Value} {xs : List Pd} (ho : Kd.pod.Own w base ty 0 v xs) (hl : xs.length ≤ 1000) :
    Calls Tryz.prog 92 #[v, .func (.func 93) #[] #[]] w fun e w' => e = .returned (.tuple #[]) ∧ ∃ ys, Sorted cmpP xs ys ∧ Kd.pod.S (vw w' []) v ys ∧ Below base w w' :=
  sort_own Tryz.sortPod (d := Kd.pod) Tryz.isAgg35 Tryz.sizeOf35 (by decide) pod_ones cmpP prio_swo 93 eg_compare
    (fun W x y cx cy hx hy => Compare_grow _ _ x y W ⟨cx, rfl, hx⟩ ⟨cy, rfl, hy⟩) ho (by omega)
set_option maxHeartbeats 8000000 in
set_option maxRecDepth 100000 in
theorem Pending_calls (vs : Value) (s : St) (w : World) (hs : Kd.state.V (vw w []) vs s) (hpn : s.pods.length ≤ 1000) (hap : Apart s.pods) :
    Calls Tryz.prog 30 #[vs] w (PodsDone (pendV s) w) := by
  obtain ⟨i0, hi, hz0, hz1, hz2⟩ := info_parts info_pod
  obtain ⟨cs, rfl, hks⟩ := hs
  obtain ⟨A1, c1, A2, c2, A3, c3, rfl, -, s2, -⟩ := hks
  obtain ⟨-, f2, f2'⟩ := s2.form
  have S2 := Lib.hid s2
  have HAP := Lib.hid hap
  clear s2 hap
  go_enter Tryz.func30, Tryz.ntmps30
  go_upto_region 1 with fail
  have hbw := alloc_below w (.cells #[.slice A1 s.nodes.length c1, .slice A2 s.pods.length c2, .slice A3 s.budgets.length c3] 26)
  have hk := blk_last w (.cells #[.slice A1 s.nodes.length c1, .slice A2 s.pods.length c2, .slice A3 s.budgets.length c3] 26)
  generalize w.alloc (.cells #[.slice A1 s.nodes.length c1, .slice A2 s.pods.length c2, .slice A3 s.budgets.length c3] 26) = W at hbw hk ⊢
  obtain ⟨z, zf⟩ := blk_all hk
  have HBW := Lib.hid hbw
  clear hbw hk
  go_wp2
  clear z zf
  go_loopw [3, 9] (fun o i wr => ∃ k : Nat, k ≤ s.pods.length ∧ i = .int .i64 k ∧ Hid (Kd.pod.Own wr w.heap.size 35 0 o ((s.pods.take k).filter pendB)) ∧ Hid (Below w.heap.size w wr)) (fun _ i _ => s.pods.length - (intOf i).toNat)
  case atStart => exact ⟨0, Nat.zero_le _, rfl, Kd.Own.nil _ _ _ _ _, HBW.out⟩
  case round =>
    obtain ⟨k, hk, rfl, HO, HB⟩ := hrel
    by_cases hlt : k < s.pods.length
    · have hsn := pend_snoc hlt
      have hle := pend_le s.pods k
      obtain ⟨b, off, cs, rfl, hn, hc⟩ := S2.out.both HB.out k hlt
      obtain ⟨x, hx⟩ : ∃ x, s.pods[k] = x := ⟨_, rfl⟩
      obtain ⟨out, hout⟩ : ∃ out, (s.pods.take k).filter pendB = out := ⟨_, rfl⟩
      rw [hx] at hn hsn
      rw [hout] at hsn hle HO
      have HKX := Lib.hid hn
      obtain ⟨B1, d1, B2, d2, B3, d3, B4, d4, rfl, -⟩ := hn
      have HC : Hid (wr.rangeAt b (off + k * 11) _) := hc
      have HSN := Lib.hid hsn
      have e1 := empty_beq x.node
      have hon : pendB x = (decide (x.node = ⟨#[]⟩) && !x.hold) := rfl
      obtain ⟨a, ha⟩ : ∃ a, decide (x.node = ⟨#[]⟩) = a := ⟨_, rfl⟩
      obtain ⟨d, hd⟩ : ∃ d, x.hold = d := ⟨_, rfl⟩
      rw [ha] at e1 hon
      rw [hd] at hon HC
      have HON := Lib.hid hon
      clear hc hsn hx hout ha hon
      have HB2 : Hid (Below w.heap.size w (wr.alloc (.cells #[.string x.name, .string x.owner, .int .i64 x.prio, .slice B1 x.need.length d1, .slice B2 x.labels.length d2, .slice B3 x.sel.length d3, .slice B4 x.tols.length d4, .string x.key, .int .i64 x.most, .string x.node, .bool d] 35))) := Below.then HB.out (alloc_below _ _)
      have HO2 := Lib.hid (HO.out.below (alloc_below wr (.cells #[.string x.name, .string x.owner, .int .i64 x.prio, .slice B1 x.need.length d1, .slice B2 x.labels.length d2, .slice B3 x.sel.length d3, .slice B4 x.tols.length d4, .string x.key, .int .i64 x.most, .string x.node, .bool d] 35)))
      have hy := blk_last wr (.cells #[.string x.name, .string x.owner, .int .i64 x.prio, .slice B1 x.need.length d1, .slice B2 x.labels.length d2, .slice B3 x.sel.length d3, .slice B4 x.tols.length d4, .string x.key, .int .i64 x.most, .string x.node, .bool d] 35)
      go_upto_region 5 with (with_reducible refine wpList_load_mid rfl 35 _ rfl b (off + k * 11) rfl _ _ HC.out Tryz.underlying35 rfl (by kernel_rfl) ?_)
      generalize wr.alloc (.cells #[.string x.name, .string x.owner, .int .i64 x.prio, .slice B1 x.need.length d1, .slice B2 x.labels.length d2, .slice B3 x.sel.length d3, .slice B4 x.tols.length d4, .string x.key, .int .i64 x.most, .string x.node, .bool d] 35) = W1 at HB2 HO2 hy ⊢
      obtain ⟨y, yf⟩ := blk_all hy
      have HXH := Lib.hid hd
      clear hy HO HB HC hd
      have hsz := HB2.out.size
      cases a with
      | false =>
        have hn : pendB x = false := by rw [HON.out]; rfl
        have HS : Hid ((s.pods.take (k + 1)).filter pendB = out) := by
          show _ = _
          rw [HSN.out, hn]; simp
        clear hn
        go_wp2
        go_roundw
        case rel => exact ⟨k + 1, by omega, by go_num, by rw [HS.out]; exact HO2.out, HB2.out⟩
        case measure => simp [intOf]; omega
      | true =>
        cases d with
        | true =>
          have hn : pendB x = false := by rw [HON.out]; rfl
          have HS : Hid ((s.pods.take (k + 1)).filter pendB = out) := by
            show _ = _
            rw [HSN.out, hn]; simp
          clear hn
          go_wp2
          go_roundw
          case rel => exact ⟨k + 1, by omega, by go_num, by rw [HS.out]; exact HO2.out, HB2.out⟩
          case measure => simp [intOf]; omega
        | false =>
          have hn : pendB x = true := by rw [HON.out]; rfl
          have HS : Hid ((s.pods.take (k + 1)).filter pendB = out ++ [x]) := by
            show _ = _
            rw [HSN.out, hn]; simp
          clear hn
          rw [HXH.out] at HKX
          have HRO := Lib.hid (own_ge HO2.out)
          go_wp2_with (at_builtin; go_must (refine wpList_own (d := Kd.pod) (x := x) _ w.heap.size 0 23 35 i0 _ 184 Tryz.underlying23 hi hz0 hz1 hz2 rfl (by decide) _ out _ (HO2.out.below (alloc_below _ _)) (Kd.pod.mono (vw_own (Below.then HB2.out (alloc_below _ _)) HRO.out) HKX.out) _ 1 35 (blk_last _ _) (by simp [Value.oneCell']) (by simp only [maxLen]; omega) (by omega) (by simp; omega) _ _ rfl rfl rfl rfl ?_))
          intro v2 w2 ho2 hg2
          have HO3 := Lib.hid ho2
          have HB3 : Hid (Below w.heap.size w w2) := grown_then HB2.out (alloc_below _ _) hg2 HRO.out
          clear ho2 hg2 y yf
          go_wp2
          go_roundw
          case rel => exact ⟨k + 1, by omega, by go_num, by rw [HS.out]; exact HO3.out, HB3.out⟩
          case measure => simp [intOf]; omega
    · obtain rfl : k = s.pods.length := by omega
      have ho := HO.out
      rw [List.take_length] at ho
      have hl := pend_le s.pods s.pods.length
      rw [List.take_length] at hl
      have HO2 := Lib.hid ho
      clear ho HO
      go_wp2_with fail
      refine (sortPods_calls HO2.out (by omega)).mono ?_
      rintro e w2 ⟨rfl, ys, hs, hv, hb⟩
      have hy := pend_one HAP.out hs
      subst hy
      obtain ⟨G, gc, rfl, hS⟩ := hv.val
      have HS := Lib.hid hS
      have HB2 := Lib.hid (HB.out.trans hb)
      clear hS hv hs hb hl
      go_wp2
      go_ret
      exact ⟨G, gc, rfl, HS.out, HB2.out⟩
end Go.Proofs.YtnmhicgbdalniaaGreatDoor
