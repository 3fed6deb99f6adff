import Derived.Test.YtnmhicgbdalniaaGreatDoorMa1
import Derived.Test.YtnmhicgbdalniaaGreatDoorMa4
import Derived.Test.YtnmhicgbdalniaaGreatDoorMa5
import Derived.Test.YtnmhicgbdalniaaGreatDoorMa6
import Derived.Test.YtnmhicgbdalniaaGreatDoorMa7
import Derived.Shelf.SlSortCmp.NoneTotal
import Derived.StillTailTactics
import Derived.Deep.RegionHeld3
namespace Go.Proofs.YtnmhicgbdalniaaGreatDoor
open Go.RowKit Go.Shelf Go.Lib Go.Sort

/-! slices.SortFunc over a row of the call's own, of elements of any kind. -/
theorem list_choice {β : Type} (Q : Nat → β → Prop) : ∀ n, (∀ i, i < n → ∃ e, Q i e) → ∃ zs : List β, zs.length = n ∧ ∀ (i : Nat) (e : β), zs[i]? = some e → Q i e
  | 0, _ => ⟨[], rfl, fun i e h => by simp at h⟩
  | n + 1, h => by
    obtain ⟨zs, h1, h2⟩ := list_choice Q n (fun i hi => h i (by omega))
    obtain ⟨e, he⟩ := h n (by omega)
    refine ⟨zs ++ [e], by simp [h1], fun i x hx => ?_⟩
    rcases Nat.lt_or_ge i zs.length with hlt | hge
    · rw [List.getElem?_append_left hlt] at hx
      exact h2 i x hx
    · rw [List.getElem?_append_right hge] at hx
      have hi : i = n := by
        have := (List.getElem?_eq_some_iff.1 hx).1
        simp at this; omega
      subst hi
      rw [h1, Nat.sub_self] at hx
      obtain rfl : e = x := by simpa using hx
      exact he
theorem heap_sortWorldK {β : Type} [Inhabited β] (enc : β → List Value) (k : Nat) (w : World) (blk off n : Nat) (d : Array β) (os : Array Obj) {b : Nat} (hb : b < w.heap.size) (hne : b ≠ blk) :
    (sortWorldK enc k w blk off n d os).heap[b]? = w.heap[b]? := by
  unfold sortWorldK
  rw [heap_grow_old _ _ (by simp [putRowK, putRow, mapBlock, Sort.ahead]; exact hb)]
  simp [putRowK, putRow, mapBlock, Sort.ahead, Array.getElem?_modify, Ne.symm hne]
/-- A row, its elements in another order. -/
def Sorted {α : Type} (cf : α → α → Int) (xs ys : List α) : Prop := ys.Perm xs ∧ ys.Pairwise fun a b => ltOf cf b a = false
theorem pairwise_of {α : Type} [Inhabited α] {lt : α → α → Bool} {d : Array α} (h : SortedIn lt 0 d.size d) : d.toList.Pairwise fun a b => lt b a = false := by
  rw [List.pairwise_iff_getElem]
  intro i j hi hj hij
  have := h i j (Nat.zero_le _) hij (by simpa using hj)
  rw [getElem!_pos d j (by simpa using hj), getElem!_pos d i (by simpa using hi)] at this
  simpa using this
theorem perm_of {α : Type} [Inhabited α] {d d' : Array α} (h : PermIn 0 d.size d d') : d'.toList.Perm d.toList := by
  obtain ⟨h1, _, h2⟩ := h
  have e1 : d'.extract 0 d.size = d' := by rw [← h1]; simp
  have e2 : d.extract 0 d.size = d := by simp
  rwa [e1, e2] at h2
section
variable {P : Program} {ρ : Ren} {α : Type} {d : Kd α}
theorem sort_own (L : SlLaysF0.n6 P ρ) (aE : ∀ w, (isAgg (ρ.t 24)).run P w = .ok true w) (zE : ∀ w, (Go.sizeOf (ρ.t 24)).run P w = .ok d.sz w) (hz : 0 < d.sz) (h1 : ∀ h x cs, d.K h x cs → ∀ v ∈ cs, v.oneCell' = true)
    (cf : α → α → Int) (hO : SWO (ltOf cf)) (g : Nat) (eg : ∀ args w, (callFunc g args).run P w = .ok (.enter g args) w)
    (hcmp : ∀ (W : World) (x y : α) (cx cy : List Value), d.K (vw W []) x cx → d.K (vw W []) y cy → Calls P g #[.agg cx.toArray, .agg cy.toArray] W fun e w' => e = .returned (.int .i64 (cf x y)) ∧ ∃ q os, w' = grow (W.drewN q) os)
    {w : World} {base : Nat} {ty : TypeId} {v : Value} {xs : List α} (ho : d.Own w base ty 0 v xs) (hlen : xs.length ≤ 140737488351232) :
    Calls P (ρ.f 6) #[v, .func (.func g) #[] #[]] w fun e w' => e = .returned (.tuple #[]) ∧ ∃ ys, Sorted cf xs ys ∧ d.S (vw w' []) v ys ∧ Below base w w' := by
  obtain ⟨css, k1, k2, k3⟩ := ho
  have hl := k3.2
  rcases hl with ⟨rfl, h0⟩ | ⟨b, cap, cur, rfl, hg, hh, hn, hc, hs, ht⟩
  · obtain rfl : xs = [] := List.eq_nil_of_length_eq_zero h0
    refine (AnyF.slices_SortFunc_none L none 0 _ w).mono ?_
    rintro e w' ⟨rfl, rfl⟩
    exact ⟨rfl, [], ⟨List.Perm.refl _, List.Pairwise.nil⟩, Kd.S.nil _ _, Below.refl _ _⟩
  · rcases Nat.eq_zero_or_pos xs.length with hx0 | hx0
    · obtain rfl : xs = [] := List.eq_nil_of_length_eq_zero hx0
      refine (AnyF.slices_SortFunc_none L _ cap _ w).mono ?_
      rintro e w' ⟨rfl, rfl⟩
      exact ⟨rfl, [], ⟨List.Perm.refl _, List.Pairwise.nil⟩, Kd.S.empty _ _ _ _ (fun e => by cases e), Below.refl _ _⟩
    · have hlen' : ∀ c ∈ css, c.length = d.sz := fun c hc => by
        obtain ⟨j, hj, rfl⟩ := List.getElem_of_mem hc
        obtain ⟨cs, a, b⟩ := k2 j xs[j] (List.getElem?_eq_getElem (by omega))
        rw [List.getElem?_eq_getElem hj] at a
        injection a with a
        rw [a]; exact d.len b
      obtain ⟨zs, z1, z2⟩ := list_choice (fun i (e : Elt d (nx w 0 (some b))) => xs[i]? = some e.x ∧ css[i]? = some e.cs) xs.length (fun i hi => by
        obtain ⟨cs, a, k⟩ := k2 i xs[i] (List.getElem?_eq_getElem hi)
        exact ⟨⟨xs[i], cs, k⟩, List.getElem?_eq_getElem hi, a⟩)
      have hpos : 0 < zs.length := by omega
      haveI : Inhabited (Elt d (nx w 0 (some b))) := ⟨zs[0]⟩
      have hmap : zs.map Elt.x = xs := by
        refine List.ext_getElem? fun i => ?_
        rw [List.getElem?_map]
        rcases Nat.lt_or_ge i zs.length with hi | hi
        · rw [List.getElem?_eq_getElem hi]
          exact (z2 i _ (List.getElem?_eq_getElem hi)).1.symm
        · rw [List.getElem?_eq_none hi, List.getElem?_eq_none (by omega)]; rfl
      have hblk := blk_lt hh
      have hfr : ∀ x, w.frozen? ⟨b, x, none⟩ = false := fun x => by simp [World.frozen?, hh]
      have hH : HoldsK (fun e : Elt d (nx w 0 (some b)) => e.cs) d.sz w b 0 zs.toArray := by
        intro t ht'
        rw [size_flatK] at ht'
        have hq : t / d.sz < zs.length := (Nat.div_lt_iff_lt_mul hz).2 (by simpa using ht')
        have hr : t % d.sz < d.sz := Nat.mod_lt _ hz
        refine ⟨?_, hfr _⟩
        rw [get_flatK _ _ _ _ ht', Nat.zero_add]
        obtain ⟨y1, y2⟩ := z2 _ _ (List.getElem?_eq_getElem hq)
        have hcs : (zs[t / d.sz]).cs.length = d.sz := d.len (zs[t / d.sz]).ok
        have h4 := flatten_get css hlen' (t / d.sz) (t % d.sz) _ y2 hr
        rw [Nat.mul_comm, Nat.div_add_mod, ← ht, List.getElem?_take, if_pos (by simpa [z1] using ht')] at h4
        have e1 : (zs.toArray)[t / d.sz]! = zs[t / d.sz] := by rw [getElem!_pos _ _ (by simpa using hq)]; simp
        rw [e1, cell_of_row w b t cur ty (0, 0) (by simpa using hh)]
        have h5 : (zs[t / d.sz]).cs[t % d.sz]? = some ((zs[t / d.sz]).cs[t % d.sz]'(by omega)) := List.getElem?_eq_getElem _
        rw [h5] at h4
        rw [getElem!_pos _ _ (by omega)]
        simpa using h4
      have hC : CmpLays P g #[] (fun e : Elt d (nx w 0 (some b)) => e.cs) d.sz (fun x y => cf x.x y.x) b 0 zs.toArray.size w := by
        intro m os dk hds x y
        have hle : (nx w 0 (some b)).le (vw (sortWorldK (fun e : Elt d (nx w 0 (some b)) => e.cs) d.sz w b 0 m dk os) []) := fun q o hq => by
          obtain ⟨q1, q2, q3⟩ := nx_eq hq
          exact vw_mk (by simp) ((heap_sortWorldK _ _ w b 0 m dk os (blk_lt q3) (fun e => q2 (by rw [e]))).trans q3)
        exact (hcmp _ x.x y.x x.cs y.cs (d.mono hle x.ok) (d.mono hle y.ok)).mono fun e w' ⟨he, q, os', hw⟩ => ⟨he, q, os', hw⟩
      have hO' : SWO (ltOf fun x y : Elt d (nx w 0 (some b)) => cf x.x y.x) := ⟨fun x => hO.irrefl x.x, fun x y z => hO.trans x.x y.x z.x, fun x y z => hO.ntrans x.x y.x z.x⟩
      have hcon := AnyQ.slices_SortFunc L d.sz aE zE (fun e : Elt d (nx w 0 (some b)) => e.cs) (fun e => d.len e.ok) (fun e => h1 _ e.x e.cs e.ok) (fun x y => cf x.x y.x) hO' g #[] b 0 cap zs.toArray w eg hC hH hblk (by simp; omega)
      rw [show zs.toArray.size = xs.length by simpa using z1] at hcon
      refine hcon.mono ?_
      rintro e w' ⟨rfl, d', n, os, hp, hs', rfl⟩
      rw [show xs.length = zs.toArray.size by simp [z1]] at hp hs'
      have hsz' := hp.1
      have hpm := perm_of hp
      have hso := pairwise_of (show SortedIn _ 0 d'.size d' by rw [hsz']; exact hs')
      have hHH := holdsK_sortWorldK_c (fun e : Elt d (nx w 0 (some b)) => e.cs) d.sz w b 0 zs.toArray d' n os hH hblk hsz'
      have hle : (nx w 0 (some b)).le (vw (sortWorldK (fun e : Elt d (nx w 0 (some b)) => e.cs) d.sz w b 0 n d' os) []) := fun q o hq => by
        obtain ⟨q1, q2, q3⟩ := nx_eq hq
        exact vw_mk (by simp) ((heap_sortWorldK _ _ w b 0 n d' os (blk_lt q3) (fun e => q2 (by rw [e]))).trans q3)
      have hdl : d'.toList.length = xs.length := by have := hpm.length_eq; simpa [z1] using this
      refine ⟨rfl, d'.toList.map Elt.x, ⟨?_, ?_⟩, ?_, ?_⟩
      · have := hpm.map Elt.x
        simpa [hmap] using this
      · rw [List.pairwise_map]
        exact hso
      · refine ⟨_, cap, by rw [List.length_map, hdl], by rw [List.length_map, hdl]; exact hn, by rw [List.length_map, hdl]; exact hlen, fun e => (by cases e), fun _ => ⟨b, 0, rfl, fun j x hx => ?_⟩⟩
        rw [List.getElem?_map] at hx
        rcases Nat.lt_or_ge j d'.toList.length with hj | hj
        · rw [List.getElem?_eq_getElem hj] at hx
          simp only [Option.map_some, Option.some.injEq] at hx
          subst hx
          refine ⟨_, d.mono hle (d'.toList[j]).ok, fun i u hu => ?_⟩
          have hi : i < d.sz := by have := (List.getElem?_eq_some_iff.1 hu).1; rw [d.len (d'.toList[j]).ok] at this; exact this
          have hc := (HoldsK.cell hHH (i := j) (c := i) (by simpa using hj) hi).1
          have e1 : d'[j]! = d'.toList[j] := by rw [getElem!_pos d' j (by simpa using hj)]; simp
          rw [e1, getElem!_pos _ i (by rw [d.len (d'.toList[j]).ok]; exact hi)] at hc
          rw [List.getElem?_eq_getElem (by rw [d.len (d'.toList[j]).ok]; exact hi)] at hu
          injection hu with hu
          rw [hu] at hc
          exact (Kd.vw_cell hc)
        · rw [List.getElem?_eq_none hj] at hx; cases hx
      · refine ⟨?_, ?_, ?_, ?_, fun k hk => heap_sortWorldK _ _ w b 0 n d' os (by omega) (by omega)⟩
        · rfl
        · rfl
        · rfl
        · exact size_sortWorldK_c _ _ _ _ _ _ _ _
end
end Go.Proofs.YtnmhicgbdalniaaGreatDoor
namespace Go.Proofs.YtnmhicgbdalniaaGreatDoor
open Go.RowKit Go.Sort Go.Lib

/-! Which pods are nowhere, in their order: the plain law. -/
theorem cmpB_neg : ∀ a b : List UInt8, compareBytes a b < 0 ↔ a < b
  | [], [] => by simp [compareBytes]
  | [], _ :: _ => by simp [compareBytes]
  | _ :: _, [] => by simp [compareBytes]
  | x :: a, y :: b => by
    have hc : compareBytes (x :: a) (y :: b) = if x < y then -1 else if y < x then 1 else compareBytes a b := rfl
    rw [List.cons_lt_cons_iff, ← cmpB_neg a b, hc]
    by_cases h1 : x < y
    · simp [h1]
    · by_cases h2 : y < x
      · have : x ≠ y := fun e => by subst e; exact h1 h2
        simp [h1, h2, this]
      · have : x = y := Std.le_antisymm (Std.not_lt.1 h2) (Std.not_lt.1 h1)
        simp [this]
def prioLt (a b : Pd) : Bool := decide (b.prio < a.prio) || (decide (a.prio = b.prio) && ltS a.name b.name)
theorem prioLt_eq (a b : Pd) : ltOf cmpP a b = prioLt a b := by
  unfold ltOf cmpP prioLt or2 compareInt ltS
  by_cases h1 : b.prio < a.prio
  · simp [h1]
  · by_cases h2 : b.prio > a.prio
    · simp [h1, h2, show ¬ a.prio = b.prio by omega]
    · have h3 : a.prio = b.prio := by omega
      simp [h3, cmpB_neg]
theorem prioLt_iff (a b : Pd) : prioLt a b = true ↔ b.prio < a.prio ∨ (a.prio = b.prio ∧ bs a.name < bs b.name) := by
  unfold prioLt ltS bs
  simp
theorem prioLt_not (a b : Pd) : prioLt a b = false ↔ a.prio < b.prio ∨ (a.prio = b.prio ∧ bs b.name ≤ bs a.name) := by
  rw [← Bool.not_eq_true, prioLt_iff, not_or, not_and, List.not_lt]
  constructor
  · rintro ⟨h1, h2⟩
    rcases Int.lt_or_eq_of_le (Int.not_lt.1 h1) with h | h
    · exact .inl h
    · exact .inr ⟨h, h2 h⟩
  · rintro (h | ⟨h1, h2⟩)
    · exact ⟨by omega, fun e => by omega⟩
    · exact ⟨by omega, fun _ => h2⟩
theorem prio_swo : SWO (ltOf cmpP) where
  irrefl x := by
    rw [prioLt_eq, prioLt_not]
    exact .inr ⟨rfl, List.le_refl _⟩
  trans x y z h1 h2 := by
    rw [prioLt_eq, prioLt_iff] at *
    rcases h1 with h1 | ⟨h1, k1⟩ <;> rcases h2 with h2 | ⟨h2, k2⟩
    · exact .inl (by omega)
    · exact .inl (by omega)
    · exact .inl (by omega)
    · exact .inr ⟨by omega, List.lt_trans k1 k2⟩
  ntrans x y z h1 h2 := by
    rw [prioLt_eq, prioLt_not] at *
    rcases h1 with h1 | ⟨h1, k1⟩ <;> rcases h2 with h2 | ⟨h2, k2⟩
    · exact .inl (by omega)
    · exact .inl (by omega)
    · exact .inl (by omega)
    · exact .inr ⟨by omega, List.le_trans k2 k1⟩
def insP (p : Pd) : List Pd → List Pd
  | [] => [p]
  | x :: r => if prioLt p x = true then p :: x :: r else x :: insP p r
def sortP (l : List Pd) : List Pd := l.foldl (fun out p => insP p out) []
theorem insP_perm (p : Pd) : ∀ l, (insP p l).Perm (p :: l)
  | [] => List.Perm.refl _
  | x :: r => by
    unfold insP
    split
    · exact List.Perm.refl _
    · exact ((insP_perm p r).cons x).trans (List.Perm.swap p x r)
abbrev Ordered (l : List Pd) : Prop := l.Pairwise fun a b => ltOf cmpP b a = false
theorem insP_ordered (p : Pd) : ∀ l, Ordered l → Ordered (insP p l)
  | [], _ => by simp [insP, Ordered]
  | x :: r, h => by
    obtain ⟨h1, h2⟩ := List.pairwise_cons.1 h
    unfold insP
    split
    · rename_i hlt
      rw [← prioLt_eq] at hlt
      have hxp : ltOf cmpP x p = false := prio_swo.asymmA hlt
      refine List.pairwise_cons.2 ⟨fun y hy => ?_, h⟩
      rcases List.mem_cons.1 hy with rfl | hy
      · exact hxp
      · exact prio_swo.ntrans _ _ _ (h1 y hy) hxp
    · rename_i hn
      rw [← prioLt_eq, Bool.not_eq_true] at hn
      refine List.pairwise_cons.2 ⟨fun y hy => ?_, insP_ordered p r h2⟩
      rcases List.mem_cons.1 ((insP_perm p r).mem_iff.1 hy) with rfl | hy
      · exact hn
      · exact h1 y hy
theorem sortP_from (l : List Pd) : ∀ out, Ordered out → Ordered (l.foldl (fun out p => insP p out) out) ∧ (l.foldl (fun out p => insP p out) out).Perm (out ++ l) := by
  induction l with
  | nil => exact fun out h => ⟨h, by simp⟩
  | cons p r ih =>
    intro out h
    obtain ⟨h1, h2⟩ := ih (insP p out) (insP_ordered p out h)
    refine ⟨h1, h2.trans ?_⟩
    exact ((insP_perm p out).append_right r).trans List.perm_middle.symm
theorem sortP_sorted (l : List Pd) : Sorted cmpP l (sortP l) := by
  obtain ⟨h1, h2⟩ := sortP_from l [] List.Pairwise.nil
  exact ⟨by simpa [sortP] using h2, h1⟩
/-- No two of one name. -/
abbrev Apart (l : List Pd) : Prop := l.Pairwise fun a b => a.name ≠ b.name
theorem apart_one {l : List Pd} (h : Apart l) : ∀ a ∈ l, ∀ b ∈ l, a.name = b.name → a = b := by
  induction l with
  | nil => exact fun a ha => by cases ha
  | cons x r ih =>
    obtain ⟨h1, h2⟩ := List.pairwise_cons.1 h
    intro a ha b hb e
    rcases List.mem_cons.1 ha with ea | ka <;> rcases List.mem_cons.1 hb with eb | kb
    · rw [ea, eb]
    · exact absurd (by rw [← ea]; exact e) (h1 b kb)
    · exact absurd (by rw [← eb]; exact e.symm) (h1 a ka)
    · exact ih h2 a ka b kb e
theorem sorted_one {l ys zs : List Pd} (h : Apart l) (hy : Sorted cmpP l ys) (hz : Sorted cmpP l zs) : ys = zs := by
  refine List.Perm.eq_of_pairwise (fun a b ha hb h1 h2 => ?_) hy.2 hz.2 (hy.1.trans hz.1.symm)
  rw [prioLt_eq, prioLt_not] at h1 h2
  refine apart_one h a (hy.1.mem_iff.1 ha) b (hz.1.mem_iff.1 hb) (bs_inj ?_)
  rcases h1 with h1 | ⟨h1, k1⟩ <;> rcases h2 with h2 | ⟨h2, k2⟩
  · omega
  · omega
  · omega
  · exact List.le_antisymm k1 k2
def pendB (p : Pd) : Bool := emptyB p.node && !p.hold
def pendV (s : St) : List Pd := sortP (s.pods.filter pendB)
theorem pend_one {s : St} {ys : List Pd} (h : Apart s.pods) (hy : Sorted cmpP (s.pods.filter pendB) ys) : ys = pendV s :=
  sorted_one (h.sublist List.filter_sublist) hy (sortP_sorted _)
end Go.Proofs.YtnmhicgbdalniaaGreatDoor
namespace Go.Proofs.YtnmhicgbdalniaaGreatDoor
open Go.RowKit Go.Sort

/-! By which way a pod comes to a node: the plain law. -/
structure Wy where
  pod : ByteArray
  to_ : ByteArray
  holds : List ByteArray
def zWy : Wy := ⟨⟨#[]⟩, ⟨#[]⟩, []⟩
abbrev FitF := St → Pd → ByteArray → Int
section
variable (F : FitF)
/-- Which placeholders go from a node. -/
def onGo (p : Pd) (name : ByteArray) : St → List Pd → List ByteArray → List ByteArray × Bool
  | _, [], _ => ([], false)
  | s, x :: r, out => if x.hold = true then (if F (dropS s x.name) p name = 0 then (out ++ [x.name], true) else onGo p name (dropS s x.name) r (out ++ [x.name])) else onGo p name s r out
def onW (s : St) (p : Pd) (name : ByteArray) : List ByteArray × Bool := if F s p name = 0 then ([], true) else onGo F p name s (onV s name) []
def betterW (p : Pd) (n : ByteArray) (acc : Wy × Bool) (h : List ByteArray × Bool) : Wy × Bool := if (h.2 && (!acc.2 || decide (h.1.length < acc.1.holds.length))) = true then (⟨p.name, n, h.1⟩, true) else acc
def forGo (s : St) (p : Pd) : List Nd → Wy × Bool → Wy × Bool
  | [], acc => acc
  | n :: r, acc => forGo s p r (betterW p n.name acc (onW F s p n.name))
def forW (s : St) (p : Pd) : Wy × Bool := if p.hold = true then (zWy, false) else forGo F s p s.nodes (zWy, false)
def nextGo (s : St) : List Pd → Wy × Bool
  | [] => (zWy, false)
  | p :: r => if (forW F s p).2 = true then ((forW F s p).1, true) else nextGo s r
def nextW (s : St) : Wy × Bool := nextGo F s (pendV s)
end
def doW (s : St) (w : Wy) : St := moveS (w.holds.foldl dropS s) w.pod w.to_
theorem onGo_at (F : FitF) (p : Pd) (name : ByteArray) (s : St) {l : List Pd} {k : Nat} (h : k < l.length) (out : List ByteArray) :
    onGo F p name s (l.drop k) out = if l[k].hold = true then (if F (dropS s l[k].name) p name = 0 then (out ++ [l[k].name], true) else onGo F p name (dropS s l[k].name) (l.drop (k + 1)) (out ++ [l[k].name])) else onGo F p name s (l.drop (k + 1)) out := by
  rw [List.drop_eq_getElem_cons h]; rfl
theorem forGo_at (F : FitF) (s : St) (p : Pd) {l : List Nd} {k : Nat} (h : k < l.length) (acc : Wy × Bool) : forGo F s p (l.drop k) acc = forGo F s p (l.drop (k + 1)) (betterW p l[k].name acc (onW F s p l[k].name)) := by
  rw [List.drop_eq_getElem_cons h]; rfl
theorem nextGo_at (F : FitF) (s : St) {l : List Pd} {k : Nat} (h : k < l.length) : nextGo F s (l.drop k) = if (forW F s l[k]).2 = true then ((forW F s l[k]).1, true) else nextGo F s (l.drop (k + 1)) := by
  rw [List.drop_eq_getElem_cons h]; rfl
theorem drop_nodes (s : St) (n : ByteArray) : (dropS s n).nodes = s.nodes := rfl
theorem drops_nodes (s : St) : ∀ l : List ByteArray, (l.foldl dropS s).nodes = s.nodes := by
  intro l
  induction l generalizing s with
  | nil => rfl
  | cons a r ih => exact ih (dropS s a)
theorem drops_pods (s : St) : ∀ l : List ByteArray, (l.foldl dropS s).pods.length ≤ s.pods.length := by
  intro l
  induction l generalizing s with
  | nil => exact Nat.le_refl _
  | cons a r ih => exact Nat.le_trans (ih (dropS s a)) (List.length_filter_le _ _)
/-- What a node's way tells. -/
theorem onGo_says {F : FitF} {p : Pd} {name : ByteArray} : ∀ (l : List Pd) (s : St) (out h : List ByteArray), F s p name ≠ 0 → onGo F p name s l out = (h, true) →
    ∃ r x, h = out ++ r ++ [x] ∧ F (r.foldl dropS s) p name ≠ 0 ∧ F (dropS (r.foldl dropS s) x) p name = 0
  | [], s, out, h, hf, e => by simp [onGo] at e
  | y :: l, s, out, h, hf, e => by
    unfold onGo at e
    split at e
    · split at e
      · rename_i h0
        injection e with e _
        exact ⟨[], y.name, by rw [← e]; simp, hf, h0⟩
      · rename_i h0
        obtain ⟨r, x, e1, e2, e3⟩ := onGo_says l _ _ _ h0 e
        exact ⟨y.name :: r, x, by rw [e1]; simp, e2, e3⟩
    · exact onGo_says l s out h hf e
theorem onW_says {F : FitF} {s : St} {p : Pd} {name : ByteArray} {h : List ByteArray} (e : onW F s p name = (h, true)) :
    (h = [] ∧ F s p name = 0) ∨ (F s p name ≠ 0 ∧ ∃ r x, h = r ++ [x] ∧ F (r.foldl dropS s) p name ≠ 0 ∧ F (dropS (r.foldl dropS s) x) p name = 0) := by
  unfold onW at e
  split at e
  · rename_i h0
    injection e with e _
    exact .inl ⟨e.symm, h0⟩
  · rename_i h0
    obtain ⟨r, x, e1, e2, e3⟩ := onGo_says _ _ _ _ h0 e
    exact .inr ⟨h0, r, x, by simpa using e1, e2, e3⟩
/-- What is found: the fewest of those that there are. -/
theorem forGo_says {F : FitF} {s : St} {p : Pd} : ∀ (l : List Nd) (acc : Wy × Bool), (acc.2 = true → ∃ n ∈ s.nodes, acc.1.to_ = n.name ∧ acc.1.pod = p.name ∧ onW F s p n.name = (acc.1.holds, true)) → (∀ n ∈ l, n ∈ s.nodes) →
    ((forGo F s p l acc).2 = true → ∃ n ∈ s.nodes, (forGo F s p l acc).1.to_ = n.name ∧ (forGo F s p l acc).1.pod = p.name ∧ onW F s p n.name = ((forGo F s p l acc).1.holds, true)) ∧
    ((acc.2 = true → (forGo F s p l acc).2 = true ∧ (forGo F s p l acc).1.holds.length ≤ acc.1.holds.length) ∧ ∀ n ∈ l, (onW F s p n.name).2 = true → (forGo F s p l acc).2 = true ∧ (forGo F s p l acc).1.holds.length ≤ (onW F s p n.name).1.length) ∧
    ((forGo F s p l acc).2 = false → (forGo F s p l acc).1 = acc.1)
  | [], acc, h, _ => ⟨h, ⟨fun h => ⟨h, Nat.le_refl _⟩, fun n hn => by cases hn⟩, fun _ => rfl⟩
  | n :: r, acc, h, hm => by
    have hn := hm n (List.mem_cons_self ..)
    obtain ⟨i1, ⟨i2, i3⟩, i4⟩ := forGo_says r (betterW p n.name acc (onW F s p n.name)) (by
      unfold betterW
      split
      · rename_i hb
        intro _
        refine ⟨n, hn, rfl, rfl, ?_⟩
        simp only [Bool.and_eq_true] at hb
        rw [← hb.1]
      · exact h) (fun x hx => hm x (List.mem_cons_of_mem _ hx))
    refine ⟨i1, ⟨fun ha => ?_, fun x hx hw => ?_⟩, fun hf => ?_⟩
    · have hb : (betterW p n.name acc (onW F s p n.name)).2 = true ∧ (betterW p n.name acc (onW F s p n.name)).1.holds.length ≤ acc.1.holds.length := by
        unfold betterW
        split
        · rename_i hb
          simp only [ha, Bool.and_eq_true, Bool.not_true, Bool.false_or, decide_eq_true_eq] at hb
          exact ⟨rfl, Nat.le_of_lt hb.2⟩
        · exact ⟨ha, Nat.le_refl _⟩
      obtain ⟨q1, q2⟩ := i2 hb.1
      exact ⟨q1, Nat.le_trans q2 hb.2⟩
    · rcases List.mem_cons.1 hx with rfl | hx
      · have hb : (betterW p x.name acc (onW F s p x.name)).2 = true ∧ (betterW p x.name acc (onW F s p x.name)).1.holds.length ≤ (onW F s p x.name).1.length := by
          unfold betterW
          split
          · exact ⟨rfl, Nat.le_refl _⟩
          · rename_i hb
            simp only [hw, Bool.true_and, Bool.or_eq_true, Bool.not_eq_true', decide_eq_true_eq, not_or, Bool.not_eq_false] at hb
            exact ⟨hb.1, by omega⟩
        obtain ⟨q1, q2⟩ := i2 hb.1
        exact ⟨q1, Nat.le_trans q2 hb.2⟩
      · exact i3 x hx hw
    · have hb : (betterW p n.name acc (onW F s p n.name)).2 = false := by
        cases hc : (betterW p n.name acc (onW F s p n.name)).2 with
        | false => rfl
        | true =>
          have hf' : (forGo F s p r (betterW p n.name acc (onW F s p n.name))).2 = false := hf
          rw [(i2 hc).1] at hf'; cases hf'
      show (forGo F s p r _).1 = acc.1
      rw [i4 hf]
      unfold betterW at hb ⊢
      split
      · rename_i hx
        rw [if_pos hx] at hb
        cases hb
      · rfl
theorem forW_says {F : FitF} {s : St} {p : Pd} (h : (forW F s p).2 = true) : ∃ n ∈ s.nodes, (forW F s p).1.to_ = n.name ∧ (forW F s p).1.pod = p.name ∧ onW F s p n.name = ((forW F s p).1.holds, true) := by
  unfold forW at *
  split at h
  · cases h
  · rename_i hp
    rw [if_neg hp]
    exact (forGo_says s.nodes (zWy, false) (fun h => by cases h) (fun _ h => h)).1 h
theorem forW_least {F : FitF} {s : St} {p : Pd} (hp : p.hold = false) {n : Nd} (hn : n ∈ s.nodes) (hw : (onW F s p n.name).2 = true) : (forW F s p).2 = true ∧ (forW F s p).1.holds.length ≤ (onW F s p n.name).1.length := by
  unfold forW
  rw [hp, if_neg (by decide)]
  exact (forGo_says s.nodes (zWy, false) (fun h => by cases h) (fun _ h => h)).2.1.2 n hn hw
theorem forW_none {F : FitF} {s : St} {p : Pd} (h : (forW F s p).2 = false) : (forW F s p).1 = zWy := by
  unfold forW at *
  split at h
  · rename_i hp
    rw [if_pos hp]
  · rename_i hp
    rw [if_neg hp]
    exact (forGo_says s.nodes (zWy, false) (fun h => by cases h) (fun _ h => h)).2.2 h
end Go.Proofs.YtnmhicgbdalniaaGreatDoor
namespace Go.Proofs.YtnmhicgbdalniaaGreatDoor
open Go.RowKit Go.Sort Go.Lib

/-! sched.Pending. -/
theorem pend_snoc {l : List Pd} {k : Nat} (h : k < l.length) : (l.take (k + 1)).filter pendB = (l.take k).filter pendB ++ (if pendB l[k] = true then [l[k]] else []) := by
  rw [List.take_succ_eq_append_getElem h, List.filter_append]
  congr 1
  cases hp : pendB l[k] <;> simp [hp]
theorem pend_le (l : List Pd) (k : Nat) : ((l.take k).filter pendB).length ≤ k := Nat.le_trans (List.length_filter_le _ _) (by rw [List.length_take]; omega)
theorem pod_ones : ∀ h x cs, Kd.pod.K h x cs → ∀ v ∈ cs, v.oneCell' = true := by
  rintro h x cs ⟨B1, d1, B2, d2, B3, d3, B4, d4, rfl, -⟩ v hv
  simp at hv
  rcases hv with rfl | rfl | rfl | rfl | rfl | rfl | rfl | rfl | rfl | rfl | rfl <;> rfl
theorem eg_compare : ∀ args w, (callFunc 93 args).run Tryz.prog w = .ok (.enter 93 args) w := enters_of Tryz.func93 (by kernel_rfl) rfl
theorem sortPods_calls {w : World} {base : Nat} {ty : TypeId} {v : Value} {xs : List Pd} (ho : Kd.pod.Own w base ty 0 v xs) (hl : xs.length ≤ 1000) :
    Calls Tryz.prog 92 #[v, .func (.func 93) #[] #[]] w fun e w' => e = .returned (.tuple #[]) ∧ ∃ ys, Sorted cmpP xs ys ∧ Kd.pod.S (vw w' []) v ys ∧ Below base w w' :=
  sort_own Tryz.sortPod (d := Kd.pod) Tryz.isAgg35 Tryz.sizeOf35 (by decide) pod_ones cmpP prio_swo 93 eg_compare
    (fun W x y cx cy hx hy => Compare_grow _ _ x y W ⟨cx, rfl, hx⟩ ⟨cy, rfl, hy⟩) ho (by omega)
set_option maxHeartbeats 8000000 in
set_option maxRecDepth 100000 in
theorem Pending_calls (vs : Value) (s : St) (w : World) (hs : Kd.state.V (vw w []) vs s) (hpn : s.pods.length ≤ 1000) (hap : Apart s.pods) :
    Calls Tryz.prog 30 #[vs] w (PodsDone (pendV s) w) := by
  obtain ⟨i0, hi, hz0, hz1, hz2⟩ := info_parts info_pod
  obtain ⟨cs, rfl, hks⟩ := hs
  obtain ⟨A1, c1, A2, c2, A3, c3, rfl, -, s2, -⟩ := hks
  obtain ⟨-, f2, f2'⟩ := s2.form
  have S2 := Lib.hid s2
  have HAP := Lib.hid hap
  clear s2 hap
  go_enter Tryz.func30, Tryz.ntmps30
  go_upto_region 1 with fail
  have hbw := alloc_below w (.cells #[.slice A1 s.nodes.length c1, .slice A2 s.pods.length c2, .slice A3 s.budgets.length c3] 26)
  have hk := blk_last w (.cells #[.slice A1 s.nodes.length c1, .slice A2 s.pods.length c2, .slice A3 s.budgets.length c3] 26)
  generalize w.alloc (.cells #[.slice A1 s.nodes.length c1, .slice A2 s.pods.length c2, .slice A3 s.budgets.length c3] 26) = W at hbw hk ⊢
  obtain ⟨z, zf⟩ := blk_all hk
  have HBW := Lib.hid hbw
  clear hbw hk
  go_wp2
  clear z zf
  go_loopw [3, 9] (fun o i wr => ∃ k : Nat, k ≤ s.pods.length ∧ i = .int .i64 k ∧ Hid (Kd.pod.Own wr w.heap.size 35 0 o ((s.pods.take k).filter pendB)) ∧ Hid (Below w.heap.size w wr)) (fun _ i _ => s.pods.length - (intOf i).toNat)
  case atStart => exact ⟨0, Nat.zero_le _, rfl, Kd.Own.nil _ _ _ _ _, HBW.out⟩
  case round =>
    obtain ⟨k, hk, rfl, HO, HB⟩ := hrel
    by_cases hlt : k < s.pods.length
    · have hsn := pend_snoc hlt
      have hle := pend_le s.pods k
      obtain ⟨b, off, cs, rfl, hn, hc⟩ := S2.out.both HB.out k hlt
      obtain ⟨x, hx⟩ : ∃ x, s.pods[k] = x := ⟨_, rfl⟩
      obtain ⟨out, hout⟩ : ∃ out, (s.pods.take k).filter pendB = out := ⟨_, rfl⟩
      rw [hx] at hn hsn
      rw [hout] at hsn hle HO
      have HKX := Lib.hid hn
      obtain ⟨B1, d1, B2, d2, B3, d3, B4, d4, rfl, -⟩ := hn
      have HC : Hid (wr.rangeAt b (off + k * 11) _) := hc
      have HSN := Lib.hid hsn
      have e1 := empty_beq x.node
      have hon : pendB x = (decide (x.node = ⟨#[]⟩) && !x.hold) := rfl
      obtain ⟨a, ha⟩ : ∃ a, decide (x.node = ⟨#[]⟩) = a := ⟨_, rfl⟩
      obtain ⟨d, hd⟩ : ∃ d, x.hold = d := ⟨_, rfl⟩
      rw [ha] at e1 hon
      rw [hd] at hon HC
      have HON := Lib.hid hon
      clear hc hsn hx hout ha hon
      have HB2 : Hid (Below w.heap.size w (wr.alloc (.cells #[.string x.name, .string x.owner, .int .i64 x.prio, .slice B1 x.need.length d1, .slice B2 x.labels.length d2, .slice B3 x.sel.length d3, .slice B4 x.tols.length d4, .string x.key, .int .i64 x.most, .string x.node, .bool d] 35))) := Below.then HB.out (alloc_below _ _)
      have HO2 := Lib.hid (HO.out.below (alloc_below wr (.cells #[.string x.name, .string x.owner, .int .i64 x.prio, .slice B1 x.need.length d1, .slice B2 x.labels.length d2, .slice B3 x.sel.length d3, .slice B4 x.tols.length d4, .string x.key, .int .i64 x.most, .string x.node, .bool d] 35)))
      have hy := blk_last wr (.cells #[.string x.name, .string x.owner, .int .i64 x.prio, .slice B1 x.need.length d1, .slice B2 x.labels.length d2, .slice B3 x.sel.length d3, .slice B4 x.tols.length d4, .string x.key, .int .i64 x.most, .string x.node, .bool d] 35)
      go_upto_region 5 with (with_reducible refine wpList_load_mid rfl 35 _ rfl b (off + k * 11) rfl _ _ HC.out Tryz.underlying35 rfl (by kernel_rfl) ?_)
      generalize wr.alloc (.cells #[.string x.name, .string x.owner, .int .i64 x.prio, .slice B1 x.need.length d1, .slice B2 x.labels.length d2, .slice B3 x.sel.length d3, .slice B4 x.tols.length d4, .string x.key, .int .i64 x.most, .string x.node, .bool d] 35) = W1 at HB2 HO2 hy ⊢
      obtain ⟨y, yf⟩ := blk_all hy
      have HXH := Lib.hid hd
      clear hy HO HB HC hd
      have hsz := HB2.out.size
      cases a with
      | false =>
        have hn : pendB x = false := by rw [HON.out]; rfl
        have HS : Hid ((s.pods.take (k + 1)).filter pendB = out) := by
          show _ = _
          rw [HSN.out, hn]; simp
        clear hn
        go_wp2
        go_roundw
        case rel => exact ⟨k + 1, by omega, by go_num, by rw [HS.out]; exact HO2.out, HB2.out⟩
        case measure => simp [intOf]; omega
      | true =>
        cases d with
        | true =>
          have hn : pendB x = false := by rw [HON.out]; rfl
          have HS : Hid ((s.pods.take (k + 1)).filter pendB = out) := by
            show _ = _
            rw [HSN.out, hn]; simp
          clear hn
          go_wp2
          go_roundw
          case rel => exact ⟨k + 1, by omega, by go_num, by rw [HS.out]; exact HO2.out, HB2.out⟩
          case measure => simp [intOf]; omega
        | false =>
          have hn : pendB x = true := by rw [HON.out]; rfl
          have HS : Hid ((s.pods.take (k + 1)).filter pendB = out ++ [x]) := by
            show _ = _
            rw [HSN.out, hn]; simp
          clear hn
          rw [HXH.out] at HKX
          have HRO := Lib.hid (own_ge HO2.out)
          go_wp2_with (at_builtin; go_must (refine wpList_own (d := Kd.pod) (x := x) _ w.heap.size 0 23 35 i0 _ 184 Tryz.underlying23 hi hz0 hz1 hz2 rfl (by decide) _ out _ (HO2.out.below (alloc_below _ _)) (Kd.pod.mono (vw_own (Below.then HB2.out (alloc_below _ _)) HRO.out) HKX.out) _ 1 35 (blk_last _ _) (by simp [Value.oneCell']) (by simp only [maxLen]; omega) (by omega) (by simp; omega) _ _ rfl rfl rfl rfl ?_))
          intro v2 w2 ho2 hg2
          have HO3 := Lib.hid ho2
          have HB3 : Hid (Below w.heap.size w w2) := grown_then HB2.out (alloc_below _ _) hg2 HRO.out
          clear ho2 hg2 y yf
          go_wp2
          go_roundw
          case rel => exact ⟨k + 1, by omega, by go_num, by rw [HS.out]; exact HO3.out, HB3.out⟩
          case measure => simp [intOf]; omega
    · obtain rfl : k = s.pods.length := by omega
      have ho := HO.out
      rw [List.take_length] at ho
      have hl := pend_le s.pods s.pods.length
      rw [List.take_length] at hl
      have HO2 := Lib.hid ho
      clear ho HO
      go_wp2_with fail
      refine (sortPods_calls HO2.out (by omega)).mono ?_
      rintro e w2 ⟨rfl, ys, hs, hv, hb⟩
      have hy := pend_one HAP.out hs
      subst hy
      obtain ⟨G, gc, rfl, hS⟩ := hv.val
      have HS := Lib.hid hS
      have HB2 := Lib.hid (HB.out.trans hb)
      clear hS hv hs hb hl
      go_wp2
      go_ret
      exact ⟨G, gc, rfl, HS.out, HB2.out⟩
end Go.Proofs.YtnmhicgbdalniaaGreatDoor
namespace Go.Proofs.YtnmhicgbdalniaaGreatDoor
open Go.RowKit Go.Sort

/-! preempt.on. -/
theorem But.setCells {b : Nat} {w w' : World} (h : But b w w') (cs : List Value) (o : Nat) : But b w (w'.setCells b o cs) := by
  refine ⟨?_, ?_, ?_, by rw [setCells_size]; exact h.size, fun k hk hne => (setCells_far b cs o w' k hne).trans (h.block k hk hne)⟩
  · rw [← h.os]; exact (setCells_below (w := w') cs o (B := 0) (Nat.zero_le b)).os
  · rw [← h.tape]; exact (setCells_below (w := w') cs o (B := 0) (Nat.zero_le b)).tape
  · rw [← h.output]; exact (setCells_below (w := w') cs o (B := 0) (Nat.zero_le b)).output
/-- A pod's cells, whatever lies behind them. -/
def Kd.podC : Kd Pd where
  sz := 11
  K := fun _ x cs => ∃ A1 c1 A2 c2 A3 c3 A4 c4, cs = [.string x.name, .string x.owner, .int .i64 x.prio, .slice A1 x.need.length c1, .slice A2 x.labels.length c2, .slice A3 x.sel.length c3, .slice A4 x.tols.length c4, .string x.key, .int .i64 x.most, .string x.node, .bool x.hold] ∧ sok x.name
  len := by rintro h x cs ⟨_, _, _, _, _, _, _, _, rfl, _⟩; rfl
  mono := fun _ h => h
theorem podC_S {w : World} {M : List Nat} {A : Option Addr} {n c : Nat} {l : List Pd} (s : Kd.pod.S (vw w []) (.slice A n c) l) (hA : ∀ ad, A = some ad → ad.block ∉ M) : Kd.podC.S (vw w M) (.slice A n c) l := by
  obtain ⟨A', cap, e, h1, h2, h4, h3⟩ := s
  injection e with e1 e2 e3
  subst e1 e2 e3
  refine ⟨_, _, rfl, h1, h2, h4, fun hl => ?_⟩
  obtain ⟨b, off, e, hc⟩ := h3 hl
  refine ⟨b, off, e, fun j x hx => ?_⟩
  obtain ⟨cs, ⟨B1, d1, B2, d2, B3, d3, B4, d4, rfl, hok, -⟩, c2⟩ := hc j x hx
  exact ⟨_, ⟨B1, d1, B2, d2, B3, d3, B4, d4, rfl, hok.1.1⟩, fun i u hu => vw_cellM (a := ⟨b, off + j * Kd.podC.sz + i, none⟩) (hA ⟨b, off, none⟩ e) (cell_of_vw (c2 i u hu))⟩
theorem own_strs {w : World} {base : Nat} {e : TypeId} {v : Value} {l : List ByteArray} (h : w.ownsRow base e 1 v l.length (l.map Value.string)) (hl : l.length ≤ 140737488351232) (hp : ∀ x ∈ l, sok x) : Kd.str.S (vw w []) v l :=
  Kd.S.of_own (f := Value.string) h hl hp (by simp)
theorem vw_grown {w w' : World} {own own' : Option Nat} {b : Nat} (hg : w.grownBy w' own) (hv : own' = own ∨ own' = some w.heap.size) : (vw w (b :: own.toList)).le (vw w' (b :: own'.toList)) := fun k o hk => by
  obtain ⟨h1, h2⟩ := vw_eq hk
  have h3 := blk_lt h2
  simp only [List.mem_cons, Option.mem_toList, not_or] at h1
  refine vw_mk ?_ ((hg.block k h3 (fun e => h1.2 e.symm)).trans h2)
  simp only [List.mem_cons, Option.mem_toList, not_or]
  refine ⟨h1.1, fun e => ?_⟩
  rcases hv with hv | hv
  · exact h1.2 (hv ▸ e)
  · rw [hv] at e; injection e with e; omega
theorem own_M {w : World} {base : Nat} {e : TypeId} {size : Nat} {v : Value} {n : Nat} {xs : List Value} {b : Nat} (h : w.ownsRow base e size v n xs) (hb : b < w.heap.size) : ∀ q ∈ b :: v.ownBlock.toList, q < w.heap.size := fun q hq => by
  simp only [List.mem_cons, Option.mem_toList] at hq
  rcases hq with rfl | hq
  · exact hb
  · exact (h.lt q hq).2
theorem strs_nx {w : World} {lo : Nat} {A : Option Addr} {n c : Nat} {l : List ByteArray} (s : Kd.str.S (vw w []) (.slice A n c) l) (hA : ∀ ad, A = some ad → lo ≤ ad.block) : Kd.str.S (nx w lo none) (.slice A n c) l := by
  obtain ⟨A', cap, e, h1, h2, h4, h3⟩ := s
  injection e with e1 e2 e3
  subst e1 e2 e3
  refine ⟨_, _, rfl, h1, h2, h4, fun hl => ?_⟩
  obtain ⟨b, off, e, hc⟩ := h3 hl
  refine ⟨b, off, e, fun j x hx => ?_⟩
  obtain ⟨cs, k, c2⟩ := hc j x hx
  refine ⟨cs, k, fun i u hu => ?_⟩
  have h5 := cell_of_vw (c2 i u hu)
  have hlo := hA ⟨b, off, none⟩ e
  unfold World.cell? at h5
  unfold View.cell? nx
  simp only at h5 hlo ⊢
  rw [if_neg (by rintro (h | h); omega; cases h)]
  exact h5
def OnDone (r : List ByteArray × Bool) (w : World) (e : Ending) (w' : World) : Prop := ∃ A c, e = .returned (.tuple #[.slice A r.1.length c, .bool r.2]) ∧ Kd.str.S (nx w' w.heap.size none) (.slice A r.1.length c) r.1 ∧ Below w.heap.size w w'
theorem onDone_none {r : List ByteArray × Bool} {b : Bool} {w w' : World} (h : r = ([], b)) (hb : Below w.heap.size w w') : OnDone r w (.returned (.tuple #[.slice none 0 0, .bool b])) w' := by
  subst h; exact ⟨none, 0, rfl, Kd.S.nil _ _, hb⟩
theorem onDone_some {r : List ByteArray × Bool} {l : List ByteArray} {b : Bool} {A : Option Addr} {c : Nat} {w w' : World} (h : r = (l, b)) (hs : Kd.str.S (nx w' w.heap.size none) (.slice A l.length c) l) (hb : Below w.heap.size w w') : OnDone r w (.returned (.tuple #[.slice A l.length c, .bool b])) w' := by
  subst h; exact ⟨A, c, rfl, hs, hb⟩
set_option maxHeartbeats 8000000 in
set_option maxRecDepth 100000 in
theorem WayOn_calls (vs vp : Value) (s : St) (p : Pd) (name : ByteArray) (w : World) (hs : Kd.state.V (vw w []) vs s) (hp : Kd.pod.V (vw w []) vp p) (hn : s.nodes.length ≤ 1000) (hpn : s.pods.length ≤ 1000) :
    Calls Tryz.prog 86 #[vs, vp, .string name] w (OnDone (onW fitQ s p name) w) := by
  obtain ⟨i0, hi, hz0, hz1, hz2⟩ := info_parts info_str
  obtain ⟨cs, rfl, hks⟩ := hs
  obtain ⟨cp, rfl, hkp⟩ := hp
  have HKS := Lib.hid hks
  have HKP := Lib.hid hkp
  obtain ⟨A1, c1, A2, c2, A3, c3, rfl, -⟩ := hks
  obtain ⟨P1, p1, P2, p2, P3, p3, P4, p4, rfl, -⟩ := hkp
  obtain ⟨R, hR⟩ : ∃ R, onW fitQ s p name = R := ⟨_, rfl⟩
  rw [hR]
  have HR := Lib.hid hR
  clear hR
  go_enter Tryz.func86, Tryz.ntmps86
  go_upto_region 1 with fail
  obtain ⟨W, hW⟩ : ∃ W : World, W = ((w.alloc (.cells #[.slice A1 s.nodes.length c1, .slice A2 s.pods.length c2, .slice A3 s.budgets.length c3] 26)).alloc (.cells #[.string p.name, .string p.owner, .int .i64 p.prio, .slice P1 p.need.length p1, .slice P2 p.labels.length p2, .slice P3 p.sel.length p3, .slice P4 p.tols.length p4, .string p.key, .int .i64 p.most, .string p.node, .bool p.hold] 35)) := ⟨_, rfl⟩
  rw [← hW]
  have hbw : Below w.heap.size w W := by rw [hW]; exact Below.then (alloc_below _ _) (alloc_below _ _)
  have k1 : W.heap[w.heap.size]? = some (.cells #[.slice A1 s.nodes.length c1, .slice A2 s.pods.length c2, .slice A3 s.budgets.length c3] 26 (0, 0)) := by
    rw [hW]; exact (blk_old _ _ (by simp)).trans (blk_last _ _)
  have k2 : W.heap[w.heap.size + 1]? = some (.cells #[.string p.name, .string p.owner, .int .i64 p.prio, .slice P1 p.need.length p1, .slice P2 p.labels.length p2, .slice P3 p.sel.length p3, .slice P4 p.tols.length p4, .string p.key, .int .i64 p.most, .string p.node, .bool p.hold] 35 (0, 0)) := by
    rw [hW]
    have := blk_last (w.alloc (.cells #[.slice A1 s.nodes.length c1, .slice A2 s.pods.length c2, .slice A3 s.budgets.length c3] 26)) (.cells #[.string p.name, .string p.owner, .int .i64 p.prio, .slice P1 p.need.length p1, .slice P2 p.labels.length p2, .slice P3 p.sel.length p3, .slice P4 p.tols.length p4, .string p.key, .int .i64 p.most, .string p.node, .bool p.hold] 35)
    simpa using this
  have HBW := Lib.hid hbw
  have HK := Lib.hid (And.intro k1 k2)
  have l1 := blk_lt k1
  have l2 := blk_lt k2
  have HV0 : Hid (Kd.state.V (vw W []) (.agg #[.slice A1 s.nodes.length c1, .slice A2 s.pods.length c2, .slice A3 s.budgets.length c3]) s) := ⟨_, rfl, Kd.state.mono (vw_below hbw) HKS.out⟩
  have HP0 : Hid (Kd.pod.V (vw W []) (.agg #[.string p.name, .string p.owner, .int .i64 p.prio, .slice P1 p.need.length p1, .slice P2 p.labels.length p2, .slice P3 p.sel.length p3, .slice P4 p.tols.length p4, .string p.key, .int .i64 p.most, .string p.node, .bool p.hold]) p) := ⟨_, rfl, Kd.pod.mono (vw_below hbw) HKP.out⟩
  obtain ⟨z, zf⟩ := blk_all k1
  obtain ⟨y, yf⟩ := blk_all k2
  clear hbw k1 k2 hW
  go_wp2_with fail
  refine (Fit_calls _ _ s p name _ HV0.out HP0.out hn hpn).mono ?_
  rintro e w1 ⟨rfl, hb⟩
  obtain ⟨F, hF⟩ : ∃ F, fitQ s p name = F := ⟨_, rfl⟩
  rw [hF]
  have HF := Lib.hid hF
  have HB1 := Lib.hid (Below.then HBW.out hb)
  have HX1 := Lib.hid hb
  clear z zf y yf hb hF
  by_cases h0 : F = 0
  · subst h0
    have HR2 : Hid (R = ([], true)) := by
      show R = _
      rw [← HR.out]; unfold onW; rw [if_pos HF.out]
    go_wp2
    go_ret2
    exact onDone_none HR2.out HB1.out
  · have t1 : (F == 0) = false := by simp [h0]
    have hon : onGo fitQ p name s (onV s name) [] = R := by
      rw [← HR.out]; unfold onW; rw [if_neg (by rw [HF.out]; exact h0)]
    have HON := Lib.hid hon
    clear h0 hon HF HR
    have g1 := (HX1.out.block _ l1).trans HK.out.1
    obtain ⟨z, zf⟩ := blk_all g1
    clear g1
    go_wp2_with fail
    refine (On_new _ s name _ (V_below HV0.out HX1.out) hpn).mono ?_
    rintro e w2 ⟨G, gc, rfl, hS, hb, hG⟩
    have hX2 := Below.then HX1.out hb
    have g1 := (hX2.block _ l1).trans HK.out.1
    have g2 := (hX2.block _ l2).trans HK.out.2
    have HY := Lib.hid g2
    have hM : ∀ ad, G = some ad → ad.block ∉ [w.heap.size] := fun ad had => by
      have := hG ad had
      have := HX1.out.size
      simp; omega
    obtain ⟨-, f1, f2⟩ := hS.form
    have SL := Lib.hid (podC_S (M := [w.heap.size]) hS hM)
    have HB2 := Lib.hid (Below.then HBW.out hX2)
    have hks2 : Kd.state.K (vw w2 [w.heap.size]) s [.slice A1 s.nodes.length c1, .slice A2 s.pods.length c2, .slice A3 s.budgets.length c3] := Kd.state.mono (vw_grow HB2.out (by simp)) HKS.out
    have HKS2 := Lib.hid hks2
    have HZ := Lib.hid g1
    have hl2 := blk_lt g2
    have hlw : w.heap.size < w2.heap.size := by omega
    clear z zf hS hb hG hX2 g1 g2 hM hks2 t1
    obtain ⟨L, hL⟩ : ∃ L, onV s name = L := ⟨_, rfl⟩
    have hLl : L.length ≤ 1000 := by
      rw [← hL]
      exact Nat.le_trans (List.length_filter_le _ _) hpn
    rw [hL] at SL HON f1 f2 ⊢
    clear hL
    go_wp2
    go_loopw [8, 20] (fun o i wr => ∃ (k : Nat) (t : St) (cs : List Value) (out : List ByteArray), k ≤ L.length ∧ i = .int .i64 k ∧ out.length ≤ k ∧ t.nodes.length ≤ 1000 ∧ t.pods.length ≤ 1000 ∧ Hid (wr.heap[w.heap.size]? = some (.cells cs.toArray 26 (0, 0))) ∧ Hid (Kd.state.K (vw wr (w.heap.size :: o.ownBlock.toList)) t cs) ∧ Hid (But w.heap.size w2 wr)
      ∧ Hid (wr.ownsRow w2.heap.size 9 1 o out.length (out.map Value.string)) ∧ Hid (∀ x ∈ out, sok x) ∧ Hid (onGo fitQ p name t (L.drop k) out = R)) (fun _ i _ => L.length - (intOf i).toNat)
    case atStart => exact ⟨0, s, _, [], Nat.zero_le _, rfl, Nat.le_refl _, hn, hpn, HZ.out, HKS2.out, But.refl _ _, World.ownsRow_nil _ _ _ _, (fun x hx => by cases hx), HON.out⟩
    case round =>
      obtain ⟨k, t, cs, out, hk, rfl, hol, htn, htp, HZ1, HKT, HBT, HO, HOK, HGO⟩ := hrel
      by_cases hlt : k < L.length
      · have hgo := HGO.out
        rw [onGo_at fitQ p name t hlt out] at hgo
        obtain ⟨b, off, cx, rfl, hkx, hc⟩ := SL.out.elem k hlt
        have hc' : wr.rangeAt b (off + k * 11) cx := range_of_view fun i u hu => View.cell_mono (vw_but HBT.out (by simp)) (hc i u hu)
        obtain ⟨x, hx⟩ : ∃ x, L[k] = x := ⟨_, rfl⟩
        rw [hx] at hkx hgo
        obtain ⟨B1, d1, B2, d2, B3, d3, B4, d4, rfl, hxok⟩ := hkx
        have HXOK := Lib.hid hxok
        obtain ⟨d, hd⟩ : ∃ d, x.hold = d := ⟨_, rfl⟩
        rw [hd] at hc' hgo
        have HC := Lib.hid hc'
        have HG2 := Lib.hid hgo
        obtain ⟨E1, x1, E2, x2, E3, x3, hcs, -⟩ := id HKT.out
        subst hcs
        clear hc hc' hx hxok hd hgo HGO
        have HBX := Lib.hid (alloc_below wr (.cells #[.string x.name, .string x.owner, .int .i64 x.prio, .slice B1 x.need.length d1, .slice B2 x.labels.length d2, .slice B3 x.sel.length d3, .slice B4 x.tols.length d4, .string x.key, .int .i64 x.most, .string x.node, .bool d] 35))
        have hy := blk_last wr (.cells #[.string x.name, .string x.owner, .int .i64 x.prio, .slice B1 x.need.length d1, .slice B2 x.labels.length d2, .slice B3 x.sel.length d3, .slice B4 x.tols.length d4, .string x.key, .int .i64 x.most, .string x.node, .bool d] 35)
        have hwr2 := HBT.out.size
        go_upto_region 7 with (with_reducible refine wpList_load_mid rfl 35 _ rfl b (off + k * 11) rfl _ _ HC.out Tryz.underlying35 rfl (by kernel_rfl) ?_)
        generalize wr.alloc (.cells #[.string x.name, .string x.owner, .int .i64 x.prio, .slice B1 x.need.length d1, .slice B2 x.labels.length d2, .slice B3 x.sel.length d3, .slice B4 x.tols.length d4, .string x.key, .int .i64 x.most, .string x.node, .bool d] 35) = V at HBX hy ⊢
        have HYX := Lib.hid hy
        obtain ⟨v, vf⟩ := blk_all hy
        clear hy HC
        cases d with
        | false =>
          have HG3 : Hid (onGo fitQ p name t (L.drop (k + 1)) out = R) := HG2.out
          go_wp2
          go_roundw
          case rel => exact ⟨k + 1, t, _, out, by omega, by go_num, by omega, htn, htp, (HBX.out.block _ (blk_lt HZ1.out)).trans HZ1.out, Kd.state.mono (vw_below HBX.out) HKT.out, HBT.out.then HBX.out, own_below HO.out HBX.out, HOK.out, HG3.out⟩
          case measure => simp [intOf]; omega
        | true =>
          have hzV := (HBX.out.block _ (blk_lt HZ1.out)).trans HZ1.out
          obtain ⟨z, zf⟩ := blk_all hzV
          have HVD : Hid (Kd.state.V (vw V (w.heap.size :: _)) (.agg #[.slice E1 t.nodes.length x1, .slice E2 t.pods.length x2, .slice E3 t.budgets.length x3]) t) := ⟨_, rfl, Kd.state.mono (vw_below HBX.out) HKT.out⟩
          have hlV := blk_lt hzV
          clear hzV
          go_wp2_with fail
          refine (Drop_calls _ t x.name _ HVD.out htp (own_M (own_below HO.out HBX.out) hlV)).mono ?_
          rintro e w3 ⟨cs3, rfl, ⟨cs3', e2, hk3⟩, hb3⟩
          obtain rfl : cs3' = cs3 := by simpa using e2.symm
          clear e2
          have HK3 := Lib.hid hk3
          have HB3 := Lib.hid (Below.then HBX.out hb3)
          have q1 := (HB3.out.block _ (blk_lt HZ1.out)).trans HZ1.out
          have q2 := (hb3.block _ (blk_lt HYX.out)).trans HYX.out
          obtain ⟨D1, y1, D2, y2, D3, y3, rfl, -⟩ := hk3
          have hdl : (dropS t x.name).pods.length ≤ t.pods.length := List.length_filter_le _ _
          have HQ1 := Lib.hid q1
          have HQ2 := Lib.hid q2
          clear z zf v vf hb3
          obtain ⟨z, zf⟩ := blk_all q1
          clear q1 q2
          go_upto_region 9 with fail
          rw [show (((w3.setCell ⟨w.heap.size, 0, none⟩ (.slice D1 (dropS t x.name).nodes.length y1)).setCell ⟨w.heap.size, 1, none⟩ (.slice D2 (dropS t x.name).pods.length y2)).setCell ⟨w.heap.size, 2, none⟩ (.slice D3 (dropS t x.name).budgets.length y3)) = w3.setCells w.heap.size 0 [.slice D1 (dropS t x.name).nodes.length y1, .slice D2 (dropS t x.name).pods.length y2, .slice D3 (dropS t x.name).budgets.length y3] from rfl]
          have hne : wr.heap.size ≠ w.heap.size := by omega
          have kU1 := setCells_all (cs := [.slice D1 (dropS t x.name).nodes.length y1, .slice D2 (dropS t x.name).pods.length y2, .slice D3 (dropS t x.name).budgets.length y3]) HQ1.out rfl
          have kU2 := (setCells_far w.heap.size [.slice D1 (dropS t x.name).nodes.length y1, .slice D2 (dropS t x.name).pods.length y2, .slice D3 (dropS t x.name).budgets.length y3] 0 w3 wr.heap.size hne).trans HQ2.out
          have HKU : Hid (Kd.state.K (vw (w3.setCells w.heap.size 0 [.slice D1 (dropS t x.name).nodes.length y1, .slice D2 (dropS t x.name).pods.length y2, .slice D3 (dropS t x.name).budgets.length y3]) (w.heap.size :: _)) (dropS t x.name) [.slice D1 (dropS t x.name).nodes.length y1, .slice D2 (dropS t x.name).pods.length y2, .slice D3 (dropS t x.name).budgets.length y3]) := Kd.state.mono (vw_setCells (List.mem_cons_self ..) _ _) HK3.out
          have HBU : Hid (But w.heap.size w2 (w3.setCells w.heap.size 0 [.slice D1 (dropS t x.name).nodes.length y1, .slice D2 (dropS t x.name).pods.length y2, .slice D3 (dropS t x.name).budgets.length y3])) := (HBT.out.then HB3.out).setCells _ _
          have HOU : Hid (World.ownsRow (w3.setCells w.heap.size 0 [.slice D1 (dropS t x.name).nodes.length y1, .slice D2 (dropS t x.name).pods.length y2, .slice D3 (dropS t x.name).budgets.length y3]) w2.heap.size 9 1 _ out.length (out.map Value.string)) := own_setCells hlw _ _ (own_below HO.out HB3.out)
          generalize w3.setCells w.heap.size 0 [.slice D1 (dropS t x.name).nodes.length y1, .slice D2 (dropS t x.name).pods.length y2, .slice D3 (dropS t x.name).budgets.length y3] = U at kU1 kU2 HKU HBU HOU ⊢
          have HZU := Lib.hid kU1
          have hbu := HBU.out.size
          obtain ⟨v, vf⟩ := blk_all kU2
          clear z zf kU1 kU2 HQ1 HQ2 HK3 HB3 HVD HYX HBX HZ1 HKT HBT HO
          go_upto_region 10 with (at_builtin; refine wpList_app _ w2.heap.size 53 9 i0 (.string ⟨#[]⟩) 1 16 Tryz.underlying53 hi hz0 hz1 hz2 rfl (by decide) _ out.length (out.map Value.string) (own_below HOU.out (alloc_below _ _)) (some ⟨U.heap.size, 0, none⟩) 1 1 [.string x.name] rfl (fun e => by cases e) (fun ad had j u hu => by cases had; exact one_new _ _ _ j u hu) (by simp [Value.oneCell']) (by simp only [maxLen]; omega) (by omega) (by simp; omega) _ _ rfl rfl rfl rfl ?_)
          intro v' w4 hown' hgrow hv4
          have HO4 : Hid (w4.ownsRow w2.heap.size 9 1 v' (out ++ [x.name]).length ((out ++ [x.name]).map Value.string)) := by
            refine own_congr hown' ?_ ?_
            · rw [List.length_append]; rfl
            · simp
          have hg4 : Below w2.heap.size U w4 := ((Below.refl w2.heap.size U).alloc hbu _).grown hgrow (by simp; omega) (fun q hq => (HOU.out.lt q hq).1)
          have HZ4 : Hid (w4.heap[w.heap.size]? = _) := (hg4.block _ hlw).trans HZU.out
          have HBT4 : Hid (But w.heap.size w2 w4) := ⟨hg4.os.trans HBU.out.os, hg4.tape.trans HBU.out.tape, hg4.output.trans HBU.out.output, Nat.le_trans hbu hg4.size, fun j hj hne => (hg4.block j hj).trans (HBU.out.block j hj hne)⟩
          have HK4 : Hid (Kd.state.K (vw w4 (w.heap.size :: v'.ownBlock.toList)) (dropS t x.name) _) := Kd.state.mono (vw_grown hgrow (by simpa using hv4)) (Kd.state.mono (vw_alloc _) HKU.out)
          have HOK4 : Hid (∀ z ∈ out ++ [x.name], sok z) := fun z hz => by
            rcases List.mem_append.1 hz with h | h
            · exact HOK.out z h
            · obtain rfl : z = x.name := by simpa using h
              exact HXOK.out
          have HB4 : Hid (Below w.heap.size w w4) := HB2.out.trans (HBT4.out.below (Nat.le_refl _) (by omega))
          have HP4 : Hid (Kd.pod.V (vw w4 []) (.agg #[.string p.name, .string p.owner, .int .i64 p.prio, .slice P1 p.need.length p1, .slice P2 p.labels.length p2, .slice P3 p.sel.length p3, .slice P4 p.tols.length p4, .string p.key, .int .i64 p.most, .string p.node, .bool p.hold]) p) := ⟨_, rfl, Kd.pod.mono (vw_below HB4.out) HKP.out⟩
          have HV4 : Hid (Kd.state.V (vw w4 []) (.agg #[.slice D1 (dropS t x.name).nodes.length y1, .slice D2 (dropS t x.name).pods.length y2, .slice D3 (dropS t x.name).budgets.length y3]) (dropS t x.name)) := ⟨_, rfl, Kd.state.mono (vw_sub (by simp)) HK4.out⟩
          have g2 := (HBT4.out.block _ (blk_lt HY.out) (by omega)).trans HY.out
          obtain ⟨z, zf⟩ := blk_all HZ4.out
          obtain ⟨y, yf⟩ := blk_all g2
          have hdn : (dropS t x.name).nodes.length ≤ 1000 := htn
          have hlo : (out ++ [x.name]).length ≤ k + 1 := by rw [List.length_append]; simp; omega
          obtain ⟨o2, ho2⟩ : ∃ o2, out ++ [x.name] = o2 := ⟨_, rfl⟩
          have hg := HG2.out
          rw [if_pos trivial] at hg
          rw [ho2] at HO4 HOK4 hlo hg
          clear hown' hgrow hv4 hg4 ho2 HOU HKU HBU HZU hbu v vf g2 HOK HXOK
          go_wp2_with fail
          refine (Fit_calls _ _ (dropS t x.name) p name _ HV4.out HP4.out hdn (by omega)).mono ?_
          rintro e w5 ⟨rfl, hb5⟩
          have HB5 := Lib.hid hb5
          obtain ⟨F2, hF2⟩ : ∃ F, fitQ (dropS t x.name) p name = F := ⟨_, rfl⟩
          rw [hF2] at hg ⊢
          clear z zf y yf hb5 hF2 HG2
          by_cases h0 : F2 = 0
          · subst h0
            rw [if_pos rfl] at hg
            have HR2 : Hid (R = (o2, true)) := hg.symm
            obtain ⟨A, c, rfl, hS⟩ := (own_strs (own_below HO4.out HB5.out) (by omega) HOK4.out).val
            have HGE : ∀ ad, A = some ad → w.heap.size ≤ ad.block := fun ad had => by
              have := (HO4.out.lt ad.block (by rw [had]; rfl)).1
              omega
            have HS5 := Lib.hid (strs_nx hS HGE)
            clear hg hS HGE
            go_wp2
            go_ret2
            exact onDone_some HR2.out HS5.out (HB4.out.trans (HB5.out.mono HB4.out.size))
          · rw [if_neg h0] at hg
            have HG5 := Lib.hid hg
            have t1 : (F2 == 0) = false := by simp [h0]
            clear hg h0
            go_wp2
            go_roundw
            case rel => exact ⟨k + 1, dropS t x.name, _, o2, by omega, by go_num, hlo, hdn, by omega, (HB5.out.block _ (blk_lt HZ4.out)).trans HZ4.out, Kd.state.mono (vw_below HB5.out) HK4.out, HBT4.out.then HB5.out, own_below HO4.out HB5.out, HOK4.out, HG5.out⟩
            case measure => simp [intOf]; omega
      · obtain rfl : k = L.length := by omega
        have hg := HGO.out
        rw [List.drop_length] at hg
        have HR2 : Hid (R = ([], false)) := hg.symm
        have HB4 : Hid (Below w.heap.size w wr) := HB2.out.trans (HBT.out.below (Nat.le_refl _) (by omega))
        clear hg HGO
        go_wp2
        go_ret2
        exact onDone_none HR2.out HB4.out
end Go.Proofs.YtnmhicgbdalniaaGreatDoor
namespace Go.Proofs.YtnmhicgbdalniaaGreatDoor
open Go.RowKit

/-! Several blocks, one behind the other. -/
theorem al2 (w : World) (a b : Obj) : ∃ W : World, W = ((w.alloc a).alloc b) ∧ Below w.heap.size w W ∧ W.heap[w.heap.size]? = some a ∧ W.heap[w.heap.size + 1]? = some b ∧ W.heap.size = w.heap.size + 2 := by
  refine ⟨_, rfl, Below.then (alloc_below _ _) (alloc_below _ _), ?_, ?_, ?_⟩
  all_goals first | (simp only [heap_alloc, Array.size_push]; done) | (simp only [heap_alloc, Array.getElem?_push, Array.size_push]; repeat (first | rw [if_pos trivial] | rw [if_pos (by omega)] | rw [if_neg (by omega)]))
theorem al3 (w : World) (a b c : Obj) : ∃ W : World, W = (((w.alloc a).alloc b).alloc c) ∧ Below w.heap.size w W ∧ W.heap[w.heap.size]? = some a ∧ W.heap[w.heap.size + 1]? = some b ∧ W.heap[w.heap.size + 1 + 1]? = some c ∧ W.heap.size = w.heap.size + 3 := by
  refine ⟨_, rfl, Below.then (Below.then (alloc_below _ _) (alloc_below _ _)) (alloc_below _ _), ?_, ?_, ?_, ?_⟩
  all_goals first | (simp only [heap_alloc, Array.size_push]; done) | (simp only [heap_alloc, Array.getElem?_push, Array.size_push]; repeat (first | rw [if_pos trivial] | rw [if_pos (by omega)] | rw [if_neg (by omega)]))
theorem al4 (w : World) (a b c d : Obj) : ∃ W : World, W = ((((w.alloc a).alloc b).alloc c).alloc d) ∧ Below w.heap.size w W ∧ W.heap[w.heap.size]? = some a ∧ W.heap[w.heap.size + 1]? = some b ∧ W.heap[w.heap.size + 1 + 1]? = some c ∧ W.heap[w.heap.size + 1 + 1 + 1]? = some d ∧ W.heap.size = w.heap.size + 4 := by
  refine ⟨_, rfl, Below.then (Below.then (Below.then (alloc_below _ _) (alloc_below _ _)) (alloc_below _ _)) (alloc_below _ _), ?_, ?_, ?_, ?_, ?_⟩
  all_goals first | (simp only [heap_alloc, Array.size_push]; done) | (simp only [heap_alloc, Array.getElem?_push, Array.size_push]; repeat (first | rw [if_pos trivial] | rw [if_pos (by omega)] | rw [if_neg (by omega)]))
theorem al5 (w : World) (a b c d e : Obj) : ∃ W : World, W = (((((w.alloc a).alloc b).alloc c).alloc d).alloc e) ∧ Below w.heap.size w W ∧ W.heap[w.heap.size]? = some a ∧ W.heap[w.heap.size + 1]? = some b ∧ W.heap[w.heap.size + 1 + 1]? = some c ∧ W.heap[w.heap.size + 1 + 1 + 1]? = some d ∧ W.heap[w.heap.size + 1 + 1 + 1 + 1]? = some e ∧ W.heap.size = w.heap.size + 5 := by
  refine ⟨_, rfl, Below.then (Below.then (Below.then (Below.then (alloc_below _ _) (alloc_below _ _)) (alloc_below _ _)) (alloc_below _ _)) (alloc_below _ _), ?_, ?_, ?_, ?_, ?_, ?_⟩
  all_goals first | (simp only [heap_alloc, Array.size_push]; done) | (simp only [heap_alloc, Array.getElem?_push, Array.size_push]; repeat (first | rw [if_pos trivial] | rw [if_pos (by omega)] | rw [if_neg (by omega)]))
theorem al6 (w : World) (a b c d e f : Obj) : ∃ W : World, W = ((((((w.alloc a).alloc b).alloc c).alloc d).alloc e).alloc f) ∧ Below w.heap.size w W ∧ W.heap[w.heap.size]? = some a ∧ W.heap[w.heap.size + 1]? = some b ∧ W.heap[w.heap.size + 1 + 1]? = some c ∧ W.heap[w.heap.size + 1 + 1 + 1]? = some d ∧ W.heap[w.heap.size + 1 + 1 + 1 + 1]? = some e ∧ W.heap[w.heap.size + 1 + 1 + 1 + 1 + 1]? = some f ∧ W.heap.size = w.heap.size + 6 := by
  refine ⟨_, rfl, Below.then (Below.then (Below.then (Below.then (Below.then (alloc_below _ _) (alloc_below _ _)) (alloc_below _ _)) (alloc_below _ _)) (alloc_below _ _)) (alloc_below _ _), ?_, ?_, ?_, ?_, ?_, ?_, ?_⟩
  all_goals first | (simp only [heap_alloc, Array.size_push]; done) | (simp only [heap_alloc, Array.getElem?_push, Array.size_push]; repeat (first | rw [if_pos trivial] | rw [if_pos (by omega)] | rw [if_neg (by omega)]))
end Go.Proofs.YtnmhicgbdalniaaGreatDoor
namespace Go.Proofs.YtnmhicgbdalniaaGreatDoor
open Go.RowKit Go.Sort

/-! preempt.For. -/
def Kd.way : Kd Wy where
  sz := 3
  K := fun h x cs => ∃ A c, cs = [.string x.pod, .string x.to_, .slice A x.holds.length c] ∧ (sok x.pod ∧ sok x.to_) ∧ Kd.str.S h (.slice A x.holds.length c) x.holds
  len := by rintro h x cs ⟨_, _, rfl, _⟩; rfl
  mono := by rintro h k x cs hk ⟨A, c, e, h0, h1⟩; exact ⟨A, c, e, h0, h1.mono hk⟩
theorem way_zero (h : View) : Kd.way.K h zWy [.string ⟨#[]⟩, .string ⟨#[]⟩, .slice none 0 0] := ⟨none, 0, rfl, ⟨by unfold sok; decide, by unfold sok; decide⟩, Kd.S.nil _ _⟩
def WyDone (r : Wy × Bool) (w : World) (e : Ending) (w' : World) : Prop := ∃ cs : List Value, e = .returned (.tuple #[.agg cs.toArray, .bool r.2]) ∧ Kd.way.K (nx w' w.heap.size none) r.1 cs ∧ Below w.heap.size w w'
theorem wy_is {r : Wy × Bool} {x : Wy} {b : Bool} {cs : List Value} {w w' : World} (h : r = (x, b)) (hk : Kd.way.K (nx w' w.heap.size none) x cs) (hb : Below w.heap.size w w') : WyDone r w (.returned (.tuple #[.agg cs.toArray, .bool b])) w' := by
  subst h; exact ⟨cs, rfl, hk, hb⟩
theorem better_no {p : Pd} {n : ByteArray} {acc : Wy × Bool} {h : List ByteArray × Bool} (hb : (h.2 && (!acc.2 || decide (h.1.length < acc.1.holds.length))) = false) : betterW p n acc h = acc := by
  unfold betterW; rw [hb]; rfl
theorem better_yes {p : Pd} {n : ByteArray} {acc : Wy × Bool} {h : List ByteArray × Bool} (hb : (h.2 && (!acc.2 || decide (h.1.length < acc.1.holds.length))) = true) : betterW p n acc h = (⟨p.name, n, h.1⟩, true) := by
  unfold betterW; rw [if_pos hb]
set_option maxHeartbeats 8000000 in
set_option maxRecDepth 100000 in
theorem For_calls (vs vp : Value) (s : St) (p : Pd) (w : World) (hs : Kd.state.V (vw w []) vs s) (hp : Kd.pod.V (vw w []) vp p) (hn : s.nodes.length ≤ 1000) (hpn : s.pods.length ≤ 1000) :
    Calls Tryz.prog 21 #[vs, vp] w (WyDone (forW fitQ s p) w) := by
  obtain ⟨cs, rfl, hks⟩ := hs
  obtain ⟨cp, rfl, hkp⟩ := hp
  have HKS := Lib.hid hks
  have HKP := Lib.hid hkp
  obtain ⟨A1, c1, A2, c2, A3, c3, rfl, s1, -⟩ := hks
  obtain ⟨P1, p1, P2, p2, P3, p3, P4, p4, rfl, hpok, -⟩ := hkp
  obtain ⟨-, f1, f2⟩ := s1.form
  have S1 := Lib.hid s1
  have HPN : Hid (sok p.name) := hpok.1.1
  obtain ⟨R, hR⟩ : ∃ R, forW fitQ s p = R := ⟨_, rfl⟩
  rw [hR]
  unfold forW at hR
  obtain ⟨ph, hph⟩ : ∃ ph, p.hold = ph := ⟨_, rfl⟩
  rw [hph] at hR ⊢
  rw [hph] at HKP
  have HR := Lib.hid hR
  have HPH := Lib.hid hph
  clear s1 hpok hR hph
  go_enter Tryz.func21, Tryz.ntmps21
  go_upto_region 3 with fail
  obtain ⟨W, hW, hbw, k1, k2, k3, k4, hWs⟩ := al4 w (.cells #[.slice A1 s.nodes.length c1, .slice A2 s.pods.length c2, .slice A3 s.budgets.length c3] 26) (.cells #[.string p.name, .string p.owner, .int .i64 p.prio, .slice P1 p.need.length p1, .slice P2 p.labels.length p2, .slice P3 p.sel.length p3, .slice P4 p.tols.length p4, .string p.key, .int .i64 p.most, .string p.node, .bool ph] 35) (.cells #[.string ⟨#[]⟩, .string ⟨#[]⟩, .slice none 0 0] 55) (.cells #[.string ⟨#[]⟩, .string ⟨#[]⟩, .slice none 0 0] 55)
  rw [← hW]
  have HBW := Lib.hid hbw
  have HK := Lib.hid (And.intro k1 (And.intro k2 (And.intro k3 k4)))
  obtain ⟨y, yf⟩ := blk_all k2
  obtain ⟨v, vf⟩ := blk_all k4
  obtain ⟨r, rf⟩ := blk_all k3
  clear hW hbw k1 k2 k3 k4
  cases ph with
  | true =>
    have HX : Hid (R = (zWy, false)) := by
      show R = _
      rw [← HR.out, if_pos rfl]
    go_wp2
    have q2 := blk_set (blk_set (blk_set HK.out.2.2.1 (j := 0) (.string ⟨#[]⟩)) (j := 1) (.string ⟨#[]⟩)) (j := 2) (.slice none 0 0)
    refine ret_row2 (cs := [.string ⟨#[]⟩, .string ⟨#[]⟩, .slice none 0 0]) rfl rfl q2 Tryz.underlying55 rfl (by kernel_rfl) rfl (wy_is HX.out (way_zero _) ?_)
    exact Below.setCell (Below.setCell (Below.setCell HBW.out (p := ⟨w.heap.size + 1 + 1, 0, none⟩) (by show _ ≤ w.heap.size + 1 + 1; omega) _) (p := ⟨w.heap.size + 1 + 1, 1, none⟩) (by show _ ≤ w.heap.size + 1 + 1; omega) _) (p := ⟨w.heap.size + 1 + 1, 2, none⟩) (by show _ ≤ w.heap.size + 1 + 1; omega) _
  | false =>
    have HX : Hid (forGo fitQ s p (s.nodes.drop 0) (zWy, false) = R) := by
      show _ = R
      rw [← HR.out, if_neg (by decide)]; rfl
    clear HR v vf r rf
    have HVS : Hid (Kd.state.V (vw w []) (.agg #[.slice A1 s.nodes.length c1, .slice A2 s.pods.length c2, .slice A3 s.budgets.length c3]) s) := ⟨_, rfl, HKS.out⟩
    have HVP : Hid (Kd.pod.V (vw w []) (.agg #[.string p.name, .string p.owner, .int .i64 p.prio, .slice P1 p.need.length p1, .slice P2 p.labels.length p2, .slice P3 p.sel.length p3, .slice P4 p.tols.length p4, .string p.key, .int .i64 p.most, .string p.node, .bool false]) p) := ⟨_, rfl, HKP.out⟩
    have l0 := blk_lt HK.out.1
    have l1 := blk_lt HK.out.2.1
    have l3 := blk_lt HK.out.2.2.2
    obtain ⟨z, zf⟩ := blk_all HK.out.1
    go_wp2
    clear z zf y yf
    go_loopw [7, 18] (fun f i wr => ∃ (k : Nat) (aw : Wy) (ab : Bool) (A : Option Addr) (c : Nat), k ≤ s.nodes.length ∧ i = .int .i64 k ∧ f = .bool ab ∧ Hid (wr.heap[w.heap.size + 1 + 1 + 1]? = some (.cells #[.string aw.pod, .string aw.to_, .slice A aw.holds.length c] 55 (0, 0))) ∧ Hid (Kd.way.K (nx wr W.heap.size none) aw [.string aw.pod, .string aw.to_, .slice A aw.holds.length c])
      ∧ Hid (But (w.heap.size + 1 + 1 + 1) W wr) ∧ Hid (forGo fitQ s p (s.nodes.drop k) (aw, ab) = R)) (fun _ i _ => s.nodes.length - (intOf i).toNat)
    case atStart => exact ⟨0, zWy, false, none, 0, Nat.zero_le _, rfl, rfl, HK.out.2.2.2, way_zero _, But.refl _ _, HX.out⟩
    case round =>
      obtain ⟨k, aw, ab, A, c, hk, rfl, rfl, HO, HKA, HBT, HGO⟩ := hrel
      have hwr := HBT.out.size
      have HBX : Hid (Below w.heap.size w wr) := HBW.out.trans (HBT.out.below (by omega) (by omega))
      by_cases hlt : k < s.nodes.length
      · have hgo := HGO.out
        rw [forGo_at fitQ s p hlt] at hgo
        obtain ⟨b, off, cs, rfl, hnn, hc⟩ := S1.out.both HBX.out k hlt
        obtain ⟨x, hx⟩ : ∃ x, s.nodes[k] = x := ⟨_, rfl⟩
        rw [hx] at hnn hgo
        obtain ⟨B1, d1, B2, d2, B3, d3, rfl, hxn, -⟩ := hnn
        have HXN := Lib.hid hxn
        have HC : Hid (wr.rangeAt b (off + k * 5) _) := hc
        have HG := Lib.hid hgo
        clear hc hx hgo hxn HGO
        have HVX := Lib.hid (alloc_below wr (.cells #[.string x.name, .slice B1 x.cap.length d1, .slice B2 x.labels.length d2, .slice B3 x.taints.length d3, .bool x.cordon] 94))
        have hy := blk_last wr (.cells #[.string x.name, .slice B1 x.cap.length d1, .slice B2 x.labels.length d2, .slice B3 x.taints.length d3, .bool x.cordon] 94)
        go_upto_region 8 with (with_reducible refine wpList_load_mid rfl 94 _ rfl b (off + k * 5) rfl _ _ HC.out Tryz.underlying94 rfl (by kernel_rfl) ?_)
        generalize wr.alloc (.cells #[.string x.name, .slice B1 x.cap.length d1, .slice B2 x.labels.length d2, .slice B3 x.taints.length d3, .bool x.cordon] 94) = V at HVX hy ⊢
        have HYX := Lib.hid hy
        have HBV := Lib.hid (Below.then HBX.out HVX.out)
        have HBTV := Lib.hid (HBT.out.then HVX.out)
        have g0 := (HBTV.out.block _ l0 (by omega)).trans HK.out.1
        have g1 := (HBTV.out.block _ l1 (by omega)).trans HK.out.2.1
        have hVs := HVX.out.size
        obtain ⟨z, zf⟩ := blk_all g0
        obtain ⟨y, yf⟩ := blk_all g1
        obtain ⟨v, vf⟩ := blk_all hy
        clear g0 g1 hy HC
        go_wp2_with fail
        refine (WayOn_calls _ _ s p x.name _ (V_below HVS.out HBV.out) (V_below HVP.out HBV.out) hn hpn).mono ?_
        obtain ⟨hl, hok, ho⟩ : ∃ hl hok, onW fitQ s p x.name = (hl, hok) := ⟨_, _, rfl⟩
        have hg := HG.out
        rw [ho] at hg ⊢
        rintro e w5 ⟨A', c', rfl, hS, hb⟩
        simp only at hS
        have HS5 := Lib.hid hS
        have HB5 := Lib.hid (Below.then HBV.out hb)
        have HBT5 := Lib.hid (HBTV.out.then hb)
        have HO5 := Lib.hid ((hb.block _ (by omega)).trans ((HVX.out.block _ (by omega)).trans HO.out))
        have HKA5 := Lib.hid (Kd.way.mono (nx_below hb) (Kd.way.mono (nx_below HVX.out) HKA.out))
        have g1 := (HBT5.out.block _ l1 (by omega)).trans HK.out.2.1
        have gy := (hb.block _ (blk_lt HYX.out)).trans HYX.out
        clear z zf y yf v vf hS hb ho HG HO HKA HBV HBTV HYX HVX HBX HBT
        obtain ⟨z, zf⟩ := blk_all HO5.out
        obtain ⟨y, yf⟩ := blk_all g1
        obtain ⟨v, vf⟩ := blk_all gy
        clear g1 gy
        cases hok with
        | false =>
          rw [better_no rfl] at hg
          have HG5 := Lib.hid hg
          clear hg
          go_wp2
          go_roundw
          case rel => exact ⟨k + 1, aw, ab, A, c, by omega, by go_num, rfl, HO5.out, HKA5.out, HBT5.out, HG5.out⟩
          case measure => simp [intOf]; omega
        | true =>
          cases ab with
          | false =>
            rw [better_yes rfl] at hg
            have HG5 := Lib.hid hg
            clear hg
            go_wp2
            rw [show (((w5.setCell ⟨w.heap.size + 1 + 1 + 1, 0, none⟩ (.string p.name)).setCell ⟨w.heap.size + 1 + 1 + 1, 1, none⟩ (.string x.name)).setCell ⟨w.heap.size + 1 + 1 + 1, 2, none⟩ (.slice A' hl.length c')) = w5.setCells (w.heap.size + 1 + 1 + 1) 0 [.string p.name, .string x.name, .slice A' hl.length c'] from rfl]
            have hset := setCells_all (cs := [.string p.name, .string x.name, .slice A' hl.length c']) HO5.out rfl
            have hK6 : Kd.way.K (nx (w5.setCells (w.heap.size + 1 + 1 + 1) 0 [.string p.name, .string x.name, .slice A' hl.length c']) W.heap.size none) ⟨p.name, x.name, hl⟩ [.string p.name, .string x.name, .slice A' hl.length c'] := ⟨A', c', rfl, ⟨HPN.out, HXN.out⟩, (HS5.out.mono (nx_lo (lo := W.heap.size) (by omega))).mono (nx_setCells _ _ (by omega) (Nat.le_refl _))⟩
            go_roundw
            case rel => exact ⟨k + 1, ⟨p.name, x.name, hl⟩, true, A', c', by omega, by go_num, rfl, hset, hK6, HBT5.out.setCells _ _, HG5.out⟩
            case measure => simp [intOf]; omega
          | true =>
            by_cases hq : hl.length < aw.holds.length
            · rw [better_yes (by simp [hq])] at hg
              have HG5 := Lib.hid hg
              have q1 : decide ((hl.length : Int) < (aw.holds.length : Int)) = true := by simp; omega
              clear hg
              go_wp2
              rw [show (((w5.setCell ⟨w.heap.size + 1 + 1 + 1, 0, none⟩ (.string p.name)).setCell ⟨w.heap.size + 1 + 1 + 1, 1, none⟩ (.string x.name)).setCell ⟨w.heap.size + 1 + 1 + 1, 2, none⟩ (.slice A' hl.length c')) = w5.setCells (w.heap.size + 1 + 1 + 1) 0 [.string p.name, .string x.name, .slice A' hl.length c'] from rfl]
              have hset := setCells_all (cs := [.string p.name, .string x.name, .slice A' hl.length c']) HO5.out rfl
              have hK6 : Kd.way.K (nx (w5.setCells (w.heap.size + 1 + 1 + 1) 0 [.string p.name, .string x.name, .slice A' hl.length c']) W.heap.size none) ⟨p.name, x.name, hl⟩ [.string p.name, .string x.name, .slice A' hl.length c'] := ⟨A', c', rfl, ⟨HPN.out, HXN.out⟩, (HS5.out.mono (nx_lo (lo := W.heap.size) (by omega))).mono (nx_setCells _ _ (by omega) (Nat.le_refl _))⟩
              go_roundw
              case rel => exact ⟨k + 1, ⟨p.name, x.name, hl⟩, true, A', c', by omega, by go_num, rfl, hset, hK6, HBT5.out.setCells _ _, HG5.out⟩
              case measure => simp [intOf]; omega
            · rw [better_no (by simp [hq])] at hg
              have HG5 := Lib.hid hg
              have q1 : decide ((hl.length : Int) < (aw.holds.length : Int)) = false := by simp; omega
              clear hg
              go_wp2
              go_roundw
              case rel => exact ⟨k + 1, aw, true, A, c, by omega, by go_num, rfl, HO5.out, HKA5.out, HBT5.out, HG5.out⟩
              case measure => simp [intOf]; omega
      · obtain rfl : k = s.nodes.length := by omega
        have hg := HGO.out
        rw [List.drop_length] at hg
        have HR2 : Hid (R = (aw, ab)) := hg.symm
        have g2 := (HBT.out.block _ (blk_lt HK.out.2.2.1) (by omega)).trans HK.out.2.2.1
        have HQ2 := Lib.hid g2
        obtain ⟨z, zf⟩ := blk_all HO.out
        obtain ⟨y, yf⟩ := blk_all g2
        clear hg HGO g2
        go_wp2
        rw [show (((wr.setCell ⟨w.heap.size + 1 + 1, 0, none⟩ (.string aw.pod)).setCell ⟨w.heap.size + 1 + 1, 1, none⟩ (.string aw.to_)).setCell ⟨w.heap.size + 1 + 1, 2, none⟩ (.slice A aw.holds.length c)) = wr.setCells (w.heap.size + 1 + 1) 0 [.string aw.pod, .string aw.to_, .slice A aw.holds.length c] from rfl]
        have hset := setCells_all (cs := [.string aw.pod, .string aw.to_, .slice A aw.holds.length c]) HQ2.out rfl
        refine ret_row2 (cs := [.string aw.pod, .string aw.to_, .slice A aw.holds.length c]) rfl rfl hset Tryz.underlying55 rfl (by kernel_rfl) rfl (wy_is HR2.out ?_ (Below.setCells HBX.out (by omega) _ _))
        exact Kd.way.mono (nx_setCells _ _ (by omega) (by omega)) HKA.out
end Go.Proofs.YtnmhicgbdalniaaGreatDoor
namespace Go.Proofs.YtnmhicgbdalniaaGreatDoor
open Go.RowKit Go.Sort

/-! Small laws for what the laws' own functions make. -/
theorem Kd.S.cells {α : Type} {d : Kd α} {h : View} {b : Nat} {T : TypeId} {css : List (List Value)} {xs : List α} (hb : h b = some (.cells css.flatten.toArray T (0, 0))) (hl : css.length = xs.length)
    (hk : ∀ (j : Nat) (x : α), xs[j]? = some x → ∃ cs, css[j]? = some cs ∧ d.K h x cs) (hx : xs.length ≤ 140737488351232) : d.S h (.slice (some ⟨b, 0, none⟩) xs.length xs.length) xs := by
  have hlen : ∀ c ∈ css, c.length = d.sz := fun c hc => by
    obtain ⟨j, hj, rfl⟩ := List.getElem_of_mem hc
    obtain ⟨cs, a, b⟩ := hk j xs[j] (List.getElem?_eq_getElem (by omega))
    rw [List.getElem?_eq_getElem hj] at a
    injection a with a
    rw [a]; exact d.len b
  refine ⟨_, _, rfl, Nat.le_refl _, hx, fun e => (by cases e), fun _ => ⟨b, 0, rfl, fun j x hj => ?_⟩⟩
  obtain ⟨cs, a, k⟩ := hk j x hj
  refine ⟨cs, k, fun i u hu => ?_⟩
  have hi : i < d.sz := by have := (List.getElem?_eq_some_iff.1 hu).1; rw [d.len k] at this; exact this
  have h4 := flatten_get css hlen j i cs a hi
  rw [hu] at h4
  simp [View.cell?, hb]
  simpa using h4
theorem sok_small {l : List UInt8} (h : l.length ≤ 50) : sok (tx l) := by
  show (tx l).size ≤ _
  have : (tx l).size = l.length := rfl
  omega
theorem strs_two {w : World} {b : Nat} {a c : ByteArray} {T : TypeId} (h : w.heap[b]? = some (.cells #[.string a, .string c] T (0, 0))) (ha : sok a := by (unfold sok; decide)) (hc : sok c := by (unfold sok; decide)) : Kd.str.S (vw w []) (.slice (some ⟨b, 0, none⟩) 2 2) [a, c] :=
  Kd.S.of_block (f := Value.string) (xs := [a, c]) h (by simp) (by simp) (fun x hx => by
    rcases List.mem_cons.1 hx with rfl | hx
    · exact ha
    · obtain rfl : x = c := by simpa using hx
      exact hc)
theorem Names_same (va vb : Value) (a : List ByteArray) (w : World) (ha : Kd.str.S (vw w []) va a) (hb : Kd.str.S (vw w []) vb a) : Calls Tryz.prog 54 #[va, vb] w (BoolDone true w) :=
  (Names_calls va vb a a w ha hb).mono fun _ _ h => ⟨h.1.trans (by simp), h.2⟩
theorem strs_single {w : World} {b : Nat} {a : ByteArray} {T : TypeId} (h : w.heap[b]? = some (.cells #[.string a] T (0, 0))) (ha : sok a) : Kd.str.S (vw w []) (.slice (some ⟨b, 0, none⟩) 1 1) [a] :=
  Kd.S.of_block (f := Value.string) (xs := [a]) h (by simp) (by simp) (fun x hx => by
    obtain rfl : x = a := by simpa using hx
    exact ha)
theorem list_of2 {α : Type} {l : List α} (h : l.length = 2) : ∃ x0 x1, l = [x0, x1] := by
  obtain _ | ⟨x0, l⟩ := l
  · simp at h
  obtain _ | ⟨x1, l⟩ := l
  · simp at h
  obtain rfl : l = [] := List.eq_nil_of_length_eq_zero (by simpa using h)
  exact ⟨x0, x1, rfl⟩
theorem list_of3 {α : Type} {l : List α} (h : l.length = 3) : ∃ x0 x1 x2, l = [x0, x1, x2] := by
  obtain _ | ⟨x0, l⟩ := l
  · simp at h
  obtain _ | ⟨x1, l⟩ := l
  · simp at h
  obtain _ | ⟨x2, l⟩ := l
  · simp at h
  obtain rfl : l = [] := List.eq_nil_of_length_eq_zero (by simpa using h)
  exact ⟨x0, x1, x2, rfl⟩
theorem list_of4 {α : Type} {l : List α} (h : l.length = 4) : ∃ x0 x1 x2 x3, l = [x0, x1, x2, x3] := by
  obtain _ | ⟨x0, l⟩ := l
  · simp at h
  obtain _ | ⟨x1, l⟩ := l
  · simp at h
  obtain _ | ⟨x2, l⟩ := l
  · simp at h
  obtain _ | ⟨x3, l⟩ := l
  · simp at h
  obtain rfl : l = [] := List.eq_nil_of_length_eq_zero (by simpa using h)
  exact ⟨x0, x1, x2, x3, rfl⟩
theorem list_of5 {α : Type} {l : List α} (h : l.length = 5) : ∃ x0 x1 x2 x3 x4, l = [x0, x1, x2, x3, x4] := by
  obtain _ | ⟨x0, l⟩ := l
  · simp at h
  obtain _ | ⟨x1, l⟩ := l
  · simp at h
  obtain _ | ⟨x2, l⟩ := l
  · simp at h
  obtain _ | ⟨x3, l⟩ := l
  · simp at h
  obtain _ | ⟨x4, l⟩ := l
  · simp at h
  obtain rfl : l = [] := List.eq_nil_of_length_eq_zero (by simpa using h)
  exact ⟨x0, x1, x2, x3, x4, rfl⟩
theorem list_of6 {α : Type} {l : List α} (h : l.length = 6) : ∃ x0 x1 x2 x3 x4 x5, l = [x0, x1, x2, x3, x4, x5] := by
  obtain _ | ⟨x0, l⟩ := l
  · simp at h
  obtain _ | ⟨x1, l⟩ := l
  · simp at h
  obtain _ | ⟨x2, l⟩ := l
  · simp at h
  obtain _ | ⟨x3, l⟩ := l
  · simp at h
  obtain _ | ⟨x4, l⟩ := l
  · simp at h
  obtain _ | ⟨x5, l⟩ := l
  · simp at h
  obtain rfl : l = [] := List.eq_nil_of_length_eq_zero (by simpa using h)
  exact ⟨x0, x1, x2, x3, x4, x5, rfl⟩
theorem list_of7 {α : Type} {l : List α} (h : l.length = 7) : ∃ x0 x1 x2 x3 x4 x5 x6, l = [x0, x1, x2, x3, x4, x5, x6] := by
  obtain _ | ⟨x0, l⟩ := l
  · simp at h
  obtain _ | ⟨x1, l⟩ := l
  · simp at h
  obtain _ | ⟨x2, l⟩ := l
  · simp at h
  obtain _ | ⟨x3, l⟩ := l
  · simp at h
  obtain _ | ⟨x4, l⟩ := l
  · simp at h
  obtain _ | ⟨x5, l⟩ := l
  · simp at h
  obtain _ | ⟨x6, l⟩ := l
  · simp at h
  obtain rfl : l = [] := List.eq_nil_of_length_eq_zero (by simpa using h)
  exact ⟨x0, x1, x2, x3, x4, x5, x6, rfl⟩
theorem list_of8 {α : Type} {l : List α} (h : l.length = 8) : ∃ x0 x1 x2 x3 x4 x5 x6 x7, l = [x0, x1, x2, x3, x4, x5, x6, x7] := by
  obtain _ | ⟨x0, l⟩ := l
  · simp at h
  obtain _ | ⟨x1, l⟩ := l
  · simp at h
  obtain _ | ⟨x2, l⟩ := l
  · simp at h
  obtain _ | ⟨x3, l⟩ := l
  · simp at h
  obtain _ | ⟨x4, l⟩ := l
  · simp at h
  obtain _ | ⟨x5, l⟩ := l
  · simp at h
  obtain _ | ⟨x6, l⟩ := l
  · simp at h
  obtain _ | ⟨x7, l⟩ := l
  · simp at h
  obtain rfl : l = [] := List.eq_nil_of_length_eq_zero (by simpa using h)
  exact ⟨x0, x1, x2, x3, x4, x5, x6, x7, rfl⟩
theorem list_of9 {α : Type} {l : List α} (h : l.length = 9) : ∃ x0 x1 x2 x3 x4 x5 x6 x7 x8, l = [x0, x1, x2, x3, x4, x5, x6, x7, x8] := by
  obtain _ | ⟨x0, l⟩ := l
  · simp at h
  obtain _ | ⟨x1, l⟩ := l
  · simp at h
  obtain _ | ⟨x2, l⟩ := l
  · simp at h
  obtain _ | ⟨x3, l⟩ := l
  · simp at h
  obtain _ | ⟨x4, l⟩ := l
  · simp at h
  obtain _ | ⟨x5, l⟩ := l
  · simp at h
  obtain _ | ⟨x6, l⟩ := l
  · simp at h
  obtain _ | ⟨x7, l⟩ := l
  · simp at h
  obtain _ | ⟨x8, l⟩ := l
  · simp at h
  obtain rfl : l = [] := List.eq_nil_of_length_eq_zero (by simpa using h)
  exact ⟨x0, x1, x2, x3, x4, x5, x6, x7, x8, rfl⟩
theorem list_of10 {α : Type} {l : List α} (h : l.length = 10) : ∃ x0 x1 x2 x3 x4 x5 x6 x7 x8 x9, l = [x0, x1, x2, x3, x4, x5, x6, x7, x8, x9] := by
  obtain _ | ⟨x0, l⟩ := l
  · simp at h
  obtain _ | ⟨x1, l⟩ := l
  · simp at h
  obtain _ | ⟨x2, l⟩ := l
  · simp at h
  obtain _ | ⟨x3, l⟩ := l
  · simp at h
  obtain _ | ⟨x4, l⟩ := l
  · simp at h
  obtain _ | ⟨x5, l⟩ := l
  · simp at h
  obtain _ | ⟨x6, l⟩ := l
  · simp at h
  obtain _ | ⟨x7, l⟩ := l
  · simp at h
  obtain _ | ⟨x8, l⟩ := l
  · simp at h
  obtain _ | ⟨x9, l⟩ := l
  · simp at h
  obtain rfl : l = [] := List.eq_nil_of_length_eq_zero (by simpa using h)
  exact ⟨x0, x1, x2, x3, x4, x5, x6, x7, x8, x9, rfl⟩
theorem list_of11 {α : Type} {l : List α} (h : l.length = 11) : ∃ x0 x1 x2 x3 x4 x5 x6 x7 x8 x9 x10, l = [x0, x1, x2, x3, x4, x5, x6, x7, x8, x9, x10] := by
  obtain _ | ⟨x0, l⟩ := l
  · simp at h
  obtain _ | ⟨x1, l⟩ := l
  · simp at h
  obtain _ | ⟨x2, l⟩ := l
  · simp at h
  obtain _ | ⟨x3, l⟩ := l
  · simp at h
  obtain _ | ⟨x4, l⟩ := l
  · simp at h
  obtain _ | ⟨x5, l⟩ := l
  · simp at h
  obtain _ | ⟨x6, l⟩ := l
  · simp at h
  obtain _ | ⟨x7, l⟩ := l
  · simp at h
  obtain _ | ⟨x8, l⟩ := l
  · simp at h
  obtain _ | ⟨x9, l⟩ := l
  · simp at h
  obtain _ | ⟨x10, l⟩ := l
  · simp at h
  obtain rfl : l = [] := List.eq_nil_of_length_eq_zero (by simpa using h)
  exact ⟨x0, x1, x2, x3, x4, x5, x6, x7, x8, x9, x10, rfl⟩
theorem list_of12 {α : Type} {l : List α} (h : l.length = 12) : ∃ x0 x1 x2 x3 x4 x5 x6 x7 x8 x9 x10 x11, l = [x0, x1, x2, x3, x4, x5, x6, x7, x8, x9, x10, x11] := by
  obtain _ | ⟨x0, l⟩ := l
  · simp at h
  obtain _ | ⟨x1, l⟩ := l
  · simp at h
  obtain _ | ⟨x2, l⟩ := l
  · simp at h
  obtain _ | ⟨x3, l⟩ := l
  · simp at h
  obtain _ | ⟨x4, l⟩ := l
  · simp at h
  obtain _ | ⟨x5, l⟩ := l
  · simp at h
  obtain _ | ⟨x6, l⟩ := l
  · simp at h
  obtain _ | ⟨x7, l⟩ := l
  · simp at h
  obtain _ | ⟨x8, l⟩ := l
  · simp at h
  obtain _ | ⟨x9, l⟩ := l
  · simp at h
  obtain _ | ⟨x10, l⟩ := l
  · simp at h
  obtain _ | ⟨x11, l⟩ := l
  · simp at h
  obtain rfl : l = [] := List.eq_nil_of_length_eq_zero (by simpa using h)
  exact ⟨x0, x1, x2, x3, x4, x5, x6, x7, x8, x9, x10, x11, rfl⟩
end Go.Proofs.YtnmhicgbdalniaaGreatDoor
namespace Go.Proofs.YtnmhicgbdalniaaGreatDoor
open Go.RowKit

/-! Are they the same? At what is the same: nodes, pods, states, ways. -/
set_option maxHeartbeats 8000000 in
set_option maxRecDepth 100000 in
theorem SameNode_calls (va vb : Value) (x : Nd) (w : World) (ha : Kd.node.V (vw w []) va x) (hb : Kd.node.V (vw w []) vb x) : Calls Tryz.prog 166 #[va, vb] w (BoolDone true w) := by
  obtain ⟨cs, rfl, A1, a1, A2, a2, A3, a3, rfl, -, h1, h2, h3⟩ := ha
  obtain ⟨cs, rfl, B1, b1, B2, b2, B3, b3, rfl, -, k1, k2, k3⟩ := hb
  have H1 := Lib.hid h1
  have K1 := Lib.hid k1
  have H2 := Lib.hid h2
  have K2 := Lib.hid k2
  have H3 := Lib.hid h3
  have K3 := Lib.hid k3
  clear h1 k1 h2 k2 h3 k3
  go_enter Tryz.func166, Tryz.ntmps166
  go_upto_region 1 with fail
  obtain ⟨W, hW, hbw, k1, k2, hWs⟩ := al2 w (.cells #[.string x.name, .slice A1 x.cap.length a1, .slice A2 x.labels.length a2, .slice A3 x.taints.length a3, .bool x.cordon] 150) (.cells #[.string x.name, .slice B1 x.cap.length b1, .slice B2 x.labels.length b2, .slice B3 x.taints.length b3, .bool x.cordon] 150)
  rw [← hW]
  have HB := Lib.hid hbw
  have HK := Lib.hid (And.intro k1 k2)
  obtain ⟨z, zf⟩ := blk_all k1
  obtain ⟨y, yf⟩ := blk_all k2
  clear hW hbw k1 k2
  go_wp2_with fail
  refine (SameVec_calls _ _ x.cap _ (H1.out.mono (vw_below HB.out)) (K1.out.mono (vw_below HB.out))).mono ?_
  rintro e w1 ⟨rfl, hb⟩
  replace HB := Lib.hid (Below.then HB.out hb)
  replace HK := Lib.hid (And.intro ((hb.block _ (blk_lt HK.out.1)).trans HK.out.1) ((hb.block _ (blk_lt HK.out.2)).trans HK.out.2))
  clear z zf y yf hb
  obtain ⟨z, zf⟩ := blk_all HK.out.1
  obtain ⟨y, yf⟩ := blk_all HK.out.2
  go_wp2_with fail
  refine (sameSet_calls _ _ x.labels _ (H2.out.mono (vw_below HB.out)) (K2.out.mono (vw_below HB.out))).mono ?_
  rintro e w1 ⟨rfl, hb⟩
  replace HB := Lib.hid (Below.then HB.out hb)
  replace HK := Lib.hid (And.intro ((hb.block _ (blk_lt HK.out.1)).trans HK.out.1) ((hb.block _ (blk_lt HK.out.2)).trans HK.out.2))
  clear z zf y yf hb
  obtain ⟨z, zf⟩ := blk_all HK.out.1
  obtain ⟨y, yf⟩ := blk_all HK.out.2
  go_wp2_with fail
  refine (sameTaints_calls _ _ x.taints _ (H3.out.mono (vw_below HB.out)) (K3.out.mono (vw_below HB.out))).mono ?_
  rintro e w1 ⟨rfl, hb⟩
  replace HB := Lib.hid (Below.then HB.out hb)
  replace HK := Lib.hid (And.intro ((hb.block _ (blk_lt HK.out.1)).trans HK.out.1) ((hb.block _ (blk_lt HK.out.2)).trans HK.out.2))
  clear z zf y yf hb
  obtain ⟨z, zf⟩ := blk_all HK.out.1
  obtain ⟨y, yf⟩ := blk_all HK.out.2
  go_wp2
  go_ret
  exact ⟨rfl, HB.out⟩
set_option maxHeartbeats 8000000 in
set_option maxRecDepth 100000 in
theorem SamePod_calls (va vb : Value) (x : Pd) (w : World) (ha : Kd.pod.V (vw w []) va x) (hb : Kd.pod.V (vw w []) vb x) : Calls Tryz.prog 167 #[va, vb] w (BoolDone true w) := by
  obtain ⟨cs, rfl, A1, a1, A2, a2, A3, a3, A4, a4, rfl, -, h1, h2, h3, h4⟩ := ha
  obtain ⟨cs, rfl, B1, b1, B2, b2, B3, b3, B4, b4, rfl, -, k1, k2, k3, k4⟩ := hb
  have H1 := Lib.hid h1
  have K1 := Lib.hid k1
  have H2 := Lib.hid h2
  have K2 := Lib.hid k2
  have H3 := Lib.hid h3
  have K3 := Lib.hid k3
  have H4 := Lib.hid h4
  have K4 := Lib.hid k4
  clear h1 k1 h2 k2 h3 k3 h4 k4
  go_enter Tryz.func167, Tryz.ntmps167
  go_upto_region 1 with fail
  obtain ⟨W, hW, hbw, k1, k2, hWs⟩ := al2 w (.cells #[.string x.name, .string x.owner, .int .i64 x.prio, .slice A1 x.need.length a1, .slice A2 x.labels.length a2, .slice A3 x.sel.length a3, .slice A4 x.tols.length a4, .string x.key, .int .i64 x.most, .string x.node, .bool x.hold] 45) (.cells #[.string x.name, .string x.owner, .int .i64 x.prio, .slice B1 x.need.length b1, .slice B2 x.labels.length b2, .slice B3 x.sel.length b3, .slice B4 x.tols.length b4, .string x.key, .int .i64 x.most, .string x.node, .bool x.hold] 45)
  rw [← hW]
  have HB := Lib.hid hbw
  have HK := Lib.hid (And.intro k1 k2)
  obtain ⟨z, zf⟩ := blk_all k1
  obtain ⟨y, yf⟩ := blk_all k2
  clear hW hbw k1 k2
  go_wp2_with fail
  refine (SameVec_calls _ _ x.need _ (H1.out.mono (vw_below HB.out)) (K1.out.mono (vw_below HB.out))).mono ?_
  rintro e w1 ⟨rfl, hb⟩
  replace HB := Lib.hid (Below.then HB.out hb)
  replace HK := Lib.hid (And.intro ((hb.block _ (blk_lt HK.out.1)).trans HK.out.1) ((hb.block _ (blk_lt HK.out.2)).trans HK.out.2))
  clear z zf y yf hb
  obtain ⟨z, zf⟩ := blk_all HK.out.1
  obtain ⟨y, yf⟩ := blk_all HK.out.2
  go_wp2_with fail
  refine (sameSet_calls _ _ x.labels _ (H2.out.mono (vw_below HB.out)) (K2.out.mono (vw_below HB.out))).mono ?_
  rintro e w1 ⟨rfl, hb⟩
  replace HB := Lib.hid (Below.then HB.out hb)
  replace HK := Lib.hid (And.intro ((hb.block _ (blk_lt HK.out.1)).trans HK.out.1) ((hb.block _ (blk_lt HK.out.2)).trans HK.out.2))
  clear z zf y yf hb
  obtain ⟨z, zf⟩ := blk_all HK.out.1
  obtain ⟨y, yf⟩ := blk_all HK.out.2
  go_wp2_with fail
  refine (sameSel_calls _ _ x.sel _ (H3.out.mono (vw_below HB.out)) (K3.out.mono (vw_below HB.out))).mono ?_
  rintro e w1 ⟨rfl, hb⟩
  replace HB := Lib.hid (Below.then HB.out hb)
  replace HK := Lib.hid (And.intro ((hb.block _ (blk_lt HK.out.1)).trans HK.out.1) ((hb.block _ (blk_lt HK.out.2)).trans HK.out.2))
  clear z zf y yf hb
  obtain ⟨z, zf⟩ := blk_all HK.out.1
  obtain ⟨y, yf⟩ := blk_all HK.out.2
  go_wp2_with fail
  refine (sameTols_calls _ _ x.tols _ (H4.out.mono (vw_below HB.out)) (K4.out.mono (vw_below HB.out))).mono ?_
  rintro e w1 ⟨rfl, hb⟩
  replace HB := Lib.hid (Below.then HB.out hb)
  replace HK := Lib.hid (And.intro ((hb.block _ (blk_lt HK.out.1)).trans HK.out.1) ((hb.block _ (blk_lt HK.out.2)).trans HK.out.2))
  clear z zf y yf hb
  obtain ⟨z, zf⟩ := blk_all HK.out.1
  obtain ⟨y, yf⟩ := blk_all HK.out.2
  go_wp2
  go_ret
  exact ⟨rfl, HB.out⟩
set_option maxHeartbeats 16000000 in
set_option maxRecDepth 100000 in
theorem Same_calls (va vb : Value) (s : St) (w : World) (ha : Kd.state.V (vw w []) va s) (hb : Kd.state.V (vw w []) vb s) : Calls Tryz.prog 89 #[va, vb] w (BoolDone true w) := by
  obtain ⟨cs, rfl, A1, a1, A2, a2, A3, a3, rfl, h1, h2, h3⟩ := ha
  obtain ⟨cs, rfl, B1, b1, B2, b2, B3, b3, rfl, k1, k2, k3⟩ := hb
  obtain ⟨-, f1, f1'⟩ := h1.form
  obtain ⟨-, f2, f2'⟩ := h2.form
  obtain ⟨-, f3, f3'⟩ := h3.form
  have S1 := Lib.hid h1
  have S2 := Lib.hid h2
  have S3 := Lib.hid h3
  have S1K := Lib.hid k1
  have S2K := Lib.hid k2
  have S3K := Lib.hid k3
  clear h1 h2 h3 k1 k2 k3
  go_enter Tryz.func89, Tryz.ntmps89
  go_upto_region 1 with fail
  obtain ⟨W, hW, hbw, k1, k2, hWs⟩ := al2 w (.cells #[.slice A1 s.nodes.length a1, .slice A2 s.pods.length a2, .slice A3 s.budgets.length a3] 51) (.cells #[.slice B1 s.nodes.length b1, .slice B2 s.pods.length b2, .slice B3 s.budgets.length b3] 51)
  rw [← hW]
  have HB := Lib.hid hbw
  have HK := Lib.hid (And.intro k1 k2)
  obtain ⟨z, zf⟩ := blk_all k1
  obtain ⟨y, yf⟩ := blk_all k2
  clear hW hbw k1 k2
  go_wp2
  clear z zf y yf
  go_loopw [5] (fun i wr => ∃ k : Nat, k ≤ s.nodes.length ∧ i = .int .i64 k ∧ Hid (Below W.heap.size W wr)) (fun i _ => s.nodes.length - (intOf i).toNat)
  case atStart => exact ⟨0, Nat.zero_le _, rfl, Below.refl _ _⟩
  case round =>
    obtain ⟨k, hk, rfl, HB2⟩ := hrel
    have HBX := Lib.hid (Below.then HB.out HB2.out)
    obtain ⟨z, zf⟩ := blk_all ((HB2.out.block _ (blk_lt HK.out.1)).trans HK.out.1)
    obtain ⟨y, yf⟩ := blk_all ((HB2.out.block _ (blk_lt HK.out.2)).trans HK.out.2)
    by_cases hlt : k < s.nodes.length
    · obtain ⟨b, off, cs, eA, hn, hc⟩ := S1.out.both HBX.out k hlt
      obtain ⟨b2, off2, cs2, eB, hn2, hd⟩ := S1K.out.both HBX.out k hlt
      subst eA eB
      obtain ⟨x, hx⟩ : ∃ x, s.nodes[k] = x := ⟨_, rfl⟩
      rw [hx] at hn hn2
      have HN := Lib.hid hn
      have HN2 := Lib.hid hn2
      obtain ⟨C1, pa, C2, pb, C3, pc, rfl, -⟩ := hn
      obtain ⟨D1, qa, D2, qb, D3, qc, rfl, -⟩ := hn2
      have b3 : (0 : Int) ≤ (k : Int) := by omega
      have b4 : (k : Int) < (s.nodes.length : Int) := by omega
      have p0 : wr.cell? ⟨b, off + k * 5, none⟩ = some (.string x.name) := hc 0 _ rfl
      have p1 : wr.cell? ⟨b, off + k * 5 + 1, none⟩ = some (.slice C1 x.cap.length pa) := hc 1 _ rfl
      have p2 : wr.cell? ⟨b, off + k * 5 + 2, none⟩ = some (.slice C2 x.labels.length pb) := hc 2 _ rfl
      have p3 : wr.cell? ⟨b, off + k * 5 + 3, none⟩ = some (.slice C3 x.taints.length pc) := hc 3 _ rfl
      have p4 : wr.cell? ⟨b, off + k * 5 + 4, none⟩ = some (.bool x.cordon) := hc 4 _ rfl
      have q0 : wr.cell? ⟨b2, off2 + k * 5, none⟩ = some (.string x.name) := hd 0 _ rfl
      have q1 : wr.cell? ⟨b2, off2 + k * 5 + 1, none⟩ = some (.slice D1 x.cap.length qa) := hd 1 _ rfl
      have q2 : wr.cell? ⟨b2, off2 + k * 5 + 2, none⟩ = some (.slice D2 x.labels.length qb) := hd 2 _ rfl
      have q3 : wr.cell? ⟨b2, off2 + k * 5 + 3, none⟩ = some (.slice D3 x.taints.length qc) := hd 3 _ rfl
      have q4 : wr.cell? ⟨b2, off2 + k * 5 + 4, none⟩ = some (.bool x.cordon) := hd 4 _ rfl
      clear hc hd hx
      go_upto_region 6 with fail
      go_still_tail 10, (by kernel_rfl)
      change wpList _ _ _ _ _ wr.drew
      have HB3 := Lib.hid (Below.then HBX.out (drew_below wr))
      have HB4 := Lib.hid (Below.then HB2.out (drew_below wr))
      generalize wr.drew = U at HB3 HB4 ⊢
      clear z zf y yf p0 q0 p1 q1 p2 q2 p3 q3 p4 q4
      go_wp2_with fail
      refine (SameNode_calls _ _ x _ ⟨_, rfl, Kd.node.mono (vw_below HB3.out) HN.out⟩ ⟨_, rfl, Kd.node.mono (vw_below HB3.out) HN2.out⟩).mono ?_
      rintro e w1 ⟨rfl, hb⟩
      have HB5 := Lib.hid (Below.then HB4.out hb)
      clear hb
      go_wp2
      go_roundw
      case rel => exact ⟨k + 1, by omega, by go_num, HB5.out⟩
      case measure => simp [intOf]; omega
    · obtain rfl : k = s.nodes.length := by omega
      go_wp2
      clear z zf y yf
      have HB2 := HB2
      go_loopw [6] (fun i wr => ∃ k : Nat, k ≤ s.pods.length ∧ i = .int .i64 k ∧ Hid (Below W.heap.size W wr)) (fun i _ => s.pods.length - (intOf i).toNat)
      case atStart => exact ⟨0, Nat.zero_le _, rfl, HB2.out⟩
      case round =>
        obtain ⟨k, hk, rfl, HB2⟩ := hrel
        have HBX := Lib.hid (Below.then HB.out HB2.out)
        obtain ⟨z, zf⟩ := blk_all ((HB2.out.block _ (blk_lt HK.out.1)).trans HK.out.1)
        obtain ⟨y, yf⟩ := blk_all ((HB2.out.block _ (blk_lt HK.out.2)).trans HK.out.2)
        by_cases hlt : k < s.pods.length
        · obtain ⟨b, off, cs, eA, hn, hc⟩ := S2.out.both HBX.out k hlt
          obtain ⟨b2, off2, cs2, eB, hn2, hd⟩ := S2K.out.both HBX.out k hlt
          subst eA eB
          obtain ⟨x, hx⟩ : ∃ x, s.pods[k] = x := ⟨_, rfl⟩
          rw [hx] at hn hn2
          have HN := Lib.hid hn
          have HN2 := Lib.hid hn2
          obtain ⟨C1, pa, C2, pb, C3, pc, C4, pd, rfl, -⟩ := hn
          obtain ⟨D1, qa, D2, qb, D3, qc, D4, qd, rfl, -⟩ := hn2
          have b3 : (0 : Int) ≤ (k : Int) := by omega
          have b4 : (k : Int) < (s.pods.length : Int) := by omega
          have p0 : wr.cell? ⟨b, off + k * 11, none⟩ = some (.string x.name) := hc 0 _ rfl
          have p1 : wr.cell? ⟨b, off + k * 11 + 1, none⟩ = some (.string x.owner) := hc 1 _ rfl
          have p2 : wr.cell? ⟨b, off + k * 11 + 2, none⟩ = some (.int .i64 x.prio) := hc 2 _ rfl
          have p3 : wr.cell? ⟨b, off + k * 11 + 3, none⟩ = some (.slice C1 x.need.length pa) := hc 3 _ rfl
          have p4 : wr.cell? ⟨b, off + k * 11 + 4, none⟩ = some (.slice C2 x.labels.length pb) := hc 4 _ rfl
          have p5 : wr.cell? ⟨b, off + k * 11 + 5, none⟩ = some (.slice C3 x.sel.length pc) := hc 5 _ rfl
          have p6 : wr.cell? ⟨b, off + k * 11 + 6, none⟩ = some (.slice C4 x.tols.length pd) := hc 6 _ rfl
          have p7 : wr.cell? ⟨b, off + k * 11 + 7, none⟩ = some (.string x.key) := hc 7 _ rfl
          have p8 : wr.cell? ⟨b, off + k * 11 + 8, none⟩ = some (.int .i64 x.most) := hc 8 _ rfl
          have p9 : wr.cell? ⟨b, off + k * 11 + 9, none⟩ = some (.string x.node) := hc 9 _ rfl
          have p10 : wr.cell? ⟨b, off + k * 11 + 10, none⟩ = some (.bool x.hold) := hc 10 _ rfl
          have q0 : wr.cell? ⟨b2, off2 + k * 11, none⟩ = some (.string x.name) := hd 0 _ rfl
          have q1 : wr.cell? ⟨b2, off2 + k * 11 + 1, none⟩ = some (.string x.owner) := hd 1 _ rfl
          have q2 : wr.cell? ⟨b2, off2 + k * 11 + 2, none⟩ = some (.int .i64 x.prio) := hd 2 _ rfl
          have q3 : wr.cell? ⟨b2, off2 + k * 11 + 3, none⟩ = some (.slice D1 x.need.length qa) := hd 3 _ rfl
          have q4 : wr.cell? ⟨b2, off2 + k * 11 + 4, none⟩ = some (.slice D2 x.labels.length qb) := hd 4 _ rfl
          have q5 : wr.cell? ⟨b2, off2 + k * 11 + 5, none⟩ = some (.slice D3 x.sel.length qc) := hd 5 _ rfl
          have q6 : wr.cell? ⟨b2, off2 + k * 11 + 6, none⟩ = some (.slice D4 x.tols.length qd) := hd 6 _ rfl
          have q7 : wr.cell? ⟨b2, off2 + k * 11 + 7, none⟩ = some (.string x.key) := hd 7 _ rfl
          have q8 : wr.cell? ⟨b2, off2 + k * 11 + 8, none⟩ = some (.int .i64 x.most) := hd 8 _ rfl
          have q9 : wr.cell? ⟨b2, off2 + k * 11 + 9, none⟩ = some (.string x.node) := hd 9 _ rfl
          have q10 : wr.cell? ⟨b2, off2 + k * 11 + 10, none⟩ = some (.bool x.hold) := hd 10 _ rfl
          clear hc hd hx
          go_upto_region 11 with fail
          go_still_tail 10, (by kernel_rfl)
          change wpList _ _ _ _ _ wr.drew
          have HB3 := Lib.hid (Below.then HBX.out (drew_below wr))
          have HB4 := Lib.hid (Below.then HB2.out (drew_below wr))
          generalize wr.drew = U at HB3 HB4 ⊢
          clear z zf y yf p0 q0 p1 q1 p2 q2 p3 q3 p4 q4 p5 q5 p6 q6 p7 q7 p8 q8 p9 q9 p10 q10
          go_wp2_with fail
          refine (SamePod_calls _ _ x _ ⟨_, rfl, Kd.pod.mono (vw_below HB3.out) HN.out⟩ ⟨_, rfl, Kd.pod.mono (vw_below HB3.out) HN2.out⟩).mono ?_
          rintro e w1 ⟨rfl, hb⟩
          have HB5 := Lib.hid (Below.then HB4.out hb)
          clear hb
          go_wp2
          go_roundw
          case rel => exact ⟨k + 1, by omega, by go_num, HB5.out⟩
          case measure => simp [intOf]; omega
        · obtain rfl : k = s.pods.length := by omega
          go_wp2
          clear z zf y yf
          go_loopw [7] (fun i wr => ∃ k : Nat, k ≤ s.budgets.length ∧ i = .int .i64 k ∧ Hid (Below W.heap.size W wr)) (fun i _ => s.budgets.length - (intOf i).toNat)
          case atStart => exact ⟨0, Nat.zero_le _, rfl, HB2.out⟩
          case round =>
            obtain ⟨k, hk, rfl, HB2⟩ := hrel
            have HBX := Lib.hid (Below.then HB.out HB2.out)
            obtain ⟨z, zf⟩ := blk_all ((HB2.out.block _ (blk_lt HK.out.1)).trans HK.out.1)
            obtain ⟨y, yf⟩ := blk_all ((HB2.out.block _ (blk_lt HK.out.2)).trans HK.out.2)
            by_cases hlt : k < s.budgets.length
            · obtain ⟨b, off, cs, eA, hn, hc⟩ := S3.out.both HBX.out k hlt
              obtain ⟨b2, off2, cs2, eB, hn2, hd⟩ := S3K.out.both HBX.out k hlt
              subst eA eB
              obtain ⟨x, hx⟩ : ∃ x, s.budgets[k] = x := ⟨_, rfl⟩
              rw [hx] at hn hn2
              obtain ⟨C1, pa, rfl, -, t1⟩ := hn
              obtain ⟨D1, qa, rfl, -, t2⟩ := hn2
              have T1 := Lib.hid t1
              have T2 := Lib.hid t2
              have b3 : (0 : Int) ≤ (k : Int) := by omega
              have b4 : (k : Int) < (s.budgets.length : Int) := by omega
              have p0 : wr.cell? ⟨b, off + k * 3, none⟩ = some (.string x.name) := hc 0 _ rfl
              have p1 : wr.cell? ⟨b, off + k * 3 + 1, none⟩ = some (.slice C1 x.sel.length pa) := hc 1 _ rfl
              have p2 : wr.cell? ⟨b, off + k * 3 + 2, none⟩ = some (.int .i64 x.floor) := hc 2 _ rfl
              have q0 : wr.cell? ⟨b2, off2 + k * 3, none⟩ = some (.string x.name) := hd 0 _ rfl
              have q1 : wr.cell? ⟨b2, off2 + k * 3 + 1, none⟩ = some (.slice D1 x.sel.length qa) := hd 1 _ rfl
              have q2 : wr.cell? ⟨b2, off2 + k * 3 + 2, none⟩ = some (.int .i64 x.floor) := hd 2 _ rfl
              clear hc hd hx t1 t2
              go_upto_region 16 with fail
              go_still_tail 41, (by kernel_rfl)
              change wpList _ _ _ _ _ wr.drew
              have HB3 := Lib.hid (Below.then HBX.out (drew_below wr))
              have HB4 := Lib.hid (Below.then HB2.out (drew_below wr))
              generalize wr.drew = U at HB3 HB4 ⊢
              clear z zf y yf p0 p1 p2 q0 q1 q2
              go_wp2_with fail
              refine (sameSel_calls _ _ x.sel _ (T1.out.mono (vw_below HB3.out)) (T2.out.mono (vw_below HB3.out))).mono ?_
              rintro e w1 ⟨rfl, hb⟩
              have HB5 := Lib.hid (Below.then HB4.out hb)
              clear hb
              go_wp2
              go_roundw
              case rel => exact ⟨k + 1, by omega, by go_num, HB5.out⟩
              case measure => simp [intOf]; omega
            · obtain rfl : k = s.budgets.length := by omega
              go_wp2
              go_ret
              exact ⟨rfl, HBX.out⟩
set_option maxHeartbeats 4000000 in
set_option maxRecDepth 100000 in
theorem OfWay_calls (v : Value) (x : Wy) (w : World) (hv : Kd.way.V (vw w []) v x) : Calls Tryz.prog 24 #[v] w (fun e w' => ∃ cs : List Value, e = .returned (.agg cs.toArray) ∧ Kd.way.K (vw w' []) x cs ∧ Below w.heap.size w w') := by
  obtain ⟨cs, rfl, hk⟩ := hv
  have HKW := Lib.hid hk
  obtain ⟨A, c, rfl, -⟩ := hk
  go_enter Tryz.func24, Tryz.ntmps24
  go_upto_region 1 with fail
  obtain ⟨W, hW, hbw, k1, k2, hWs⟩ := al2 w (.cells #[.string x.pod, .string x.to_, .slice A x.holds.length c] 55) (.cells #[.string ⟨#[]⟩, .string ⟨#[]⟩, .slice none 0 0] 58)
  rw [← hW]
  have HB := Lib.hid hbw
  have HK2 := Lib.hid k2
  obtain ⟨z, zf⟩ := blk_all k1
  obtain ⟨y, yf⟩ := blk_all k2
  clear hW hbw k1 k2
  go_wp2
  rw [show (((W.setCell ⟨w.heap.size + 1, 0, none⟩ (.string x.pod)).setCell ⟨w.heap.size + 1, 1, none⟩ (.string x.to_)).setCell ⟨w.heap.size + 1, 2, none⟩ (.slice A x.holds.length c)) = W.setCells (w.heap.size + 1) 0 [.string x.pod, .string x.to_, .slice A x.holds.length c] from rfl]
  have hset := setCells_all (cs := [.string x.pod, .string x.to_, .slice A x.holds.length c]) HK2.out rfl
  have hbel := Below.setCells HB.out (show w.heap.size ≤ w.heap.size + 1 by omega) [.string x.pod, .string x.to_, .slice A x.holds.length c] 0
  exact ret_row1 (cs := [.string x.pod, .string x.to_, .slice A x.holds.length c]) rfl rfl hset Tryz.underlying58 rfl (by kernel_rfl) rfl ⟨_, rfl, Kd.way.mono (vw_below hbel) HKW.out, hbel⟩
set_option maxHeartbeats 4000000 in
set_option maxRecDepth 100000 in
theorem SameWay_calls (va vb : Value) (x : Wy) (w : World) (ha : Kd.way.V (vw w []) va x) (hb : Kd.way.V (vw w []) vb x) : Calls Tryz.prog 23 #[va, vb] w (BoolDone true w) := by
  obtain ⟨cs, rfl, A, a, rfl, -, h1⟩ := ha
  obtain ⟨cs, rfl, B, b, rfl, -, k1⟩ := hb
  have H1 := Lib.hid h1
  have K1 := Lib.hid k1
  clear h1 k1
  go_enter Tryz.func23, Tryz.ntmps23
  go_upto_region 1 with fail
  obtain ⟨W, hW, hbw, k1, k2, hWs⟩ := al2 w (.cells #[.string x.pod, .string x.to_, .slice A x.holds.length a] 58) (.cells #[.string x.pod, .string x.to_, .slice B x.holds.length b] 58)
  rw [← hW]
  have HB := Lib.hid hbw
  obtain ⟨z, zf⟩ := blk_all k1
  obtain ⟨y, yf⟩ := blk_all k2
  clear hW hbw k1 k2
  go_wp2_with fail
  refine (Names_same _ _ x.holds _ (H1.out.mono (vw_below HB.out)) (K1.out.mono (vw_below HB.out))).mono ?_
  rintro e w1 ⟨rfl, hb⟩
  have HB2 := Lib.hid (Below.then HB.out hb)
  clear hb
  go_wp2
  go_ret
  exact ⟨rfl, HB2.out⟩
set_option maxHeartbeats 4000000 in
set_option maxRecDepth 100000 in
theorem Same9_calls (va vb : Value) (s : St) (w : World) (ha : Kd.state.V (vw w []) va s) (hb : Kd.state.V (vw w []) vb s) (hf : s.Few) : Calls Tryz.prog 27 #[va, vb] w (BoolDone true w) := by
  obtain ⟨cs, rfl, ha⟩ := ha
  obtain ⟨ct, rfl, hb⟩ := hb
  have HKA := Lib.hid ha
  have HKB := Lib.hid hb
  obtain ⟨A1, a1, A2, a2, A3, a3, rfl, -⟩ := ha
  obtain ⟨B1, b1, B2, b2, B3, b3, rfl, -⟩ := hb
  go_enter Tryz.func27, Tryz.ntmps27
  go_upto_region 1 with fail
  obtain ⟨W, hW, hbw, k1, k2, hWs⟩ := al2 w (.cells #[.slice A1 s.nodes.length a1, .slice A2 s.pods.length a2, .slice A3 s.budgets.length a3] 26) (.cells #[.slice B1 s.nodes.length b1, .slice B2 s.pods.length b2, .slice B3 s.budgets.length b3] 51)
  rw [← hW]
  have HB := Lib.hid hbw
  have HK := Lib.hid (And.intro k1 k2)
  have HVA : Hid (Kd.state.V (vw W []) (.agg #[.slice A1 s.nodes.length a1, .slice A2 s.pods.length a2, .slice A3 s.budgets.length a3]) s) := ⟨_, rfl, Kd.state.mono (vw_below hbw) HKA.out⟩
  have HVB : Hid (Kd.state.V (vw W []) (.agg #[.slice B1 s.nodes.length b1, .slice B2 s.pods.length b2, .slice B3 s.budgets.length b3]) s) := ⟨_, rfl, Kd.state.mono (vw_below hbw) HKB.out⟩
  obtain ⟨z, zf⟩ := blk_all k1
  obtain ⟨y, yf⟩ := blk_all k2
  clear hW hbw k1 k2
  go_region_held3 (fun w' => (∀ j, w'.cell? ⟨w.heap.size, j, none⟩ = #[.slice A1 s.nodes.length a1, .slice A2 s.pods.length a2, .slice A3 s.budgets.length a3][j]?) ∧ ∀ j, w'.cell? ⟨w.heap.size + 1, j, none⟩ = #[.slice B1 s.nodes.length b1, .slice B2 s.pods.length b2, .slice B3 s.budgets.length b3][j]?) (first | go_keep | with_reducible exact ⟨z, y⟩)
    (first
    | (go_at_call 20; (with_reducible refine (Of9_calls _ s _ (by with_reducible first | exact HVA.out | exact Kd.V.mono (vw_below (drew_below _)) HVA.out) hf).mono ?_); rintro e w5 ⟨c5, rfl, h5, hb⟩; have h6 := Kd.state.mono (nx_vw (own := none) (M := []) (by simp)) h5; have HV5 : Hid (Kd.state.V (vw w5 []) (.agg c5.toArray) s) := ⟨_, rfl, h6⟩; have hb5 := Below.then (drew_below _) hb; replace HVB := Lib.hid (V_below HVB.out hb5); replace HB := Lib.hid (Below.then HB.out hb5); replace HK := Lib.hid (And.intro ((hb5.block _ (blk_lt HK.out.1)).trans HK.out.1) ((hb5.block _ (blk_lt HK.out.2)).trans HK.out.2)); clear z zf y yf hb hb5 h5 h6; obtain ⟨z, zf⟩ := blk_all HK.out.1; obtain ⟨y, yf⟩ := blk_all HK.out.2)
    | (go_at_call 89; (with_reducible refine (Same_calls _ _ s _ (by with_reducible first | exact HV5.out | exact Kd.V.mono (vw_below (drew_below _)) HV5.out) (by with_reducible first | exact HVB.out | exact Kd.V.mono (vw_below (drew_below _)) HVB.out)).mono ?_); rintro e w6 ⟨rfl, hb⟩; have hk6 := (by with_reducible first | exact And.intro ((hb.block _ (blk_lt HK.out.1)).trans HK.out.1) ((hb.block _ (blk_lt HK.out.2)).trans HK.out.2) | exact And.intro (((Below.then (drew_below _) hb).block _ (blk_lt HK.out.1)).trans HK.out.1) (((Below.then (drew_below _) hb).block _ (blk_lt HK.out.2)).trans HK.out.2)); have hb6 : RowKit.Below w.heap.size w w6 := (by with_reducible first | exact Below.then HB.out hb | exact Below.then HB.out (Below.then (drew_below _) hb)); have HB6 := Lib.hid hb6; clear z zf y yf hb hb6; obtain ⟨z, zf⟩ := blk_all hk6.1; obtain ⟨y, yf⟩ := blk_all hk6.2))
  all_goals
    go_wp2
    go_ret
    exact ⟨rfl, HB6.out⟩
end Go.Proofs.YtnmhicgbdalniaaGreatDoor
