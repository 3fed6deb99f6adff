import Derived.Test.YtnmhicgbdalniaaGreatDoorShelf
import Derived.Test.YtnmhicgbdalniaaGreatDoorMf1
import Derived.Test.YtnmhicgbdalniaaGreatDoorMf2
import Derived.Test.YtnmhicgbdalniaaGreatDoorMf5
import Derived.Shelf.SlicesQ.IndexFunc
import Derived.Deep.RegionHeld3
import Derived.Deep.Light
import Derived.Lib.SliceRun
import Derived.RegionTactic
namespace Go.Proofs.YtnmhicgbdalniaaGreatDoor
open Go.RowKit Go.Shelf Go.Lib

/-! slices.IndexFunc, slices.ContainsFunc over elements of any kind. -/
structure Elt {α : Type} (d : Kd α) (h : View) where
  x : α
  cs : List Value
  ok : d.K h x cs
theorem Kd.S.elts {α : Type} {d : Kd α} {w : World} {A : Option Addr} {n cap : Nat} {xs : List α} (s : d.S (vw w []) (.slice A n cap) xs) (hp : 0 < xs.length) (hz : 0 < d.sz) :
    ∃ b off, A = some ⟨b, off, none⟩ ∧ b < w.heap.size ∧ ∃ zs : List (Elt d (vw w [])), zs.length = xs.length ∧ zs.map Elt.x = xs ∧ ∀ (j : Nat) (e : Elt d (vw w [])), zs[j]? = some e → ∀ i u, e.cs[i]? = some u → w.cell? ⟨b, off + j * d.sz + i, none⟩ = some u := by
  obtain ⟨b, off, cs0, rfl, k0, c0⟩ := s.elem 0 hp
  have key : ∀ i, i < xs.length → ∃ e : Elt d (vw w []), xs[i]? = some e.x ∧ ∀ j u, e.cs[j]? = some u → w.cell? ⟨b, off + i * d.sz + j, none⟩ = some u := fun i hi => by
    obtain ⟨b', off', cs, e, k, c⟩ := s.elem i hi
    injection e with e
    injection e with e1 e2
    subst e1 e2
    exact ⟨⟨xs[i], cs, k⟩, List.getElem?_eq_getElem hi, fun j u hu => cell_of_vw (c j u hu)⟩
  have main : ∀ n, n ≤ xs.length → ∃ zs : List (Elt d (vw w [])), zs.length = n ∧ zs.map Elt.x = xs.take n ∧ ∀ (j : Nat) (e : Elt d (vw w [])), zs[j]? = some e → ∀ i u, e.cs[i]? = some u → w.cell? ⟨b, off + j * d.sz + i, none⟩ = some u := by
    intro n
    induction n with
    | zero => exact fun _ => ⟨[], rfl, rfl, fun j e h => by simp at h⟩
    | succ n ih =>
      intro hn
      obtain ⟨zs, h1, h2, h3⟩ := ih (by omega)
      obtain ⟨e, he, hc⟩ := key n (by omega)
      refine ⟨zs ++ [e], by simp [h1], ?_, fun j e' hj => ?_⟩
      · rw [List.map_append, h2, List.take_add_one, he]; rfl
      · rcases Nat.lt_or_ge j zs.length with hlt | hge
        · rw [List.getElem?_append_left hlt] at hj
          exact h3 j e' hj
        · rw [List.getElem?_append_right hge] at hj
          have hj0 : j = n := by
            have := (List.getElem?_eq_some_iff.1 hj).1
            simp at this; omega
          subst hj0
          rw [h1, Nat.sub_self] at hj
          obtain rfl : e = e' := by simpa using hj
          exact hc
  obtain ⟨zs, h1, h2, h3⟩ := main xs.length (Nat.le_refl _)
  refine ⟨b, off, rfl, ?_, zs, h1, by rw [h2, List.take_length], h3⟩
  rcases Nat.lt_or_ge b w.heap.size with h | h
  · exact h
  · exfalso
    have hl := d.len k0
    have := cell_of_vw (c0 0 (cs0[0]'(by omega)) (List.getElem?_eq_getElem _))
    unfold World.cell? at this
    simp [Array.getElem?_eq_none h] at this
/-- The place of the first, or -1. -/
def idxP {α : Type} (p : α → Bool) : List α → Nat → Int
  | [], _ => -1
  | x :: r, i => if p x then (i : Int) else idxP p r (i + 1)
theorem idxP_elts {α : Type} {d : Kd α} {h : View} (p : α → Bool) (e0 : Elt d h) : ∀ (zs : List (Elt d h)) (i : Nat), Lib.idxByFrom (fun _ (y : Elt d h) => p y.x) e0 zs i = idxP p (zs.map Elt.x) i
  | [], _ => rfl
  | z :: zs, i => by
    simp only [Lib.idxByFrom, List.map_cons, idxP]
    rw [idxP_elts p e0 zs (i + 1)]
theorem idxP_any {α : Type} (p : α → Bool) : ∀ (l : List α) (i : Nat), decide (0 ≤ idxP p l i) = l.any p
  | [], _ => by simp [idxP]
  | x :: r, i => by
    have ih := idxP_any p r (i + 1)
    cases hp : p x with
    | true => simp [idxP, hp]
    | false => simp only [idxP, hp, List.any_cons, Bool.false_or]; exact ih
section
variable {P : Program} {ρ : Ren}
set_option maxHeartbeats 1000000 in
theorem idx_none (L : SlLaysH0.n6 P ρ) (g : Nat) (lb : Array Value) (A : Option Addr) (c : Nat) (w : World) :
    Calls P (ρ.f 6) #[.slice A 0 c, .func (.func g) #[] lb] w fun e w' => e = .returned (.int .i64 (-1)) ∧ Below w.heap.size w w' := by
  have mixed := L.mixed; have t0 := L.t0; have a0 := L.a0; have z0 := L.z0; have v0 := L.v0; have t3 := L.t3; have a3 := L.a3; have z3 := L.z3; have v3 := L.v3; have t4 := L.t4; have a4 := L.a4; have z4 := L.z4; have v4 := L.v4; have t22 := L.t22; have a22 := L.a22; have z22 := L.z22; have v22 := L.v22; have t25 := L.t25; have a25 := L.a25; have z25 := L.z25; have v25 := L.v25
  obtain ⟨_, _, FG⟩ := L.f6
  go_enter FG, SlBodyH.n6_ntmps ρ
  go_wp2
  go_loopw [5, 8] (fun _ s8 wr => s8 = .int .i64 0 ∧ Hid (Below w.heap.size w wr)) (fun _ _ _ => 0)
  case atStart => exact ⟨rfl, Below.refl _ _⟩
  case round =>
    obtain ⟨rfl, HB⟩ := hrel
    go_wp2
    go_ret
    exact ⟨rfl, HB.out⟩
theorem has_none (L : SlLaysH0.n8 P ρ) (g : Nat) (lb : Array Value) (A : Option Addr) (c : Nat) (w : World) :
    Calls P (ρ.f 8) #[.slice A 0 c, .func (.func g) #[] lb] w fun e w' => e = .returned (.bool false) ∧ Below w.heap.size w w' := by
  have mixed := L.mixed; have t0 := L.t0; have a0 := L.a0; have z0 := L.z0; have v0 := L.v0; have t3 := L.t3; have a3 := L.a3; have z3 := L.z3; have v3 := L.v3; have t4 := L.t4; have a4 := L.a4; have z4 := L.z4; have v4 := L.v4; have t22 := L.t22; have a22 := L.a22; have z22 := L.z22; have v22 := L.v22; have t25 := L.t25; have a25 := L.a25; have z25 := L.z25; have v25 := L.v25
  have e6 : ∀ args w, (callFunc (ρ.f 6) args).run P w = .ok (.enter (ρ.f 6) args) w := L.f6.enters rfl
  obtain ⟨_, _, FG⟩ := L.f8
  go_enter FG, SlBodyH.n8_ntmps ρ
  go_wp2_with (go_at_fn (ρ.f 6); refine (idx_none { L with } g lb A c _).mono ?_; rintro e w' ⟨rfl, hb'⟩)
  go_ret
  exact ⟨rfl, hb'⟩
variable {α : Type} (d : Kd α) (aE : ∀ w, (isAgg (ρ.t 23)).run P w = .ok true w) (zE : ∀ w, (Go.sizeOf (ρ.t 23)).run P w = .ok d.sz w) (hz : 0 < d.sz) (p : α → Bool) (g : Nat) (lb : Array Value) (eg : ∀ args w, (callFunc g args).run P w = .ok (.enter g args) w)
  {w0 w : World} (hb0 : Below w0.heap.size w0 w) {A : Option Addr} {n c : Nat} {l : List α} (hs : d.S (vw w0 []) (.slice A n c) l)
  (hp : ∀ (W : World) (x : α) (cs : List Value), Below w.heap.size w W → d.K (vw w0 []) x cs → Calls P g (#[.agg cs.toArray] ++ lb) W fun e w' => e = .returned (.bool (p x)) ∧ Below w.heap.size w w')
include aE zE hz eg hb0 hs hp
theorem idx_calls (L : SlLaysH0.n6 P ρ) : Calls P (ρ.f 6) #[.slice A n c, .func (.func g) #[] lb] w fun e w' => e = .returned (.int .i64 (idxP p l 0)) ∧ Below w.heap.size w w' := by
  obtain ⟨rfl, hc, hbig⟩ := hs.form
  rcases Nat.eq_zero_or_pos l.length with h0 | h0
  · obtain rfl : l = [] := List.eq_nil_of_length_eq_zero h0
    exact idx_none L g lb A c w
  · obtain ⟨b, off, rfl, hlt, zs, hl, hm, hcells⟩ := hs.elts h0 hz
    have hpos : 0 < zs.length := by omega
    haveI : Inhabited (Elt d (vw w0 [])) := ⟨zs[0]⟩
    have hcon := AnyQ.slices_IndexFunc L d.sz aE zE (fun e : Elt d (vw w0 []) => e.cs) (fun e => d.len e.ok) (fun e => p e.x) g lb eg b off l.length c zs w (fun W e hb => hp W e.x e.cs hb e.ok) (by omega) (by omega) (Nat.lt_of_lt_of_le hlt hb0.size) (fun j hj i v hv => by
      rw [List.getElem!_eq_getElem?_getD, List.getElem?_eq_getElem hj] at hv
      exact (hb0.cell (p := ⟨b, off + j * d.sz + i, none⟩) hlt).trans (hcells j _ (List.getElem?_eq_getElem hj) i v hv))
    rw [show Lib.idxBy (fun _ (y : Elt d (vw w0 [])) => p y.x) (zs.take l.length) default = idxP p l 0 by
      rw [List.take_of_length_le (by omega)]
      unfold Lib.idxBy
      rw [idxP_elts, hm]] at hcon
    exact hcon
theorem has_calls (L : SlLaysH0.n8 P ρ) : Calls P (ρ.f 8) #[.slice A n c, .func (.func g) #[] lb] w fun e w' => e = .returned (.bool (l.any p)) ∧ Below w.heap.size w w' := by
  obtain ⟨rfl, hc, hbig⟩ := hs.form
  rcases Nat.eq_zero_or_pos l.length with h0 | h0
  · obtain rfl : l = [] := List.eq_nil_of_length_eq_zero h0
    exact has_none L g lb A c w
  · obtain ⟨b, off, rfl, hlt, zs, hl, hm, hcells⟩ := hs.elts h0 hz
    have hpos : 0 < zs.length := by omega
    haveI : Inhabited (Elt d (vw w0 [])) := ⟨zs[0]⟩
    have hcon := AnyQ.slices_ContainsFunc L d.sz aE zE (fun e : Elt d (vw w0 []) => e.cs) (fun e => d.len e.ok) (fun e => p e.x) g lb eg b off l.length c zs w (fun W e hb => hp W e.x e.cs hb e.ok) (by omega) (by omega) (Nat.lt_of_lt_of_le hlt hb0.size) (fun j hj i v hv => by
      rw [List.getElem!_eq_getElem?_getD, List.getElem?_eq_getElem hj] at hv
      exact (hb0.cell (p := ⟨b, off + j * d.sz + i, none⟩) hlt).trans (hcells j _ (List.getElem?_eq_getElem hj) i v hv))
    rw [show (zs.take l.length).any (fun e => p e.x) = l.any p by
      rw [List.take_of_length_le (by omega), ← hm, List.any_map]; rfl] at hcon
    exact hcon
end
end Go.Proofs.YtnmhicgbdalniaaGreatDoor
namespace Go.Proofs.YtnmhicgbdalniaaGreatDoor
open Go.RowKit Go.Shelf

/-! Selectors, taints, amounts: the program's side. -/
set_option maxHeartbeats 4000000 in
set_option maxRecDepth 100000 in
theorem holds_calls (v : Value) (t : Term) (s : List Pair) (w : World) (hs : Kd.pair.S (vw w []) v s) :
    Calls Tryz.prog 175 #[.agg #[.int .i64 t.op, .string t.key, .string t.val], v] w (BoolDone (holdsV t s) w) := by
  have HS := Lib.hid hs
  clear hs
  go_enter Tryz.func175, Tryz.ntmps175
  go_wp2_with fail
  refine (Get_calls v s t.key _ (HS.out.mono (vw_alloc _))).mono ?_
  rintro e w1 ⟨rfl, hb⟩
  have hq := (hb.block w.heap.size (by simp)).trans (blk_last w _)
  have HB := Lib.hid (Below.then (alloc_below w _) hb)
  obtain ⟨z, zf⟩ := blk_all hq
  have hv : holdsV t s = if t.op = 1 then (getV s t.key).2 && decide ((getV s t.key).1 = t.val) else if t.op = 2 then !(getV s t.key).2 || !decide ((getV s t.key).1 = t.val) else if t.op = 3 then (getV s t.key).2 else decide (t.op = 4) && !(getV s t.key).2 := rfl
  have e1 := eq_beq (getV s t.key).1 t.val
  obtain ⟨a, b, hg⟩ : ∃ a b, getV s t.key = (a, b) := ⟨_, _, rfl⟩
  rw [hg] at hv e1 ⊢
  simp only at hv e1 ⊢
  obtain ⟨m, hm⟩ : ∃ m, decide (a = t.val) = m := ⟨_, rfl⟩
  rw [hm] at e1 hv
  clear hb hq hg hm
  by_cases h1 : t.op = 1
  · rw [if_pos h1] at hv
    have HV := Lib.hid hv
    clear hv
    cases b <;> cases m <;> (go_wp2; go_ret; exact ⟨ret_bool (by rw [HV.out]; rfl), HB.out⟩)
  rw [if_neg h1] at hv
  by_cases h2 : t.op = 2
  · rw [if_pos h2] at hv
    have HV := Lib.hid hv
    clear hv
    cases b <;> cases m <;> (go_wp2; go_ret; exact ⟨ret_bool (by rw [HV.out]; rfl), HB.out⟩)
  rw [if_neg h2] at hv
  by_cases h3 : t.op = 3
  · rw [if_pos h3] at hv
    have HV := Lib.hid hv
    clear hv
    go_wp2
    go_ret
    exact ⟨ret_bool HV.out.symm, HB.out⟩
  rw [if_neg h3] at hv
  have t1 : (t.op == 1) = false := by simpa using h1
  have t2 : (t.op == 2) = false := by simpa using h2
  have t3 : (t.op == 3) = false := by simpa using h3
  by_cases h4 : t.op = 4
  · rw [decide_eq_true h4] at hv
    have HV := Lib.hid hv
    clear hv
    cases b <;> (go_wp2; go_ret; exact ⟨ret_bool (by rw [HV.out]; rfl), HB.out⟩)
  · rw [decide_eq_false h4] at hv
    have t4 : (t.op == 4) = false := by simpa using h4
    have HV := Lib.hid hv
    clear hv
    cases b <;> (go_wp2; go_ret; exact ⟨ret_bool (by rw [HV.out]; rfl), HB.out⟩)
set_option maxHeartbeats 4000000 in
set_option maxRecDepth 100000 in
theorem match1_calls (v : Value) (t : Term) (s : List Pair) (b : Nat) (w : World) (hs : Kd.pair.S (vw w []) v s) (hq : w.heap[b]? = some (.cells #[v] 30 (0, 0))) :
    Calls Tryz.prog 174 #[.agg #[.int .i64 t.op, .string t.key, .string t.val], .pointer (some ⟨b, 0, none⟩)] w (BoolDone (!holdsV t s) w) := by
  obtain ⟨A, cap, rfl, hs⟩ := hs.val
  have HS := Lib.hid hs
  have HQ := Lib.hid ((blk_old w (.cells #[.int .i64 t.op, .string t.key, .string t.val] 234) (blk_lt hq)).trans hq)
  have hlt := blk_lt hq
  have hne : b ≠ w.heap.size := by omega
  clear hs hq
  obtain ⟨z, zf⟩ := blk_all HQ.out
  go_enter Tryz.func174, Tryz.ntmps174
  go_wp2_with fail
  refine (holds_calls _ t s _ (HS.out.mono (vw_alloc _))).mono ?_
  rintro e w1 ⟨rfl, hb⟩
  have HB := Lib.hid (Below.then (alloc_below w _) hb)
  clear hb z zf
  obtain ⟨m, hm⟩ : ∃ m, holdsV t s = m := ⟨_, rfl⟩
  have HM := Lib.hid hm
  rw [hm]
  clear hm
  cases m <;> (go_wp2; go_ret; exact ⟨ret_bool (by first | rfl | (rw [HM.out]; rfl)), HB.out⟩)
theorem eg_match1 : ∀ args w, (callFunc 174 args).run Tryz.prog w = .ok (.enter 174 args) w := enters_of Tryz.func174 (by kernel_rfl) rfl
set_option maxHeartbeats 4000000 in
set_option maxRecDepth 100000 in
theorem Match_calls (va vb : Value) (l : List Term) (s : List Pair) (w : World) (ha : Kd.term.S (vw w []) va l) (hb : Kd.pair.S (vw w []) vb s) :
    Calls Tryz.prog 98 #[va, vb] w (BoolDone (matchV l s) w) := by
  obtain ⟨A, c, rfl, ha⟩ := ha.val
  obtain ⟨B, c2, rfl, hb⟩ := hb.val
  have hcon := has_calls Kd.term Tryz.isAgg234 Tryz.sizeOf234 (by decide) (fun t => !holdsV t s) 174 #[.pointer (some ⟨w.heap.size, 0, none⟩)] eg_match1 (w0 := w) (w := w.alloc (.cells #[.slice B s.length c2] 30)) (alloc_below _ _) ha
    (fun W x cs hW hk => by
      obtain ⟨rfl, -⟩ := hk
      exact (match1_calls (.slice B s.length c2) x s w.heap.size W (hb.mono (vw_below (Below.then (alloc_below _ _) hW))) ((hW.block _ (by simp)).trans (blk_last _ _))).mono fun e w' h => ⟨h.1, Below.then hW h.2⟩) Tryz.hasTerm
  have HC : Hid (Calls Tryz.prog 173 _ _ _) := hcon
  have hany : matchV l s = !l.any (fun t => !holdsV t s) := by
    unfold matchV
    rw [List.any_eq_not_all_not]; simp
  clear hcon ha hb
  go_enter Tryz.func98, Tryz.ntmps98
  go_wp2_with fail
  refine HC.out.mono ?_
  rintro e w1 ⟨rfl, hb1⟩
  have HB := Lib.hid (Below.then (alloc_below w _) hb1)
  clear hb1
  obtain ⟨m, hm⟩ : ∃ m, l.any (fun t => !holdsV t s) = m := ⟨_, rfl⟩
  rw [hm] at hany ⊢
  have HA := Lib.hid hany
  clear hany hm
  cases m <;> (go_wp2; go_ret; exact ⟨ret_bool HA.out.symm, HB.out⟩)
set_option maxHeartbeats 4000000 in
set_option maxRecDepth 100000 in
theorem bears1_calls (t x : Tnt) (b : Nat) (w : World) (hq : w.heap[b]? = some (.cells #[.string t.key, .string t.val, .bool t.b] 163 (0, 0))) :
    Calls Tryz.prog 224 #[.agg #[.string x.key, .string x.val, .bool x.b], .pointer (some ⟨b, 0, none⟩)] w (BoolDone (bearB t x) w) := by
  have HQ := Lib.hid ((blk_old w (.cells #[.string x.key, .string x.val, .bool x.b] 236) (blk_lt hq)).trans hq)
  have hlt := blk_lt hq
  have hne : b ≠ w.heap.size := by omega
  clear hq
  obtain ⟨z, zf⟩ := blk_all HQ.out
  have e1 := empty_beq x.key
  have e2 := eq_beq x.key t.key
  have e3 := eq_beq x.val t.val
  have hv : bearB t x = ((decide (x.key = ⟨#[]⟩) || decide (x.key = t.key)) && (x.b || decide (x.val = t.val))) := rfl
  obtain ⟨m1, h1⟩ : ∃ m, decide (x.key = ⟨#[]⟩) = m := ⟨_, rfl⟩
  obtain ⟨m2, h2⟩ : ∃ m, decide (x.key = t.key) = m := ⟨_, rfl⟩
  obtain ⟨m3, h3⟩ : ∃ m, decide (x.val = t.val) = m := ⟨_, rfl⟩
  rw [h1] at e1 hv
  rw [h2] at e2 hv
  rw [h3] at e3 hv
  have HV := Lib.hid hv
  clear hv h1 h2 h3
  have hb := alloc_below w (.cells #[.string x.key, .string x.val, .bool x.b] 236)
  have HB := Lib.hid hb
  clear hb
  obtain ⟨m4, h4⟩ : ∃ m, x.b = m := ⟨_, rfl⟩
  rw [h4] at HV HB HQ z zf ⊢
  clear h4
  go_enter Tryz.func224, Tryz.ntmps224
  cases m1 <;> cases m2 <;> cases m3 <;> cases m4 <;> (go_wp2; go_ret; exact ⟨ret_bool (by rw [HV.out]; rfl), HB.out⟩)
theorem eg_bears1 : ∀ args w, (callFunc 224 args).run Tryz.prog w = .ok (.enter 224 args) w := enters_of Tryz.func224 (by kernel_rfl) rfl
set_option maxHeartbeats 4000000 in
set_option maxRecDepth 100000 in
theorem Bears_calls (va : Value) (l : List Tnt) (t : Tnt) (w : World) (ha : Kd.tnt.S (vw w []) va l) :
    Calls Tryz.prog 149 #[va, .agg #[.string t.key, .string t.val, .bool t.b]] w (BoolDone (bearsV l t) w) := by
  obtain ⟨A, c, rfl, ha⟩ := ha.val
  have hcon := has_calls Kd.tnt Tryz.isAgg236 Tryz.sizeOf236 (by decide) (bearB t) 224 #[.pointer (some ⟨w.heap.size, 0, none⟩)] eg_bears1 (w0 := w) (w := w.alloc (.cells #[.string t.key, .string t.val, .bool t.b] 163)) (alloc_below _ _) ha
    (fun W x cs hW hk => by
      obtain ⟨rfl, -⟩ := hk
      exact (bears1_calls t x w.heap.size W ((hW.block _ (by simp)).trans (blk_last _ _))).mono fun e w' h => ⟨h.1, Below.then hW h.2⟩) Tryz.hasTol
  have HC : Hid (Calls Tryz.prog 223 _ _ _) := hcon
  clear hcon ha
  go_enter Tryz.func149, Tryz.ntmps149
  go_wp2_with fail
  refine HC.out.mono ?_
  rintro e w1 ⟨rfl, hb1⟩
  have HB := Lib.hid (Below.then (alloc_below w _) hb1)
  clear hb1
  go_wp2
  go_ret
  exact ⟨rfl, HB.out⟩
set_option maxHeartbeats 4000000 in
set_option maxRecDepth 100000 in
theorem get1_calls (x : Amt) (key : ByteArray) (b : Nat) (w : World) (hq : w.heap[b]? = some (.cells #[.string key] 9 (0, 0))) :
    Calls Tryz.prog 211 #[.agg #[.string x.name, .int .i64 x.n], .pointer (some ⟨b, 0, none⟩)] w (BoolDone (decide (x.name = key)) w) := by
  have HQ := Lib.hid ((blk_old w (.cells #[.string x.name, .int .i64 x.n] 187) (blk_lt hq)).trans hq)
  have hlt := blk_lt hq
  have hne : b ≠ w.heap.size := by omega
  clear hq
  obtain ⟨z, zf⟩ := blk_all HQ.out
  have e1 := eq_beq x.name key
  obtain ⟨m1, h1⟩ : ∃ m, decide (x.name = key) = m := ⟨_, rfl⟩
  rw [h1] at e1 ⊢
  clear h1
  have HB := Lib.hid (alloc_below w (.cells #[.string x.name, .int .i64 x.n] 187))
  go_enter Tryz.func211, Tryz.ntmps211
  go_wp2
  go_ret
  exact ⟨rfl, HB.out⟩
theorem eg_get1 : ∀ args w, (callFunc 211 args).run Tryz.prog w = .ok (.enter 211 args) w := enters_of Tryz.func211 (by kernel_rfl) rfl
theorem idxP_getA (key : ByteArray) : ∀ (l : List Amt) (i : Nat), (idxP (fun x => decide (x.name = key)) l i = -1 ∧ getA l key = 0) ∨ ∃ (k : Nat) (h : k < l.length), idxP (fun x => decide (x.name = key)) l i = ((i + k : Nat) : Int) ∧ getA l key = l[k].n
  | [], _ => .inl ⟨rfl, rfl⟩
  | x :: r, i => by
    by_cases h : x.name = key
    · exact .inr ⟨0, by simp, by simp [idxP, h], by simp [getA, h]⟩
    · rcases idxP_getA key r (i + 1) with ⟨h1, h2⟩ | ⟨k, hk, h1, h2⟩
      · exact .inl ⟨by simp [idxP, h, h1], by simp [getA, h, h2]⟩
      · exact .inr ⟨k + 1, by simp; omega, by simp only [idxP, h, decide_false]; rw [if_neg (by simp), h1]; congr 1; omega, by simp [getA, h, h2]⟩
set_option maxHeartbeats 4000000 in
set_option maxRecDepth 100000 in
theorem Get2_calls (va : Value) (l : List Amt) (key : ByteArray) (w : World) (ha : Kd.amt.S (vw w []) va l) :
    Calls Tryz.prog 128 #[va, .string key] w (fun e w' => e = .returned (.int .i64 (getA l key)) ∧ Below w.heap.size w w') := by
  obtain ⟨A, c, rfl, ha⟩ := ha.val
  obtain ⟨-, hf1, hf2⟩ := ha.form
  have hcon := idx_calls Kd.amt Tryz.isAgg187 Tryz.sizeOf187 (by decide) (fun x => decide (x.name = key)) 211 #[.pointer (some ⟨w.heap.size, 0, none⟩)] eg_get1 (w0 := w) (w := w.alloc (.cells #[.string key] 9)) (alloc_below _ _) ha
    (fun W x cs hW hk => by
      obtain ⟨rfl, -⟩ := hk
      exact (get1_calls x key w.heap.size W ((hW.block _ (by simp)).trans (blk_last _ _))).mono fun e w' h => ⟨h.1, Below.then hW h.2⟩) Tryz.idxAmt
  have HC : Hid (Calls Tryz.prog 210 _ _ _) := hcon
  have HS := Lib.hid ha
  have hcase := idxP_getA key l 0
  clear hcon ha
  go_enter Tryz.func128, Tryz.ntmps128
  go_wp2_with fail
  refine HC.out.mono ?_
  rintro e w1 ⟨rfl, hb1⟩
  have HB := Lib.hid (Below.then (alloc_below w _) hb1)
  clear hb1
  rcases hcase with ⟨h1, h2⟩ | ⟨k, hk, h1, h2⟩
  · have H2 := Lib.hid h2
    rw [h1]
    clear h1 h2
    go_wp2
    go_ret
    exact ⟨by rw [H2.out]; rfl, HB.out⟩
  · obtain ⟨b, off, rfl, hc, -⟩ := (HS.out.mono (vw_below HB.out)).elemN k hk
    have c1 : w1.cell? ⟨b, off + k * 2 + 1, none⟩ = some (.int .i64 l[k].n) := hc 1 _ rfl
    rw [Nat.zero_add] at h1
    have H2 := Lib.hid h2
    rw [h1]
    have b1 : (0 : Int) ≤ (k : Int) := by omega
    have b2 : (k : Int) < (l.length : Int) := by omega
    have b3 : ¬ (k : Int) < 0 := by omega
    clear h1 h2 hc
    go_wp2
    go_ret
    exact ⟨by rw [H2.out]; rfl, HB.out⟩
end Go.Proofs.YtnmhicgbdalniaaGreatDoor
namespace Go.Proofs.YtnmhicgbdalniaaGreatDoor
open Go.RowKit Go.Shelf

/-! What a pod needs, what a node has; the first taint that is not borne: the program's side. -/
set_option maxHeartbeats 4000000 in
set_option maxRecDepth 100000 in
theorem fits1_calls (vb : Value) (x : Amt) (l : List Amt) (b : Nat) (w : World) (hs : Kd.amt.S (vw w []) vb l) (hq : w.heap[b]? = some (.cells #[vb] 28 (0, 0))) :
    Calls Tryz.prog 182 #[.agg #[.string x.name, .int .i64 x.n], .pointer (some ⟨b, 0, none⟩)] w (BoolDone (decide (getA l x.name < x.n)) w) := by
  obtain ⟨A, cap, rfl, hs⟩ := hs.val
  have HS := Lib.hid (hs.mono (vw_below (Below.then (alloc_below w (.cells #[.string x.name, .int .i64 x.n] 187)) (drew_below _))))
  have hlt := blk_lt hq
  have hne : b ≠ w.heap.size := by omega
  have h1 := (blk_old w (.cells #[.string x.name, .int .i64 x.n] 187) hlt).trans hq
  have h2 := blk_last w (.cells #[.string x.name, .int .i64 x.n] 187)
  obtain ⟨z, zf⟩ := blk_all h1
  obtain ⟨y, yf⟩ := blk_all h2
  have HB := Lib.hid (Below.then (alloc_below w (.cells #[.string x.name, .int .i64 x.n] 187)) (drew_below _))
  clear hs hq h1 h2
  go_enter Tryz.func182, Tryz.ntmps182
  go_upto_region 1 with fail
  go_region_held3 (fun w' => (∀ j, w'.cell? ⟨b, j, none⟩ = #[.slice A l.length cap][j]?) ∧ ∀ j, w'.cell? ⟨w.heap.size, j, none⟩ = #[.string x.name, .int .i64 x.n][j]?)
    (first | with_reducible exact ⟨z, y⟩ | go_keep)
    (first
    | (go_at_call 128; (with_reducible refine (Get2_calls _ l x.name _ HS.out).mono ?_); rintro e w1 ⟨rfl, hb⟩; have z1 : ∀ j, w1.cell? ⟨b, j, none⟩ = #[.slice A l.length cap][j]? := (fun j => (hb.cell (p := ⟨b, j, none⟩) (show b < (w.alloc _).drew.heap.size by show b < (w.alloc _).heap.size; simp; omega)).trans (z j)); have y1 : ∀ j, w1.cell? ⟨w.heap.size, j, none⟩ = #[.string x.name, .int .i64 x.n][j]? := (fun j => (hb.cell (p := ⟨w.heap.size, j, none⟩) (show w.heap.size < (w.alloc _).drew.heap.size by show w.heap.size < (w.alloc _).heap.size; simp)).trans (y j)); replace HB := Lib.hid (Below.then HB.out hb); clear z zf y yf hb; have z := z1; have y := y1; clear z1 y1))
  obtain ⟨g, hg⟩ : ∃ g, getA l x.name = g := ⟨_, rfl⟩
  have HM := Lib.hid hg
  rw [hg]
  clear hg z y
  go_wp2
  go_ret
  exact ⟨ret_bool (by rw [HM.out]), HB.out⟩
theorem eg_fits1 : ∀ args w, (callFunc 182 args).run Tryz.prog w = .ok (.enter 182 args) w := enters_of Tryz.func182 (by kernel_rfl) rfl
set_option maxHeartbeats 4000000 in
set_option maxRecDepth 100000 in
theorem Fits2_calls (va vb : Value) (a l : List Amt) (w : World) (ha : Kd.amt.S (vw w []) va a) (hb : Kd.amt.S (vw w []) vb l) :
    Calls Tryz.prog 102 #[va, vb] w (BoolDone (fitsV a l) w) := by
  obtain ⟨A, c, rfl, ha⟩ := ha.val
  obtain ⟨B, c2, rfl, hb⟩ := hb.val
  have hcon := has_calls Kd.amt Tryz.isAgg187 Tryz.sizeOf187 (by decide) (fun x => decide (getA l x.name < x.n)) 182 #[.pointer (some ⟨w.heap.size, 0, none⟩)] eg_fits1 (w0 := w) (w := w.alloc (.cells #[.slice B l.length c2] 28)) (alloc_below _ _) ha
    (fun W x cs hW hk => by
      obtain ⟨rfl, -⟩ := hk
      exact (fits1_calls (.slice B l.length c2) x l w.heap.size W (hb.mono (vw_below (Below.then (alloc_below _ _) hW))) ((hW.block _ (by simp)).trans (blk_last _ _))).mono fun e w' h => ⟨h.1, Below.then hW h.2⟩) Tryz.hasAmt
  have HC : Hid (Calls Tryz.prog 181 _ _ _) := hcon
  have hany : fitsV a l = !a.any (fun x => decide (getA l x.name < x.n)) := by
    unfold fitsV
    rw [List.any_eq_not_all_not, Bool.not_not]
    congr 1
    funext x
    rw [← decide_not]
    exact decide_eq_decide.2 (by omega)
  clear hcon ha hb
  go_enter Tryz.func102, Tryz.ntmps102
  go_wp2_with fail
  refine HC.out.mono ?_
  rintro e w1 ⟨rfl, hb1⟩
  have HB := Lib.hid (Below.then (alloc_below w _) hb1)
  clear hb1
  obtain ⟨m, hm⟩ : ∃ m, a.any (fun x => decide (getA l x.name < x.n)) = m := ⟨_, rfl⟩
  rw [hm] at hany ⊢
  have HA := Lib.hid hany
  clear hany hm
  cases m <;> (go_wp2; go_ret; exact ⟨ret_bool HA.out.symm, HB.out⟩)
theorem worstV_at (l : List Tnt) {t : List Tnt} {k : Nat} (h : k < t.length) : worstV l (t.drop k) = if (t[k].b && !bearsV l t[k]) = true then (t[k], true) else worstV l (t.drop (k + 1)) := by
  rw [List.drop_eq_getElem_cons h]; rfl
def WorstDone (r : Tnt × Bool) (w : World) (e : Ending) (w' : World) : Prop := e = .returned (.tuple #[.agg #[.string r.1.key, .string r.1.val, .bool r.1.b], .bool r.2]) ∧ Below w.heap.size w w'
set_option maxHeartbeats 4000000 in
set_option maxRecDepth 100000 in
theorem Worst_calls (va vb : Value) (l t : List Tnt) (w : World) (ha : Kd.tnt.S (vw w []) va l) (hb : Kd.tnt.S (vw w []) vb t) :
    Calls Tryz.prog 99 #[va, vb] w (WorstDone (worstV l t) w) := by
  obtain ⟨A, c, rfl, ha⟩ := ha.val
  obtain ⟨B, c2, rfl, hb⟩ := hb.val
  obtain ⟨-, hf1, hf2⟩ := hb.form
  have HA := Lib.hid ha
  have HS := Lib.hid hb
  clear ha hb
  go_enter Tryz.func99, Tryz.ntmps99
  go_wp2
  go_loopw [10] (fun i wr => ∃ k : Nat, k ≤ t.length ∧ i = .int .i64 k ∧ Hid (worstV l (t.drop k) = worstV l t) ∧ Hid (Below w.heap.size w wr) ∧ Hid (wr.heap[w.heap.size]? = some (.cells #[.string ⟨#[]⟩, .string ⟨#[]⟩, .bool false] 163 (0, 0)))) (fun i _ => t.length - (intOf i).toNat)
  case atStart => exact ⟨0, Nat.zero_le _, rfl, rfl, alloc_below _ _, blk_last _ _⟩
  case round =>
    obtain ⟨k, hk, rfl, HG, HB, HR0⟩ := hrel
    by_cases hlt : k < t.length
    · obtain ⟨b, off, rfl, hc, _⟩ := (HS.out.mono (vw_below HB.out)).elemN k hlt
      have hg := HG.out
      rw [worstV_at l hlt] at hg
      have HC : Hid (wr.rangeAt b (off + k * 3) [.string t[k].key, .string t[k].val, .bool t[k].b]) := hc
      obtain ⟨x, hx⟩ : ∃ x, t[k] = x := ⟨_, rfl⟩
      rw [hx] at hg HC
      obtain ⟨xk, xv, xb⟩ := x
      simp only at hg HC
      have HG2 := Lib.hid hg
      clear hg hc HG hx
      have HB2 : Hid (Below w.heap.size w (wr.alloc (.cells #[.string xk, .string xv, .bool xb] 163))) := Below.then HB.out (alloc_below _ _)
      have HR1 : Hid ((wr.alloc (.cells #[.string xk, .string xv, .bool xb] 163)).heap[w.heap.size]? = some (.cells #[.string ⟨#[]⟩, .string ⟨#[]⟩, .bool false] 163 (0, 0))) := (blk_old _ _ (blk_lt HR0.out)).trans HR0.out
      have HX1 : Hid ((wr.alloc (.cells #[.string xk, .string xv, .bool xb] 163)).heap[wr.heap.size]? = some (.cells #[.string xk, .string xv, .bool xb] 163 (0, 0))) := blk_last _ _
      go_upto_region 4 with (with_reducible refine wpList_load_mid rfl 163 _ rfl b (off + k * 3) rfl _ _ HC.out Tryz.underlying163 rfl (by kernel_rfl) ?_)
      generalize wr.alloc (.cells #[.string xk, .string xv, .bool xb] 163) = W at HB2 HR1 HX1 ⊢
      obtain ⟨y, yf⟩ := blk_all HX1.out
      cases xb with
      | false =>
        have hg := HG2.out
        rw [if_neg (by simp)] at hg
        have HG3 := Lib.hid hg
        clear hg
        go_wp2
        go_roundw
        case rel => exact ⟨k + 1, by omega, by go_num, HG3, HB2, HR1⟩
        case measure => simp [intOf]; omega
      | true =>
        go_wp2_with fail
        refine (Bears_calls _ l ⟨xk, xv, true⟩ _ (HA.out.mono (vw_below HB2.out))).mono ?_
        rintro e w1 ⟨rfl, hb⟩
        have HB3 := Lib.hid (Below.then HB2.out hb)
        have HR2 := Lib.hid ((hb.block _ (blk_lt HR1.out)).trans HR1.out)
        have HX2 := Lib.hid ((hb.block _ (blk_lt HX1.out)).trans HX1.out)
        have hg := HG2.out
        obtain ⟨m, hm⟩ : ∃ m, bearsV l ⟨xk, xv, true⟩ = m := ⟨_, rfl⟩
        rw [hm] at hg ⊢
        clear hm hb y yf
        cases m with
        | true =>
          rw [if_neg (by simp)] at hg
          have HG3 := Lib.hid hg
          clear hg
          go_wp2
          go_roundw
          case rel => exact ⟨k + 1, by omega, by go_num, HG3, HB3, HR2⟩
          case measure => simp [intOf]; omega
        | false =>
          rw [if_pos (by simp)] at hg
          have HG3 := Lib.hid hg
          clear hg
          obtain ⟨y, yf⟩ := blk_all HX2.out
          obtain ⟨z, zf⟩ := blk_all HR2.out
          go_wp2
          have hbl := Below.setCell (Below.setCell (Below.setCell HB3.out (p := ⟨w.heap.size, 0, none⟩) (Nat.le_refl _) (.string xk)) (p := ⟨w.heap.size, 1, none⟩) (Nat.le_refl _) (.string xv)) (p := ⟨w.heap.size, 2, none⟩) (Nat.le_refl _) (.bool true)
          exact ret_row2 (cs := [.string xk, .string xv, .bool true]) rfl rfl ((blk_set (blk_set (blk_set HR2.out _) _) _).trans rfl) Tryz.underlying163 rfl (by kernel_rfl) rfl ⟨by rw [← HG3.out]; rfl, hbl⟩
    · obtain rfl : k = t.length := by omega
      have hr := HG.out
      rw [List.drop_length] at hr
      have HR := Lib.hid hr
      clear hr
      obtain ⟨z, zf⟩ := blk_all HR0.out
      go_wp2
      have hbl := Below.setCell (Below.setCell (Below.setCell HB.out (p := ⟨w.heap.size, 0, none⟩) (Nat.le_refl _) (.string ⟨#[]⟩)) (p := ⟨w.heap.size, 1, none⟩) (Nat.le_refl _) (.string ⟨#[]⟩)) (p := ⟨w.heap.size, 2, none⟩) (Nat.le_refl _) (.bool false)
      exact ret_row2 (cs := [.string ⟨#[]⟩, .string ⟨#[]⟩, .bool false]) rfl rfl ((blk_set (blk_set (blk_set HR0.out _) _) _).trans rfl) Tryz.underlying163 rfl (by kernel_rfl) rfl ⟨by rw [← HR.out]; rfl, hbl⟩
end Go.Proofs.YtnmhicgbdalniaaGreatDoor
namespace Go.Proofs.YtnmhicgbdalniaaGreatDoor
open Go.RowKit Go.Sort Go.Shelf

/-! What is added, and what is taken away, name by name. -/
def TwoDone (r : Int × Int) (w : World) (e : Ending) (w' : World) : Prop := e = .returned (.tuple #[.int .i64 r.1, .int .i64 r.2]) ∧ Below w.heap.size w w'
set_option maxHeartbeats 8000000 in
set_option maxRecDepth 100000 in
theorem sub1_calls (a b : List Amt) (va vb : Value) (pa pb : Nat) (x : ByteArray) (w : World) (ha : Kd.amt.S (vw w []) va a) (hb : Kd.amt.S (vw w []) vb b) (ka : w.heap[pa]? = some (.cells #[va] 28 (0, 0))) (kb : w.heap[pb]? = some (.cells #[vb] 28 (0, 0))) :
    Calls Tryz.prog 260 #[.string x, .pointer (some ⟨pa, 0, none⟩), .pointer (some ⟨pb, 0, none⟩)] w (TwoDone (subN (getA a x) (getA b x)) w) := by
  have ga := (getA_ok (amt_ok ha) x).2
  have gb := (getA_ok (amt_ok hb) x).2
  obtain ⟨A, c, rfl, ha⟩ := ha.val
  obtain ⟨B, d, rfl, hb⟩ := hb.val
  have HA := Lib.hid ha
  have HB := Lib.hid hb
  have HG := Lib.hid (And.intro ga gb)
  have la := blk_lt ka
  have lb := blk_lt kb
  obtain ⟨z, zf⟩ := blk_all ka
  obtain ⟨y, yf⟩ := blk_all kb
  have HW : Hid (Below w.heap.size w w.drew) := drew_below _
  have HL : Hid (pa < w.heap.size ∧ pb < w.heap.size) := And.intro la lb
  clear ha hb ka kb ga gb la lb zf yf
  go_enter Tryz.func260, Tryz.ntmps260
  go_upto_region 1 with fail
  go_region_held3 (fun w' => (∀ j, w'.cell? ⟨pa, j, none⟩ = #[.slice A a.length c][j]?) ∧ ∀ j, w'.cell? ⟨pb, j, none⟩ = #[.slice B b.length d][j]?)
    (first | with_reducible exact ⟨z, y⟩ | go_keep)
    (first
    | (go_at_call 128; (with_reducible refine (Get2_calls (.slice A a.length c) a x _ (HA.out.mono (vw_below HW.out))).mono ?_); rintro e w1 ⟨rfl, hb⟩; have z1 : ∀ j, w1.cell? ⟨pa, j, none⟩ = #[.slice A a.length c][j]? := (fun j => (hb.cell (p := ⟨pa, j, none⟩) (Nat.lt_of_lt_of_le HL.out.1 HW.out.size)).trans (z j)); have y1 : ∀ j, w1.cell? ⟨pb, j, none⟩ = #[.slice B b.length d][j]? := (fun j => (hb.cell (p := ⟨pb, j, none⟩) (Nat.lt_of_lt_of_le HL.out.2 HW.out.size)).trans (y j)); replace HW := Lib.hid (Below.then HW.out hb); clear z y hb; have z := z1; have y := y1; clear z1 y1)
    | (go_at_call 128; (with_reducible refine (Get2_calls (.slice B b.length d) b x _ (HB.out.mono (vw_below HW.out))).mono ?_); rintro e w1 ⟨rfl, hb⟩; have z1 : ∀ j, w1.cell? ⟨pa, j, none⟩ = #[.slice A a.length c][j]? := (fun j => (hb.cell (p := ⟨pa, j, none⟩) (Nat.lt_of_lt_of_le HL.out.1 HW.out.size)).trans (z j)); have y1 : ∀ j, w1.cell? ⟨pb, j, none⟩ = #[.slice B b.length d][j]? := (fun j => (hb.cell (p := ⟨pb, j, none⟩) (Nat.lt_of_lt_of_le HL.out.2 HW.out.size)).trans (y j)); replace HW := Lib.hid (Below.then HW.out hb); clear z y hb; have z := z1; have y := y1; clear z1 y1)
    | (go_at_call 261; refine (qsub_calls _ _ _ HG.out.1 HG.out.2).mono ?_; rintro e w1 ⟨rfl, rfl⟩))
  go_wp2
  go_ret2
  rw [subV_subN]
  exact ⟨rfl, HW.out⟩
set_option maxHeartbeats 8000000 in
set_option maxRecDepth 100000 in
theorem add1_calls (a b : List Amt) (va vb : Value) (pa pb : Nat) (x : ByteArray) (w : World) (ha : Kd.amt.S (vw w []) va a) (hb : Kd.amt.S (vw w []) vb b) (ka : w.heap[pa]? = some (.cells #[va] 28 (0, 0))) (kb : w.heap[pb]? = some (.cells #[vb] 28 (0, 0))) :
    Calls Tryz.prog 307 #[.string x, .pointer (some ⟨pa, 0, none⟩), .pointer (some ⟨pb, 0, none⟩)] w (TwoDone (addN (getA a x) (getA b x)) w) := by
  have ga := (getA_ok (amt_ok ha) x).2
  have gb := (getA_ok (amt_ok hb) x).2
  obtain ⟨A, c, rfl, ha⟩ := ha.val
  obtain ⟨B, d, rfl, hb⟩ := hb.val
  have HA := Lib.hid ha
  have HB := Lib.hid hb
  have HG := Lib.hid (And.intro ga gb)
  have la := blk_lt ka
  have lb := blk_lt kb
  obtain ⟨z, zf⟩ := blk_all ka
  obtain ⟨y, yf⟩ := blk_all kb
  have HW : Hid (Below w.heap.size w w.drew) := drew_below _
  have HL : Hid (pa < w.heap.size ∧ pb < w.heap.size) := And.intro la lb
  clear ha hb ka kb ga gb la lb zf yf
  go_enter Tryz.func307, Tryz.ntmps307
  go_upto_region 1 with fail
  go_region_held3 (fun w' => (∀ j, w'.cell? ⟨pa, j, none⟩ = #[.slice A a.length c][j]?) ∧ ∀ j, w'.cell? ⟨pb, j, none⟩ = #[.slice B b.length d][j]?)
    (first | with_reducible exact ⟨z, y⟩ | go_keep)
    (first
    | (go_at_call 128; (with_reducible refine (Get2_calls (.slice A a.length c) a x _ (HA.out.mono (vw_below HW.out))).mono ?_); rintro e w1 ⟨rfl, hb⟩; have z1 : ∀ j, w1.cell? ⟨pa, j, none⟩ = #[.slice A a.length c][j]? := (fun j => (hb.cell (p := ⟨pa, j, none⟩) (Nat.lt_of_lt_of_le HL.out.1 HW.out.size)).trans (z j)); have y1 : ∀ j, w1.cell? ⟨pb, j, none⟩ = #[.slice B b.length d][j]? := (fun j => (hb.cell (p := ⟨pb, j, none⟩) (Nat.lt_of_lt_of_le HL.out.2 HW.out.size)).trans (y j)); replace HW := Lib.hid (Below.then HW.out hb); clear z y hb; have z := z1; have y := y1; clear z1 y1)
    | (go_at_call 128; (with_reducible refine (Get2_calls (.slice B b.length d) b x _ (HB.out.mono (vw_below HW.out))).mono ?_); rintro e w1 ⟨rfl, hb⟩; have z1 : ∀ j, w1.cell? ⟨pa, j, none⟩ = #[.slice A a.length c][j]? := (fun j => (hb.cell (p := ⟨pa, j, none⟩) (Nat.lt_of_lt_of_le HL.out.1 HW.out.size)).trans (z j)); have y1 : ∀ j, w1.cell? ⟨pb, j, none⟩ = #[.slice B b.length d][j]? := (fun j => (hb.cell (p := ⟨pb, j, none⟩) (Nat.lt_of_lt_of_le HL.out.2 HW.out.size)).trans (y j)); replace HW := Lib.hid (Below.then HW.out hb); clear z y hb; have z := z1; have y := y1; clear z1 y1)
    | (go_at_call 308; refine (qadd_calls _ _ _ HG.out.1 HG.out.2).mono ?_; rintro e w1 ⟨rfl, rfl⟩))
  go_wp2
  go_ret2
  rw [addV_addN]
  exact ⟨rfl, HW.out⟩
end Go.Proofs.YtnmhicgbdalniaaGreatDoor
namespace Go.Proofs.YtnmhicgbdalniaaGreatDoor
open Go.RowKit Go.Sort Go.Shelf

theorem subN_ok {a b : Int} (ha : i64 a) (hb : i64 b) : i64 (subN a b).1 := by
  unfold subN
  obtain ⟨a1, a2⟩ := ha
  obtain ⟨b1, b2⟩ := hb
  unfold i64
  split
  · simp
  · split
    · simp
    · split
      · simp
      · simp only; omega
theorem chkL_two (a b : List Amt) : chkL [a, b] = if checkVec a ≠ 0 then checkVec a else if checkVec b ≠ 0 then checkVec b else 0 := rfl
theorem two_len {a b : List Amt} (h : chkL [a, b] = 0) : [a, b].flatten.length ≤ 1000 := by
  rw [chkL_two] at h
  by_cases h1 : checkVec a = 0
  · by_cases h2 : checkVec b = 0
    · have k1 := (manyV_zero h1).1
      have k2 := (manyV_zero h2).1
      simp
      omega
    · rw [if_neg (by simpa using h1), if_pos h2] at h
      exact absurd h h2
  · rw [if_pos h1] at h
    exact absurd h h1
theorem two_slices {w : World} {g : Nat} {T : TypeId} {va vb : Value} {a b : List Amt} (h : w.heap[g]? = some (.cells #[va, vb] T (0, 0))) (ha : Kd.amt.S (vw w []) va a) (hb : Kd.amt.S (vw w []) vb b) : (Kd.slice Kd.amt).S (vw w []) (.slice (some ⟨g, 0, none⟩) 2 2) [a, b] := by
  refine ⟨some ⟨g, 0, none⟩, 2, rfl, by simp, by simp, by simp, fun _ => ⟨g, 0, rfl, fun j x hx => ?_⟩⟩
  match j, hx with
  | 0, hx =>
    injection hx with hx
    subst hx
    refine ⟨[va], ⟨va, rfl, ha⟩, fun i u hu => ?_⟩
    match i, hu with
    | 0, hu => unfold View.cell?; rw [vw_mk (by simp) h]; simpa using hu
  | 1, hx =>
    injection hx with hx
    subst hx
    refine ⟨[vb], ⟨vb, rfl, hb⟩, fun i u hu => ?_⟩
    match i, hu with
    | 0, hu => unfold View.cell?; rw [vw_mk (by simp) h]; simpa [Kd.slice] using hu
theorem callFunc_sub1 (args : Array Value) (w : World) : (callFunc 260 args).run Tryz.prog w = .ok (.enter 260 args) w := by
  simp [go_sem]
set_option maxHeartbeats 8000000 in
set_option maxRecDepth 100000 in
theorem SubV_calls (va vb : Value) (a b : List Amt) (w : World) (ha : Kd.amt.S (vw w []) va a) (hb : Kd.amt.S (vw w []) vb b) :
    Calls Tryz.prog 180 #[va, vb] w (VecNew (madeV (fun x => subN (getA a x) (getA b x)) [a, b]) w) := by
  have hmf : ∀ (fn : Fn) (first cap : Array Value) (w : World), (Instr.makeFunc fn first cap).run Tryz.prog w = .ok (.func fn first cap) w := fun _ _ _ _ => rfl
  have hga := getA_ok (amt_ok ha)
  have hgb := getA_ok (amt_ok hb)
  have HO := Lib.hid (And.intro hga hgb)
  obtain ⟨A, c, rfl, ha⟩ := ha.val
  obtain ⟨B, d, rfl, hb⟩ := hb.val
  have HA := Lib.hid ha
  have HB := Lib.hid hb
  clear ha hb hga hgb
  go_enter Tryz.func180, Tryz.ntmps180
  go_upto_region 1 with fail
  obtain ⟨W, hW⟩ : ∃ W : World, W = ((w.alloc (.cells #[.slice A a.length c] 28)).alloc (.cells #[.slice B b.length d] 28)) := ⟨_, rfl⟩
  rw [← hW]
  have hbw : Below w.heap.size w W := by rw [hW]; exact Below.then (alloc_below _ _) (alloc_below _ _)
  have k1 : W.heap[w.heap.size]? = some (.cells #[.slice A a.length c] 28 (0, 0)) := by
    rw [hW]; exact (blk_old _ _ (by simp)).trans (blk_last _ _)
  have k2 : W.heap[w.heap.size + 1]? = some (.cells #[.slice B b.length d] 28 (0, 0)) := by
    rw [hW]
    have := blk_last (w.alloc (.cells #[.slice A a.length c] 28)) (.cells #[.slice B b.length d] 28)
    simpa using this
  have HBW := Lib.hid hbw
  have HK := Lib.hid (And.intro k1 k2)
  obtain ⟨z, zf⟩ := blk_all k1
  obtain ⟨y, yf⟩ := blk_all k2
  clear hW hbw k1 k2
  go_wp2_with fail
  have hb1 := alloc_below W (.cells #[.slice A a.length c, .slice B b.length d] 28)
  have hx := blk_last W (.cells #[.slice A a.length c, .slice B b.length d] 28)
  generalize W.alloc (.cells #[.slice A a.length c, .slice B b.length d] 28) = W1 at hb1 hx ⊢
  have hs := two_slices hx (HA.out.mono (vw_below (Below.then HBW.out hb1))) (HB.out.mono (vw_below (Below.then HBW.out hb1)))
  have q1 := (hb1.block _ (blk_lt HK.out.1)).trans HK.out.1
  have q2 := (hb1.block _ (blk_lt HK.out.2)).trans HK.out.2
  have hfn : AmtFn 260 [.pointer (some ⟨w.heap.size, 0, none⟩), .pointer (some ⟨w.heap.size + 1, 0, none⟩)] (fun x => subN (getA a x) (getA b x)) W1 :=
    ⟨fun s => subN_ok (HO.out.1 s) (HO.out.2 s), fun W2 s hW2 hs => sub1_calls a b _ _ _ _ s W2 (HA.out.mono (vw_below (Below.then HBW.out (Below.then hb1 hW2)))) (HB.out.mono (vw_below (Below.then HBW.out (Below.then hb1 hW2)))) ((hW2.block _ (blk_lt q1)).trans q1) ((hW2.block _ (blk_lt q2)).trans q2)⟩
  refine (made_calls 260 _ _ (fun x => subN (getA a x) (getA b x)) _ [a, b] W1 (fun s W => callFunc_sub1 _ W) hfn hs two_len).mono ?_
  rintro e w' ⟨A2, c2, rfl, hv, hb2⟩
  have HV := Lib.hid (hv.mono (nx_new (own := none) (own' := none) (Below.then HBW.out hb1).size (fun _ h => by cases h) rfl))
  have HB2 := Lib.hid (Below.then HBW.out (Below.then hb1 hb2))
  clear hv hb2 hb1 hx hs q1 q2 hfn z zf y yf
  go_wp2
  go_ret2
  exact ⟨_, _, rfl, HV.out, HB2.out⟩
theorem callFunc_add1 (args : Array Value) (w : World) : (callFunc 307 args).run Tryz.prog w = .ok (.enter 307 args) w := by
  simp [go_sem]
set_option maxHeartbeats 8000000 in
set_option maxRecDepth 100000 in
theorem AddV_calls (va vb : Value) (a b : List Amt) (w : World) (ha : Kd.amt.S (vw w []) va a) (hb : Kd.amt.S (vw w []) vb b) :
    Calls Tryz.prog 269 #[va, vb] w (VecNew (madeV (fun x => addN (getA a x) (getA b x)) [a, b]) w) := by
  have hmf : ∀ (fn : Fn) (first cap : Array Value) (w : World), (Instr.makeFunc fn first cap).run Tryz.prog w = .ok (.func fn first cap) w := fun _ _ _ _ => rfl
  have hga := getA_ok (amt_ok ha)
  have hgb := getA_ok (amt_ok hb)
  have HO := Lib.hid (And.intro hga hgb)
  obtain ⟨A, c, rfl, ha⟩ := ha.val
  obtain ⟨B, d, rfl, hb⟩ := hb.val
  have HA := Lib.hid ha
  have HB := Lib.hid hb
  clear ha hb hga hgb
  go_enter Tryz.func269, Tryz.ntmps269
  go_upto_region 1 with fail
  obtain ⟨W, hW⟩ : ∃ W : World, W = ((w.alloc (.cells #[.slice A a.length c] 28)).alloc (.cells #[.slice B b.length d] 28)) := ⟨_, rfl⟩
  rw [← hW]
  have hbw : Below w.heap.size w W := by rw [hW]; exact Below.then (alloc_below _ _) (alloc_below _ _)
  have k1 : W.heap[w.heap.size]? = some (.cells #[.slice A a.length c] 28 (0, 0)) := by
    rw [hW]; exact (blk_old _ _ (by simp)).trans (blk_last _ _)
  have k2 : W.heap[w.heap.size + 1]? = some (.cells #[.slice B b.length d] 28 (0, 0)) := by
    rw [hW]
    have := blk_last (w.alloc (.cells #[.slice A a.length c] 28)) (.cells #[.slice B b.length d] 28)
    simpa using this
  have HBW := Lib.hid hbw
  have HK := Lib.hid (And.intro k1 k2)
  obtain ⟨z, zf⟩ := blk_all k1
  obtain ⟨y, yf⟩ := blk_all k2
  clear hW hbw k1 k2
  go_wp2_with fail
  have hb1 := alloc_below W (.cells #[.slice A a.length c, .slice B b.length d] 28)
  have hx := blk_last W (.cells #[.slice A a.length c, .slice B b.length d] 28)
  generalize W.alloc (.cells #[.slice A a.length c, .slice B b.length d] 28) = W1 at hb1 hx ⊢
  have hs := two_slices hx (HA.out.mono (vw_below (Below.then HBW.out hb1))) (HB.out.mono (vw_below (Below.then HBW.out hb1)))
  have q1 := (hb1.block _ (blk_lt HK.out.1)).trans HK.out.1
  have q2 := (hb1.block _ (blk_lt HK.out.2)).trans HK.out.2
  have hfn : AmtFn 307 [.pointer (some ⟨w.heap.size, 0, none⟩), .pointer (some ⟨w.heap.size + 1, 0, none⟩)] (fun x => addN (getA a x) (getA b x)) W1 :=
    ⟨fun s => addN_ok (HO.out.1 s) (HO.out.2 s), fun W2 s hW2 hs => add1_calls a b _ _ _ _ s W2 (HA.out.mono (vw_below (Below.then HBW.out (Below.then hb1 hW2)))) (HB.out.mono (vw_below (Below.then HBW.out (Below.then hb1 hW2)))) ((hW2.block _ (blk_lt q1)).trans q1) ((hW2.block _ (blk_lt q2)).trans q2)⟩
  refine (made_calls 307 _ _ (fun x => addN (getA a x) (getA b x)) _ [a, b] W1 (fun s W => callFunc_add1 _ W) hfn hs two_len).mono ?_
  rintro e w' ⟨A2, c2, rfl, hv, hb2⟩
  have HV := Lib.hid (hv.mono (nx_new (own := none) (own' := none) (Below.then HBW.out hb1).size (fun _ h => by cases h) rfl))
  have HB2 := Lib.hid (Below.then HBW.out (Below.then hb1 hb2))
  clear hv hb2 hb1 hx hs q1 q2 hfn z zf y yf
  go_wp2
  go_ret2
  exact ⟨_, _, rfl, HV.out, HB2.out⟩
end Go.Proofs.YtnmhicgbdalniaaGreatDoor
namespace Go.Proofs.YtnmhicgbdalniaaGreatDoor
open Go.RowKit

/-! made's vectors are those of the document. -/
theorem lt_bs {a b : ByteArray} : ltS a b = true ↔ bs a < bs b := by
  unfold ltS
  exact decide_eq_true_iff
abbrev Up (a : List Amt) : Prop := a.Pairwise (fun x y => ltS x.name y.name = true)
theorem up_rises {a : List Amt} (h : Up a) : Rises ((a.map (·.name)).map bs) :=
  List.pairwise_map.2 (List.pairwise_map.2 (h.imp fun k => lt_bs.1 k))
theorem vec_up {a : List Amt} (h : checkVec a = 0) : Up a := (rowsV_zero (manyV_zero h).2).2.1
theorem namesV_has : ∀ (a b : List Amt) (x : ByteArray), (x ∈ a.map (·.name) ∨ x ∈ b.map (·.name)) → x ∈ namesV a b
  | [], b, x, h => by rw [namesV_nil_l]; exact h.resolve_left (by simp)
  | a :: r, [], x, h => by rw [namesV_nil_r]; exact h.resolve_right (by simp)
  | a :: r, b :: t, x, h => by
    have h1 := namesV_has r (b :: t) x
    have h2 := namesV_has (a :: r) t x
    have h3 := namesV_has r t x
    rw [List.map_cons, List.mem_cons, List.map_cons, List.mem_cons] at h
    rw [List.map_cons, List.mem_cons] at h1 h2
    rw [namesV]
    split
    · rw [List.mem_cons]
      rcases h with (h | h) | h
      · exact .inl h
      · exact .inr (h1 (.inl h))
      · exact .inr (h1 (.inr h))
    · split
      · rw [List.mem_cons]
        rcases h with h | (h | h)
        · exact .inr (h2 (.inl h))
        · exact .inl h
        · exact .inr (h2 (.inr h))
      · rename_i q1 q2
        have he : a.name = b.name := by
          have k1 : ¬ bs a.name < bs b.name := fun h => q1 (lt_bs.2 h)
          have k2 : ¬ bs b.name < bs a.name := fun h => q2 (lt_bs.2 h)
          exact bs_inj (Std.le_antisymm (Std.not_lt.1 k2) (Std.not_lt.1 k1))
        rw [List.mem_cons]
        rcases h with (h | h) | (h | h)
        · exact .inl h
        · exact .inr (h3 (.inl h))
        · exact .inl (h.trans he.symm)
        · exact .inr (h3 (.inr h))
termination_by a b => a.length + b.length
theorem namesV_up : ∀ (a b : List Amt), Up a → Up b → Rises ((namesV a b).map bs)
  | [], b, _, hb => by rw [namesV_nil_l]; exact up_rises hb
  | a :: r, [], ha, _ => by rw [namesV_nil_r]; exact up_rises ha
  | a :: r, b :: t, ha, hb => by
    obtain ⟨a1, a2⟩ := List.pairwise_cons.1 ha
    obtain ⟨b1, b2⟩ := List.pairwise_cons.1 hb
    have h1 := namesV_up r (b :: t) a2 hb
    have h2 := namesV_up (a :: r) t ha b2
    have h3 := namesV_up r t a2 b2
    have ma : ∀ x, x ∈ r.map (·.name) → ltS a.name x = true := fun x hx => by
      obtain ⟨y, hy, rfl⟩ := List.mem_map.1 hx
      exact a1 y hy
    have mb : ∀ x, x ∈ t.map (·.name) → ltS b.name x = true := fun x hx => by
      obtain ⟨y, hy, rfl⟩ := List.mem_map.1 hx
      exact b1 y hy
    rw [namesV]
    split
    · rename_i q
      refine List.pairwise_cons.2 ⟨fun y hy => ?_, h1⟩
      obtain ⟨z, hz, rfl⟩ := List.mem_map.1 hy
      rcases namesV_mem r (b :: t) z hz with k | k
      · exact lt_bs.1 (ma z k)
      · rw [List.map_cons, List.mem_cons] at k
        rcases k with k | k
        · subst k; exact lt_bs.1 q
        · exact lt_bs.1 (ltS_trans q (mb z k))
    · split
      · rename_i q
        refine List.pairwise_cons.2 ⟨fun y hy => ?_, h2⟩
        obtain ⟨z, hz, rfl⟩ := List.mem_map.1 hy
        rcases namesV_mem (a :: r) t z hz with k | k
        · rw [List.map_cons, List.mem_cons] at k
          rcases k with k | k
          · subst k; exact lt_bs.1 q
          · exact lt_bs.1 (ltS_trans q (ma z k))
        · exact lt_bs.1 (mb z k)
      · rename_i q1 q2
        have he : a.name = b.name := by
          have k1 : ¬ bs a.name < bs b.name := fun h => q1 (lt_bs.2 h)
          have k2 : ¬ bs b.name < bs a.name := fun h => q2 (lt_bs.2 h)
          exact bs_inj (Std.le_antisymm (Std.not_lt.1 k2) (Std.not_lt.1 k1))
        refine List.pairwise_cons.2 ⟨fun y hy => ?_, h3⟩
        obtain ⟨z, hz, rfl⟩ := List.mem_map.1 hy
        rcases namesV_mem r t z hz with k | k
        · exact lt_bs.1 (ma z k)
        · exact lt_bs.1 (he ▸ mb z k)
termination_by a b => a.length + b.length
theorem namesL_two {a b : List Amt} (ha : Up a) (hb : Up b) : namesL [a, b] = namesV a b := by
  have h : insAll ((nmsL [a, b]).map bs) = (namesV a b).map bs := by
    refine rises_eq _ _ (insAll_rises _) (namesV_up a b ha hb) fun x => ?_
    rw [insAll_mem]
    have hn : nmsL [a, b] = a.map (·.name) ++ b.map (·.name) := by simp [nmsL]
    rw [hn]
    refine ⟨fun h => ?_, fun h => ?_⟩
    · obtain ⟨y, hy, rfl⟩ := List.mem_map.1 h
      exact List.mem_map_of_mem (namesV_has a b y (List.mem_append.1 hy))
    · obtain ⟨y, hy, rfl⟩ := List.mem_map.1 h
      exact List.mem_map_of_mem (List.mem_append.2 (namesV_mem a b y hy))
  unfold namesL
  rw [h, List.map_map]
  exact List.map_id' _
theorem madeL_sub (a b : List Amt) : ∀ (l : List ByteArray) (out : List Amt), madeL (fun x => subN (getA a x) (getA b x)) l out = subL a b l out
  | [], out => rfl
  | x :: r, out => by rw [madeL, subL, madeL_sub a b r]
theorem madeV_two (f : ByteArray → Int × Int) {a b : List Amt} : madeV f [a, b] = if checkVec a ≠ 0 then ([], checkVec a) else if checkVec b ≠ 0 then ([], checkVec b) else madeL f (namesV a b) [] := by
  unfold madeV
  rw [chkL_two]
  by_cases h1 : checkVec a ≠ 0
  · rw [if_pos h1, if_pos h1, if_pos h1]
  · by_cases h2 : checkVec b ≠ 0
    · rw [if_neg h1, if_pos h2, if_pos h2, if_neg h1, if_pos h2]
    · rw [if_neg h1, if_neg h2, if_neg (by simp), if_neg h1, if_neg h2, namesL_two (vec_up (Decidable.not_not.1 h1)) (vec_up (Decidable.not_not.1 h2))]
theorem made_sub (a b : List Amt) : madeV (fun x => subN (getA a x) (getA b x)) [a, b] = subVec a b := by
  rw [madeV_two, madeL_sub]; rfl
theorem vec_pos {a : List Amt} (h : checkVec a = 0) : ∀ x ∈ a, 0 < x.n := by
  intro x hx
  have := (rowsV_zero (manyV_zero h).2).1 x hx
  unfold amtV at this
  split at this
  · cases this
  · split at this
    · cases this
    · omega
theorem getA_pos : ∀ {a : List Amt}, (∀ x ∈ a, 0 < x.n) → ∀ k, 0 ≤ getA a k ∧ (k ∈ a.map (·.name) → 0 < getA a k)
  | [], _, k => ⟨Int.le_refl _, fun h => by simp at h⟩
  | x :: r, h, k => by
    obtain ⟨i1, i2⟩ := getA_pos (fun y hy => h y (List.mem_cons_of_mem _ hy)) k
    have hx := h x (List.mem_cons_self ..)
    unfold getA
    split
    · exact ⟨by omega, fun _ => hx⟩
    · rename_i hne
      refine ⟨i1, fun hk => i2 ?_⟩
      rw [List.map_cons, List.mem_cons] at hk
      exact hk.resolve_left fun e => hne e.symm
theorem madeL_add {a b : List Amt} (ha : ∀ x ∈ a, 0 < x.n) (hb : ∀ x ∈ b, 0 < x.n) : ∀ (l : List ByteArray) (out : List Amt), (∀ x ∈ l, x ∈ a.map (·.name) ∨ x ∈ b.map (·.name)) → madeL (fun x => addN (getA a x) (getA b x)) l out = addL a b l out
  | [], out, _ => rfl
  | x :: r, out, h => by
    rw [madeL, addL]
    by_cases h0 : (addN (getA a x) (getA b x)).2 ≠ 0
    · rw [if_pos h0, if_pos h0]
    · obtain ⟨a1, a2⟩ := getA_pos ha x
      obtain ⟨b1, b2⟩ := getA_pos hb x
      have hp : 0 < (addN (getA a x) (getA b x)).1 := by
        unfold addN at h0 ⊢
        rw [if_neg (by omega), if_neg (by omega)] at h0 ⊢
        split at h0
        · exact absurd (by simp) h0
        · rename_i q
          rw [if_neg q]
          show 0 < getA a x + getA b x
          rcases h x (List.mem_cons_self ..) with k | k
          · have := a2 k; omega
          · have := b2 k; omega
      rw [if_neg h0, if_neg h0, if_pos hp]
      exact madeL_add ha hb r _ fun y hy => h y (List.mem_cons_of_mem _ hy)
theorem made_add (a b : List Amt) : madeV (fun x => addN (getA a x) (getA b x)) [a, b] = addVec a b := by
  rw [madeV_two]
  unfold addVec
  by_cases h1 : checkVec a ≠ 0
  · rw [if_pos h1, if_pos h1]
  · by_cases h2 : checkVec b ≠ 0
    · rw [if_neg h1, if_pos h2, if_neg h1, if_pos h2]
    · rw [if_neg h1, if_neg h2, if_neg h1, if_neg h2]
      exact madeL_add (vec_pos (Decidable.not_not.1 h1)) (vec_pos (Decidable.not_not.1 h2)) _ _ fun x hx => namesV_mem a b x hx
theorem SubVec2_calls (va vb : Value) (a b : List Amt) (w : World) (ha : Kd.amt.S (vw w []) va a) (hb : Kd.amt.S (vw w []) vb b) :
    Calls Tryz.prog 180 #[va, vb] w (VecNew (subVec a b) w) := made_sub a b ▸ SubV_calls va vb a b w ha hb
theorem AddVec2_calls (va vb : Value) (a b : List Amt) (w : World) (ha : Kd.amt.S (vw w []) va a) (hb : Kd.amt.S (vw w []) vb b) :
    Calls Tryz.prog 269 #[va, vb] w (VecNew (addVec a b) w) := made_add a b ▸ AddV_calls va vb a b w ha hb
end Go.Proofs.YtnmhicgbdalniaaGreatDoor
namespace Go.Proofs.YtnmhicgbdalniaaGreatDoor
open Go.RowKit Go.Sort

/-! Rows of structs in a block that is written. -/
structure Rw (w : World) (g z : Nat) (css : List (List Value)) : Prop where
  lt : g < w.heap.size
  len : ∀ c ∈ css, c.length = z
  at_ : ∀ (t : Nat) (c : List Value), css[t]? = some c → w.rangeAt g (t * z) c
  free : ∀ x, w.frozen? ⟨g, x, none⟩ = false
theorem Rw.below {w w' : World} {g z : Nat} {css : List (List Value)} (h : Rw w g z css) (hb : Below w.heap.size w w') : Rw w' g z css :=
  ⟨Nat.lt_of_lt_of_le h.lt hb.size, h.len, fun t c hc j v hv => (hb.cell (p := ⟨g, t * z + j, none⟩) h.lt).trans (h.at_ t c hc j v hv), fun x => (hb.frozen (p := ⟨g, x, none⟩) h.lt).trans (h.free x)⟩
theorem Rw.there {w : World} {g z : Nat} {css : List (List Value)} (h : Rw w g z css) {t : Nat} (ht : t < css.length) : w.there g (t * z) z := fun j hj => by
  have hc := h.len css[t] (List.getElem_mem ht)
  have := h.at_ t css[t] (List.getElem?_eq_getElem ht) j (css[t][j]'(by omega)) (List.getElem?_eq_getElem _)
  exact ⟨by rw [this]; rfl, h.free _⟩
theorem apart {s t z j : Nat} (hst : s ≠ t) (hj : j < z) : s * z + j < t * z ∨ t * z + z ≤ s * z + j := by
  rcases Nat.lt_or_gt_of_ne hst with h | h
  · have := Nat.mul_le_mul_right z (show s + 1 ≤ t by omega)
    rw [Nat.add_mul] at this; omega
  · have := Nat.mul_le_mul_right z (show t + 1 ≤ s by omega)
    rw [Nat.add_mul] at this; omega
theorem Rw.set {w : World} {g z : Nat} {css : List (List Value)} (h : Rw w g z css) {t : Nat} (ht : t < css.length) {c : List Value} (hc : c.length = z) : Rw (w.setCells g (t * z) c) g z (css.set t c) := by
  refine ⟨by rw [setCells_size]; exact h.lt, fun d hd => ?_, fun s d hd j v hv => ?_, fun x => by rw [World.frozen?_setCells]; exact h.free x⟩
  · rcases List.mem_or_eq_of_mem_set hd with k | rfl
    · exact h.len d k
    · exact hc
  · rw [List.getElem?_set] at hd
    by_cases e : t = s
    · subst e
      rw [if_pos rfl, if_pos ht] at hd
      injection hd with hd
      subst hd
      have hj := (List.getElem?_eq_some_iff.1 hv).1
      rw [World.cell?_setCells_in g c (t * z) w (fun i hi => (h.there ht i (by omega)).1) j hj, ← hv, List.getElem?_eq_getElem hj]
    · rw [if_neg e] at hd
      have hj := (List.getElem?_eq_some_iff.1 hv).1
      have hl := h.len d (List.mem_of_getElem? hd)
      rw [World.cell?_setCells_out g c (t * z) w ⟨g, s * z + j, none⟩ (fun _ _ => by have := apart (s := s) (t := t) (z := z) (j := j) (Ne.symm e) (by omega); rw [hc]; exact this)]
      exact h.at_ s d hd j v hv
/-- A block of the call's own: its type, and how many cells it has. -/
def Blk (w : World) (g : Nat) (T : TypeId) (n : Nat) : Prop := ∃ cur : Array Value, w.heap[g]? = some (.cells cur T (0, 0)) ∧ cur.size = n
theorem Blk.below {w w' : World} {g : Nat} {T : TypeId} {n : Nat} (h : Blk w g T n) (hb : Below w.heap.size w w') : Blk w' g T n := by
  obtain ⟨cur, h1, h2⟩ := h
  exact ⟨cur, (hb.block _ (blk_lt h1)).trans h1, h2⟩
theorem Blk.setCell {w : World} {g : Nat} {T : TypeId} {n : Nat} (h : Blk w g T n) (b j : Nat) (u : Value) : Blk (w.setCell ⟨b, j, none⟩ u) g T n := by
  obtain ⟨cur, h1, h2⟩ := h
  by_cases e : b = g
  · subst e
    exact ⟨_, blk_set h1 u, by rw [Array.size_setIfInBounds]; exact h2⟩
  · exact ⟨cur, (Below.heap_setCell w ⟨b, j, none⟩ u g (fun k => e k.symm)).trans h1, h2⟩
theorem Blk.setCells {g : Nat} {T : TypeId} {n : Nat} (b : Nat) : ∀ (cs : List Value) (o : Nat) {w : World}, Blk w g T n → Blk (w.setCells b o cs) g T n
  | [], _, _, h => h
  | c :: r, o, _, h => Blk.setCells b r (o + 1) (h.setCell b o c)
theorem Blk.other {w w' : World} {g : Nat} {T : TypeId} {n : Nat} (h : Blk w g T n) (hb : w'.heap[g]? = w.heap[g]?) : Blk w' g T n := by
  obtain ⟨cur, h1, h2⟩ := h
  exact ⟨cur, hb.trans h1, h2⟩
theorem Blk.own {w : World} {base g z n cap : Nat} {T : TypeId} {css : List (List Value)} (h : Blk w g T (cap * z)) (hr : Rw w g z css) (hl : css.length = n) (hb : base ≤ g) (h1 : n ≤ cap) (h2 : cap ≤ maxLen) : w.ownsRow base T z (.slice (some ⟨g, 0, none⟩) n cap) n css.flatten := by
  obtain ⟨cur, k1, k2⟩ := h
  have hfl := flatten_len css hr.len
  rw [hl] at hfl
  refine ⟨hfl, .inr ⟨g, cap, cur, rfl, hb, k1, h1, h2, k2, ?_⟩⟩
  have hnc : n * z ≤ cap * z := Nat.mul_le_mul_right z h1
  refine List.ext_getElem? fun j => ?_
  rcases Nat.lt_or_ge j (n * z) with hj | hj
  · have hz : 0 < z := by
      rcases Nat.eq_zero_or_pos z with h0 | h0
      · subst h0; simp at hj
      · exact h0
    have ht : j / z < css.length := by rw [hl]; exact Nat.div_lt_of_lt_mul (by rw [Nat.mul_comm]; exact hj)
    have hm := Nat.mod_lt j hz
    have hc : css[j / z]? = some css[j / z] := List.getElem?_eq_getElem ht
    have h4 := flatten_get css hr.len (j / z) (j % z) _ hc hm
    have hcl := hr.len _ (List.getElem_mem ht)
    have h5 := hr.at_ _ _ hc (j % z) _ (List.getElem?_eq_getElem (by omega))
    rw [Nat.mul_comm, Nat.div_add_mod] at h4
    rw [cell_of_row w g _ _ _ _ k1, Nat.mul_comm, Nat.div_add_mod] at h5
    rw [h4, List.getElem?_take, if_pos hj, List.getElem?_eq_getElem (by omega : j % z < css[j / z].length), ← h5]
    simp
  · rw [List.getElem?_eq_none (by rw [List.length_take]; omega), List.getElem?_eq_none (by omega)]
/-- 'clear(s)' of wide elements. -/
theorem run_clear_wide {P : Program} (w : World) (t e ty : TypeId) (z : Value) (ht : P.underlying t = some (.slice e)) (hv : ∀ w, (zeroValue e).run P w = .ok z w) (h1 : ∀ v ∈ z.cells.toList, v.oneCell' = true) (hz : 0 < z.cells.size) (b o n c : Nat) (hn : 0 < n)
    (hc : ∀ j, j < n * z.cells.size → (w.cell? ⟨b, o + j, none⟩).isSome = true) (hf : ∀ j, j < n * z.cells.size → w.frozen? ⟨b, o + j, none⟩ = false) :
    (Builtin.clear_ #[t] ty #[.slice (some ⟨b, o, none⟩) n c]).run P w = .ok (.tuple #[]) (w.setCells b o (Builtin.zeroCells z.cells n).toList) := by
  have hl : (Builtin.zeroCells z.cells n).toList.length = n * z.cells.size := by simp [Builtin.zeroCells]
  have hst := run_storeCells_cells (P := P) b o (Builtin.zeroCells z.cells n).toList 0 w (by rw [hl]; simpa using hc) (by rw [hl]; simpa using hf) (by
    intro v hv'
    simp only [Builtin.zeroCells, Array.toList_map, List.mem_map] at hv'
    obtain ⟨i, -, rfl⟩ := hv'
    refine h1 _ ?_
    have : i % z.cells.size < z.cells.size := Nat.mod_lt _ hz
    rw [getElem!_pos z.cells _ this]
    exact Array.mem_toList_iff.2 (Array.getElem_mem _))
  simp only [Nat.add_zero] at hst
  obtain ⟨m, rfl⟩ : ∃ m, n = m + 1 := ⟨n - 1, by omega⟩
  simp [Builtin.clear_, run_underlying ht, hv, hst]
section
variable {P : Program}
theorem wp_clear {o : Oper} {a : Act} {w : World} {K : Act → World → Prop} {Q : Exit → Act → World → Prop} (t e : TypeId) (s : Operand) (ho : o.op = .call { callee := .builtin .clear, args := #[s], argTypes := #[t] }) (z : Value) (ht : P.underlying t = some (.slice e)) (hv : ∀ w, (zeroValue e).run P w = .ok z w)
    (h1 : ∀ v ∈ z.cells.toList, v.oneCell' = true) (hz : 0 < z.cells.size) (b off n c : Nat) (hn : 0 < n) (hs : a.eval s = .slice (some ⟨b, off, none⟩) n c)
    (hc : ∀ j, j < n * z.cells.size → (w.cell? ⟨b, off + j, none⟩).isSome = true) (hf : ∀ j, j < n * z.cells.size → w.frozen? ⟨b, off + j, none⟩ = false)
    (h : K (a.put o.dst (.tuple #[])) (w.setCells b off (Builtin.zeroCells z.cells n).toList)) : o.wp P a w K Q := by
  have hrun := run_clear_wide w t e o.type z ht hv h1 hz b off n c hn hc hf
  unfold Oper.wp execOp
  simp only [ho, resolve, invoke, builtin, Sem.run_bind, Sem.run_pure, Result.andThen_ok, List.map_toArray, List.map_cons, List.map_nil, hs, hrun]
  exact h
theorem wpList_clear {ops : Array Oper} {rest : List Oper} {o : Oper} {a : Act} {w : World} {Q : Exit → Act → World → Prop} (hgd : o.guard = none) (t e : TypeId) (s : Operand) (ho : o.op = .call { callee := .builtin .clear, args := #[s], argTypes := #[t] }) (z : Value) (ht : P.underlying t = some (.slice e)) (hv : ∀ w, (zeroValue e).run P w = .ok z w)
    (h1 : ∀ v ∈ z.cells.toList, v.oneCell' = true) (hz : 0 < z.cells.size) (b off n c : Nat) (hn : 0 < n) (hs : a.eval s = .slice (some ⟨b, off, none⟩) n c)
    (hc : ∀ j, j < n * z.cells.size → (w.cell? ⟨b, off + j, none⟩).isSome = true) (hf : ∀ j, j < n * z.cells.size → w.frozen? ⟨b, off + j, none⟩ = false)
    (h : wpList P ops Q rest (a.put o.dst (.tuple #[])) (w.setCells b off (Builtin.zeroCells z.cells n).toList)) : wpList P ops Q (o :: rest) a w :=
  wpList_plain hgd fun _ hK => wp_clear t e s ho z ht hv h1 hz b off n c hn hs hc hf (hK _ _ h)
end
/-! A cluster without a pod. -/
def isN (name : ByteArray) (p : Pd) : Bool := decide (p.name = name)
set_option maxHeartbeats 1000000 in
theorem drop1_calls (c : List Value) (x : Pd) (name : ByteArray) (nb : Nat) (w : World) (hk : ∃ h, Kd.pod.K h x c) (hn : w.cell? ⟨nb, 0, none⟩ = some (.string name)) (hlt : nb < w.heap.size) :
    Calls Tryz.prog 105 #[.agg c.toArray, .pointer (some ⟨nb, 0, none⟩)] w (BoolDone (isN name x) w) := by
  obtain ⟨h, B1, d1, B2, d2, B3, d3, B4, d4, rfl, -⟩ := hk
  have e1 := eq_beq x.name name
  have HX : Hid (isN name x = decide (x.name = name)) := rfl
  obtain ⟨m, hm⟩ : ∃ m, decide (x.name = name) = m := ⟨_, rfl⟩
  rw [hm] at e1
  have HM := Lib.hid hm
  clear hm
  go_enter Tryz.func105, Tryz.ntmps105
  go_wp2
  go_ret
  exact ⟨ret_bool (by rw [HX.out, HM.out]), alloc_below _ _⟩
def IdxDone (pd : Pd → Bool) (xs : List Pd) (w : World) (e : Ending) (w' : World) : Prop :=
  Below w.heap.size w w' ∧ (((∀ x ∈ xs, pd x = false) ∧ e = .returned (.int .i64 (-1))) ∨ ∃ i : Nat, ∃ h : i < xs.length, pd xs[i] = true ∧ (∀ x ∈ xs.take i, pd x = false) ∧ e = .returned (.int .i64 (i : Int)))
theorem take_none {xs : List Pd} {pd : Pd → Bool} {k : Nat} (hk : k < xs.length) (h : ∀ x ∈ xs.take k, pd x = false) (h2 : pd xs[k] = false) : ∀ x ∈ xs.take (k + 1), pd x = false := fun x hx => by
  rw [List.take_succ_eq_append_getElem hk, List.mem_append] at hx
  rcases hx with hx | hx
  · exact h x hx
  · obtain rfl : x = xs[k] := by simpa using hx
    exact h2
set_option maxHeartbeats 4000000 in
set_option maxRecDepth 100000 in
theorem index_calls (g cap nb : Nat) (name : ByteArray) (xs : List Pd) (css : List (List Value)) (h0 : View) (w : World) (hl : css.length = xs.length) (hk : ∀ (t : Nat) (ht : t < xs.length) (hc : t < css.length), Kd.pod.K h0 xs[t] css[t])
    (hr : Rw w g 11 css) (hn : w.cell? ⟨nb, 0, none⟩ = some (.string name)) (hnb : nb < w.heap.size) (hx : xs.length ≤ 1000) (hcap : xs.length ≤ cap) :
    Calls Tryz.prog 183 #[.slice (some ⟨g, 0, none⟩) xs.length cap, .func (.func 105) #[] #[.pointer (some ⟨nb, 0, none⟩)]] w (IdxDone (isN name) xs w) := by
  have HL := Lib.hid hl
  have HK := Lib.hid hk
  have HR := Lib.hid hr
  have HN := Lib.hid hn
  clear hl hk hr hn
  go_enter Tryz.func183, Tryz.ntmps183
  go_wp2
  go_loopw [8] (fun i wr => ∃ k : Nat, k ≤ xs.length ∧ i = .int .i64 k ∧ Hid (∀ x ∈ xs.take k, isN name x = false) ∧ Hid (Below w.heap.size w wr)) (fun i _ => xs.length - (intOf i).toNat)
  case atStart => exact ⟨0, Nat.zero_le _, rfl, fun x hx => by simp at hx, Below.refl _ _⟩
  case round =>
    obtain ⟨k, hk, rfl, HP, HB⟩ := hrel
    by_cases hlt : k < xs.length
    · have hlc : k < css.length := by have := HL.out; omega
      obtain ⟨c, hc⟩ : ∃ c, css[k]'hlc = c := ⟨_, rfl⟩
      have hkc := HK.out k hlt hlc
      rw [hc] at hkc
      have HKC := Lib.hid hkc
      have hcl := (HR.out.len c (hc ▸ List.getElem_mem hlc))
      have HC : Hid (wr.rangeAt g (k * 11) c) := (HR.out.below HB.out).at_ k c (by rw [List.getElem?_eq_getElem hlc, hc])
      have hnc : wr.cell? ⟨nb, 0, none⟩ = some (.string name) := keep_cell HB.out HN.out
      have HNC := Lib.hid hnc
      obtain ⟨m, hm⟩ : ∃ m, isN name xs[k] = m := ⟨_, rfl⟩
      have HM := Lib.hid hm
      have hsz := HB.out.size
      clear hc hkc hnc hm
      obtain ⟨B1, d1, B2, d2, B3, d3, B4, d4, rfl, -⟩ := id HKC.out
      clear hcl
      go_wp2_with (with_reducible refine wpList_load_mid rfl 35 _ rfl g (k * 11) rfl _ _ HC.out Tryz.underlying35 rfl (by kernel_rfl) ?_)
      refine (drop1_calls _ xs[k] name nb _ ⟨_, HKC.out⟩ HNC.out (by omega)).mono ?_
      rintro e w1 ⟨rfl, hb⟩
      rw [HM.out]
      replace HB := Lib.hid (Below.then HB.out hb)
      clear hb
      cases m with
      | true =>
        go_wp2
        go_ret
        exact ⟨HB.out, .inr ⟨k, hlt, HM.out, HP.out, rfl⟩⟩
      | false =>
        have HP2 := Lib.hid (take_none hlt HP.out HM.out)
        go_wp2
        go_roundw
        case rel => exact ⟨k + 1, by omega, by go_num, HP2.out, HB.out⟩
        case measure => simp [intOf]; omega
    · obtain rfl : k = xs.length := by omega
      have hp := HP.out
      rw [List.take_length] at hp
      have HP2 := Lib.hid hp
      clear hp
      go_wp2
      go_ret
      exact ⟨HB.out, .inl ⟨HP2.out, rfl⟩⟩
end Go.Proofs.YtnmhicgbdalniaaGreatDoor
namespace Go.Proofs.YtnmhicgbdalniaaGreatDoor
open Go.RowKit Go.Sort

theorem vw_cellM {w : World} {M : List Nat} {a : Addr} {v : Value} (hm : a.block ∉ M) (c : w.cell? a = some v) : (vw w M).cell? a = some v := by
  unfold View.cell? vw
  rw [if_neg hm]
  exact c
theorem Rw.S {α : Type} {d : Kd α} {w : World} {g cap : Nat} {css : List (List Value)} {ys : List α} {M : List Nat} (hgm : g ∉ M) (h : Rw w g d.sz css) (hm : ys.length ≤ css.length) (hk : ∀ (t : Nat) (ht : t < ys.length), d.K (vw w M) ys[t] (css[t]'(by omega))) (hc : ys.length ≤ cap) (hl : ys.length ≤ 140737488351232) :
    d.S (vw w M) (.slice (some ⟨g, 0, none⟩) ys.length cap) ys := by
  refine ⟨_, cap, rfl, hc, hl, fun e => (by cases e), fun _ => ⟨g, 0, rfl, fun j x hx => ?_⟩⟩
  have hj := (List.getElem?_eq_some_iff.1 hx).1
  obtain rfl : ys[j] = x := by rw [List.getElem?_eq_getElem hj] at hx; injection hx
  refine ⟨css[j]'(by omega), hk j hj, fun i u hu => ?_⟩
  rw [Nat.zero_add]
  exact vw_cellM hgm (h.at_ j _ (List.getElem?_eq_getElem (by omega)) i u hu)
/-- The cells behind a slice, one list for each element. -/
theorem Kd.S.lists {α : Type} {d : Kd α} {w : World} {A : Option Addr} {n cap : Nat} {xs : List α} {M : List Nat} (s : d.S (vw w M) (.slice A n cap) xs) :
    ∃ css : List (List Value), css.length = xs.length ∧ (∀ (t : Nat) (ht : t < xs.length) (hc : t < css.length), d.K (vw w M) xs[t] css[t]) ∧ (A = none → xs.length = 0) ∧ ∀ ad, A = some ad → ∀ j u, css.flatten[j]? = some u → w.cell? (ad.add j) = some u := by
  rcases Nat.eq_zero_or_pos xs.length with h0 | hp
  · exact ⟨[], by simp [h0], fun t ht => by omega, fun _ => h0, fun ad _ j u hu => by simp at hu⟩
  · obtain ⟨b, off, cs0, rfl, k0, -⟩ := s.elem 0 hp
    have key : ∀ i, i < xs.length → ∃ cs : List Value, (∀ h : i < xs.length, d.K (vw w M) xs[i] cs) ∧ ∀ j u, cs[j]? = some u → w.cell? ⟨b, off + i * d.sz + j, none⟩ = some u := fun i hi => by
      obtain ⟨b', off', cs, e, k, c⟩ := s.elem i hi
      injection e with e
      injection e with e1 e2
      subst e1 e2
      exact ⟨cs, fun _ => k, fun j u hu => cell_of_vw (c j u hu)⟩
    obtain ⟨Y, hY⟩ := Deep.choose_lt key
    have hlen : ∀ c ∈ (List.range xs.length).map Y, c.length = d.sz := fun c hc => by
      obtain ⟨i, hi, rfl⟩ := List.mem_map.1 hc
      have hi := List.mem_range.1 hi
      exact d.len ((hY i hi).1 hi)
    refine ⟨(List.range xs.length).map Y, by simp, fun t ht hc => (by simpa using (hY t ht).1 ht), fun e => (by cases e), fun ad e j u hu => ?_⟩
    cases e
    rcases Nat.eq_zero_or_pos d.sz with hz | hz
    · have : ((List.range xs.length).map Y).flatten.length = 0 := by rw [flatten_len _ hlen, hz]; simp
      have := (List.getElem?_eq_some_iff.1 hu).1
      omega
    · have hjl := (List.getElem?_eq_some_iff.1 hu).1
      rw [flatten_len _ hlen] at hjl
      have ht : j / d.sz < xs.length := by
        rw [List.length_map, List.length_range] at hjl
        exact Nat.div_lt_of_lt_mul (by rw [Nat.mul_comm]; exact hjl)
      have hmod := Nat.mod_lt j hz
      have hdm := Nat.div_add_mod j d.sz
      have h4 := flatten_get _ hlen (j / d.sz) (j % d.sz) (Y (j / d.sz)) (by rw [List.getElem?_map, List.getElem?_range ht]; rfl) hmod
      rw [Nat.mul_comm, hdm, hu] at h4
      have := (hY _ ht).2 (j % d.sz) u h4.symm
      rw [Kd.addr_add]
      rw [← this]
      congr 2
      rw [Nat.mul_comm (j / d.sz)]; omega
theorem Rw.of_own {w : World} {base : Nat} {e : TypeId} {z : Nat} {v : Value} {n : Nat} {css : List (List Value)} (h : w.ownsRow base e z v n css.flatten) (hl : css.length = n) (hlen : ∀ c ∈ css, c.length = z) (hn : 0 < n) :
    ∃ g cap, v = .slice (some ⟨g, 0, none⟩) n cap ∧ base ≤ g ∧ n ≤ cap ∧ cap ≤ maxLen ∧ Rw w g z css := by
  rcases h.2 with ⟨-, h0⟩ | ⟨g, cap, cur, rfl, hg, hh, hnc, hcm, hs, ht⟩
  · omega
  · refine ⟨g, cap, rfl, hg, hnc, hcm, blk_lt hh, hlen, fun t c hc j u hu => ?_, fun x => by simp [World.frozen?, hh]⟩
    have hj : j < z := by have := (List.getElem?_eq_some_iff.1 hu).1; rw [hlen c (List.mem_of_getElem? hc)] at this; exact this
    have htl := (List.getElem?_eq_some_iff.1 hc).1
    have h4 := flatten_get css hlen t j c hc hj
    rw [hu, ← ht, List.getElem?_take, if_pos (by
      have := Nat.mul_le_mul_right z (show t + 1 ≤ n by omega)
      rw [Nat.add_mul] at this; omega)] at h4
    rw [cell_of_row w g _ _ _ _ hh]
    simpa using h4
theorem info_pod : (Tryz.prog.info? 35).map (fun i => (i.zero, i.size, i.bytes)) = some (some (.agg #[.string ⟨#[]⟩, .string ⟨#[]⟩, .int .i64 0, .slice none 0 0, .slice none 0 0, .slice none 0 0, .slice none 0 0, .string ⟨#[]⟩, .int .i64 0, .string ⟨#[]⟩, .bool false]), 11, 184) := by kernel_rfl
theorem own_emptyN (w : World) (T : TypeId) (z : Nat) : (w.alloc (.cells #[] T)).ownsRow w.heap.size T z (.slice (some ⟨w.heap.size, 0, none⟩) 0 0) 0 [] :=
  ⟨by simp, .inr ⟨w.heap.size, 0, #[], rfl, Nat.le_refl _, blk_last _ _, Nat.le_refl _, by simp [maxLen], by simp, by simp⟩⟩
def CloneDone (M : List Nat) (l : List Pd) (w0 w : World) (e : Ending) (w' : World) : Prop := Below w.heap.size w w' ∧
  ((l = [] ∧ ∃ A c, (A = none → c = 0) ∧ e = .returned (.slice A 0 c)) ∨ ∃ g cap css, 0 < l.length ∧ e = .returned (.slice (some ⟨g, 0, none⟩) l.length cap) ∧ w.heap.size ≤ g ∧ l.length ≤ cap ∧ cap ≤ maxLen ∧ Rw w' g 11 css ∧ css.length = l.length ∧ ∀ (t : Nat) (ht : t < l.length) (hc : t < css.length), Kd.pod.K (vw w0 M) l[t] css[t])
theorem clone_none {M : List Nat} {w0 w w' : World} (h : Below w.heap.size w w') : CloneDone M [] w0 w (.returned (.slice none 0 0)) w' := ⟨h, .inl ⟨rfl, none, 0, fun _ => rfl, rfl⟩⟩
theorem Blk.of_own {w : World} {base : Nat} {e : TypeId} {z n cap g : Nat} {xs : List Value} (h : w.ownsRow base e z (.slice (some ⟨g, 0, none⟩) n cap) n xs) : Blk w g e (cap * z) := by
  rcases h.2 with ⟨e1, -⟩ | ⟨g', cap', cur, e1, -, hh, -, -, hs, -⟩
  · cases e1
  · injection e1 with a1 a2 a3
    injection a1 with a1
    injection a1 with a1
    subst a1 a3
    exact ⟨cur, hh, hs⟩
/-- A copy, in memory of the call's own. -/
def CloneNew (M : List Nat) (l : List Pd) (w0 w : World) (e : Ending) (w' : World) : Prop := Below w.heap.size w w' ∧
  ∃ v, ∃ css : List (List Value), e = .returned v ∧ css.length = l.length ∧ (∀ (t : Nat) (ht : t < l.length) (hc : t < css.length), Kd.pod.K (vw w0 M) l[t] css[t]) ∧ w'.ownsRow w.heap.size 35 11 v l.length css.flatten
theorem clonenew_none {M : List Nat} {w0 w w' : World} (h : Below w.heap.size w w') : CloneNew M [] w0 w (.returned (.slice none 0 0)) w' := ⟨h, _, [], rfl, rfl, fun t ht => by simp at ht, World.ownsRow_nil _ _ _ _⟩
set_option maxHeartbeats 4000000 in
set_option maxRecDepth 100000 in
theorem Clone_new (v : Value) (l : List Pd) (w0 w : World) (hb0 : Below w0.heap.size w0 w) {M : List Nat} (hs : Kd.pod.S (vw w0 M) v l) (hl : l.length ≤ 1000) :
    Calls Tryz.prog 104 #[v] w (CloneNew M l w0 w) := by
  obtain ⟨i0, hi, hz0, hz1, hz2⟩ := info_parts info_pod
  obtain ⟨A, cap, rfl, hs⟩ := hs.val
  obtain ⟨css, hcl, hck, hcn, hcc⟩ := hs.lists
  cases A with
  | none =>
    obtain ⟨rfl, rfl⟩ := hs.cap_none
    clear hcc hcn hck hcl hs
    have hn : (binOp .eql 23 (.slice none 0 0) (.slice none 0 0)).run Tryz.prog w = .ok (.bool true) w := Lib.run_eql_slice_nil w 23 35 none 0 0 0 0 Tryz.underlying23
    go_enter Tryz.func104, Tryz.ntmps104
    go_wp2
    go_ret
    exact clonenew_none (Below.refl _ _)
  | some ad =>
    have hlen : ∀ c ∈ css, c.length = 11 := fun c hc => by
      obtain ⟨t, ht, rfl⟩ := List.getElem_of_mem hc
      exact Kd.pod.len (hck t (by omega) ht)
    have hfl := flatten_len css hlen
    have HCC : Hid (∀ j u, css.flatten[j]? = some u → w.cell? (ad.add j) = some u) := fun j u hu => by
      refine (hb0.cell ?_).trans (hcc ad rfl j u hu)
      have := hcc ad rfl j u hu
      unfold World.cell? at this
      split at this
      · rename_i e; exact blk_lt e
      · cases this
    have HCK := Lib.hid hck
    have HCL := Lib.hid hcl
    have HLEN := Lib.hid hlen
    have hfl2 : css.flatten.length = l.length * 11 := by rw [hfl, hcl]
    have HFL := Lib.hid hfl2
    have HONE : Hid (∀ u ∈ css.flatten, u.oneCell' = true) := fun u hu => by
      obtain ⟨c, hc, hu⟩ := List.mem_flatten.1 hu
      obtain ⟨t, ht, rfl⟩ := List.getElem_of_mem hc
      obtain ⟨B1, d1, B2, d2, B3, d3, B4, d4, e, -⟩ := hck t (by omega) ht
      rw [e] at hu
      simp at hu
      rcases hu with rfl | rfl | rfl | rfl | rfl | rfl | rfl | rfl | rfl | rfl | rfl <;> rfl
    have NEWS : Hid (∀ ad2, some ad = some ad2 → ∀ j u, css.flatten[j]? = some u → (w.alloc (.cells #[] 35)).cell? (ad2.add j) = some u) := fun ad2 e j u hu => by
      cases e
      exact Lib.cell?_alloc_some _ (HCC.out j u hu)
    clear hcc hcn hck hcl hs hlen hfl hfl2
    have hn : (binOp .eql 23 (.slice (some ad) l.length cap) (.slice none 0 0)).run Tryz.prog w = .ok (.bool false) w := Lib.run_eql_slice_nil w 23 35 (some ad) l.length cap 0 0 Tryz.underlying23
    go_enter Tryz.func104, Tryz.ntmps104
    go_wp2_with (at_builtin; refine wpList_app _ w.heap.size 23 35 i0 _ 11 184 Tryz.underlying23 hi hz0 hz1 hz2 rfl (by decide) _ 0 [] (own_emptyN w 35 11) (some ad) l.length cap css.flatten HFL.out (fun e => by cases e) NEWS.out HONE.out (by simp only [maxLen]; omega) (by omega) (by simp) _ _ rfl rfl rfl rfl ?_)
    intro v1 w1 ho1 hg1 hv1
    have HB1 := Lib.hid ((alloc_below w (.cells #[] 35)).grown hg1 (by simp) (fun q hq => ((own_emptyN w 35 11).lt q hq).1))
    have HO1 := Lib.hid ho1
    clear ho1 hg1 hv1 hn
    go_wp2
    go_ret
    exact ⟨HB1.out, v1, css, rfl, HCL.out, HCK.out, by simpa using HO1.out⟩
theorem Clone_calls (v : Value) (l : List Pd) (w0 w : World) (hb0 : Below w0.heap.size w0 w) {M : List Nat} (hs : Kd.pod.S (vw w0 M) v l) (hl : l.length ≤ 1000) :
    Calls Tryz.prog 104 #[v] w (CloneDone M l w0 w) := by
  refine (Clone_new v l w0 w hb0 hs hl).mono ?_
  rintro e w1 ⟨hb, v1, css, rfl, hcl, hck, ho⟩
  refine ⟨hb, ?_⟩
  have hlen : ∀ c ∈ css, c.length = 11 := fun c hc => by
    obtain ⟨t, ht, rfl⟩ := List.getElem_of_mem hc
    exact Kd.pod.len (hck t (by omega) ht)
  rcases Nat.eq_zero_or_pos l.length with h0 | hp
  · left
    refine ⟨List.eq_nil_of_length_eq_zero h0, ?_⟩
    rcases ho.2 with ⟨e, -⟩ | ⟨g, cp, cur, e, -⟩
    · exact ⟨none, 0, fun _ => rfl, by rw [e]⟩
    · exact ⟨some ⟨g, 0, none⟩, cp, fun e => (by cases e), by rw [e, h0]⟩
  · right
    obtain ⟨g, cp, rfl, h1, h2, h3, h4⟩ := Rw.of_own ho hcl hlen hp
    exact ⟨g, cp, css, hp, rfl, h1, h2, h3, h4, hcl, hck⟩
end Go.Proofs.YtnmhicgbdalniaaGreatDoor
namespace Go.Proofs.YtnmhicgbdalniaaGreatDoor
open Go.RowKit

/-! The pods on a node: the program's side. -/
def onP (name : ByteArray) (p : Pd) : Bool := decide (p.node = name) && !emptyB name
theorem onV_eq (s : St) (name : ByteArray) : onV s name = s.pods.filter (onP name) := rfl
theorem on_snoc (name : ByteArray) {l : List Pd} {k : Nat} (h : k < l.length) : (l.take (k + 1)).filter (onP name) = (l.take k).filter (onP name) ++ (if onP name l[k] = true then [l[k]] else []) := by
  rw [List.take_succ_eq_append_getElem h, List.filter_append]
  congr 1
  cases hp : onP name l[k] <;> simp [hp]
theorem on_le (name : ByteArray) (l : List Pd) (k : Nat) : ((l.take k).filter (onP name)).length ≤ k := Nat.le_trans (List.length_filter_le _ _) (by rw [List.length_take]; omega)
theorem own_ge {α : Type} {d : Kd α} {w : World} {base : Nat} {e : TypeId} {lo : Nat} {v : Value} {xs : List α} (h : d.Own w base e lo v xs) : ∀ q, v.ownBlock = some q → base ≤ q := fun q hq => by
  obtain ⟨_, hrow⟩ := h.row
  exact (hrow.lt q hq).1
def PodsDone (r : List Pd) (w : World) (e : Ending) (w' : World) : Prop := ∃ A c, e = .returned (.slice A r.length c) ∧ Kd.pod.S (vw w' []) (.slice A r.length c) r ∧ Below w.heap.size w w'
def PodsNew (r : List Pd) (w : World) (e : Ending) (w' : World) : Prop := ∃ A c, e = .returned (.slice A r.length c) ∧ Kd.pod.S (vw w' []) (.slice A r.length c) r ∧ Below w.heap.size w w' ∧ ∀ ad, A = some ad → w.heap.size ≤ ad.block
set_option maxHeartbeats 8000000 in
set_option maxRecDepth 100000 in
theorem On_new (vs : Value) (s : St) (name : ByteArray) (w : World) (hs : Kd.state.V (vw w []) vs s) (hpn : s.pods.length ≤ 1000) :
    Calls Tryz.prog 43 #[vs, .string name] w (PodsNew (onV s name) w) := by
  obtain ⟨i0, hi, hz0, hz1, hz2⟩ := info_parts info_pod
  obtain ⟨cs, rfl, hks⟩ := hs
  obtain ⟨A1, c1, A2, c2, A3, c3, rfl, -, s2, -⟩ := hks
  obtain ⟨-, f2, f2'⟩ := s2.form
  have S2 := Lib.hid s2
  clear s2
  go_enter Tryz.func43, Tryz.ntmps43
  go_upto_region 1 with fail
  have hbw := alloc_below w (.cells #[.slice A1 s.nodes.length c1, .slice A2 s.pods.length c2, .slice A3 s.budgets.length c3] 26)
  have hk := blk_last w (.cells #[.slice A1 s.nodes.length c1, .slice A2 s.pods.length c2, .slice A3 s.budgets.length c3] 26)
  generalize w.alloc (.cells #[.slice A1 s.nodes.length c1, .slice A2 s.pods.length c2, .slice A3 s.budgets.length c3] 26) = W at hbw hk ⊢
  obtain ⟨z, zf⟩ := blk_all hk
  have HBW := Lib.hid hbw
  clear hbw hk
  go_wp2
  clear z zf
  have e2 := empty_beq name
  go_loopw [5, 11] (fun o i wr => ∃ k : Nat, k ≤ s.pods.length ∧ i = .int .i64 k ∧ Hid (Kd.pod.Own wr w.heap.size 35 0 o ((s.pods.take k).filter (onP name))) ∧ Hid (Below w.heap.size w wr)) (fun _ i _ => s.pods.length - (intOf i).toNat)
  case atStart => exact ⟨0, Nat.zero_le _, rfl, Kd.Own.nil _ _ _ _ _, HBW.out⟩
  case round =>
    obtain ⟨k, hk, rfl, HO, HB⟩ := hrel
    by_cases hlt : k < s.pods.length
    · have hsn := on_snoc name hlt
      have hle := on_le name s.pods k
      obtain ⟨b, off, cs, rfl, hn, hc⟩ := S2.out.both HB.out k hlt
      obtain ⟨x, hx⟩ : ∃ x, s.pods[k] = x := ⟨_, rfl⟩
      obtain ⟨out, hout⟩ : ∃ out, (s.pods.take k).filter (onP name) = out := ⟨_, rfl⟩
      rw [hx] at hn hsn
      rw [hout] at hsn hle HO
      have HKX := Lib.hid hn
      obtain ⟨B1, d1, B2, d2, B3, d3, B4, d4, rfl, -⟩ := hn
      have HC : Hid (wr.rangeAt b (off + k * 11) _) := hc
      have HSN := Lib.hid hsn
      have e1 : (x.node.toList == name.toList) = decide (x.node = name) := by
        by_cases h : x.node = name
        · rw [str_beq h, decide_eq_true h]
        · rw [str_nbeq h, decide_eq_false h]
      have hon : onP name x = (decide (x.node = name) && !decide (name = ⟨#[]⟩)) := rfl
      obtain ⟨a, ha⟩ : ∃ a, decide (x.node = name) = a := ⟨_, rfl⟩
      obtain ⟨d, hd⟩ : ∃ d, decide (name = ⟨#[]⟩) = d := ⟨_, rfl⟩
      rw [ha] at e1 hon
      rw [hd] at e2 hon
      have HON := Lib.hid hon
      clear hc hsn hx hout ha hd hon
      have HB2 : Hid (Below w.heap.size w (wr.alloc (.cells #[.string x.name, .string x.owner, .int .i64 x.prio, .slice B1 x.need.length d1, .slice B2 x.labels.length d2, .slice B3 x.sel.length d3, .slice B4 x.tols.length d4, .string x.key, .int .i64 x.most, .string x.node, .bool x.hold] 35))) := Below.then HB.out (alloc_below _ _)
      have HO2 := Lib.hid (HO.out.below (alloc_below wr (.cells #[.string x.name, .string x.owner, .int .i64 x.prio, .slice B1 x.need.length d1, .slice B2 x.labels.length d2, .slice B3 x.sel.length d3, .slice B4 x.tols.length d4, .string x.key, .int .i64 x.most, .string x.node, .bool x.hold] 35)))
      have hy := blk_last wr (.cells #[.string x.name, .string x.owner, .int .i64 x.prio, .slice B1 x.need.length d1, .slice B2 x.labels.length d2, .slice B3 x.sel.length d3, .slice B4 x.tols.length d4, .string x.key, .int .i64 x.most, .string x.node, .bool x.hold] 35)
      go_upto_region 5 with (with_reducible refine wpList_load_mid rfl 35 _ rfl b (off + k * 11) rfl _ _ HC.out Tryz.underlying35 rfl (by kernel_rfl) ?_)
      generalize wr.alloc (.cells #[.string x.name, .string x.owner, .int .i64 x.prio, .slice B1 x.need.length d1, .slice B2 x.labels.length d2, .slice B3 x.sel.length d3, .slice B4 x.tols.length d4, .string x.key, .int .i64 x.most, .string x.node, .bool x.hold] 35) = W1 at HB2 HO2 hy ⊢
      obtain ⟨y, yf⟩ := blk_all hy
      clear hy HO HB HC
      have hsz := HB2.out.size
      cases a with
      | false =>
        have hn : onP name x = false := by rw [HON.out]; rfl
        have HS : Hid ((s.pods.take (k + 1)).filter (onP name) = out) := by
          show _ = _
          rw [HSN.out, hn]; simp
        clear hn
        go_wp2
        go_roundw
        case rel => exact ⟨k + 1, by omega, by go_num, by rw [HS.out]; exact HO2.out, HB2.out⟩
        case measure => simp [intOf]; omega
      | true =>
        cases d with
        | true =>
          have hn : onP name x = false := by rw [HON.out]; rfl
          have HS : Hid ((s.pods.take (k + 1)).filter (onP name) = out) := by
            show _ = _
            rw [HSN.out, hn]; simp
          clear hn
          go_wp2
          go_roundw
          case rel => exact ⟨k + 1, by omega, by go_num, by rw [HS.out]; exact HO2.out, HB2.out⟩
          case measure => simp [intOf]; omega
        | false =>
          have hn : onP name x = true := by rw [HON.out]; rfl
          have HS : Hid ((s.pods.take (k + 1)).filter (onP name) = out ++ [x]) := by
            show _ = _
            rw [HSN.out, hn]; simp
          clear hn
          have HRO := Lib.hid (own_ge HO2.out)
          go_wp2_with (at_builtin; go_must (refine wpList_own (d := Kd.pod) (x := x) _ w.heap.size 0 23 35 i0 _ 184 Tryz.underlying23 hi hz0 hz1 hz2 rfl (by decide) _ out _ (HO2.out.below (alloc_below _ _)) (Kd.pod.mono (vw_own (Below.then HB2.out (alloc_below _ _)) HRO.out) HKX.out) _ 1 35 (blk_last _ _) (by simp [Value.oneCell']) (by simp only [maxLen]; omega) (by omega) (by simp; omega) _ _ rfl rfl rfl rfl ?_))
          intro v2 w2 ho2 hg2
          have HO3 := Lib.hid ho2
          have HB3 : Hid (Below w.heap.size w w2) := grown_then HB2.out (alloc_below _ _) hg2 HRO.out
          clear ho2 hg2 y yf
          go_wp2
          go_roundw
          case rel => exact ⟨k + 1, by omega, by go_num, by rw [HS.out]; exact HO3.out, HB3.out⟩
          case measure => simp [intOf]; omega
    · obtain rfl : k = s.pods.length := by omega
      have ho := HO.out
      rw [List.take_length] at ho
      have hl := on_le name s.pods s.pods.length
      rw [List.take_length] at hl
      have hge := own_ge ho
      obtain ⟨G, gc, rfl, hS⟩ := (ho.S (Nat.zero_le _) (by omega)).val
      have HS := Lib.hid (Kd.S.mono (nx_vw0 _) hS)
      have HGE : Hid (∀ ad, G = some ad → w.heap.size ≤ ad.block) := fun ad had => hge ad.block (by rw [had]; rfl)
      clear ho hS HO hge
      go_wp2
      go_ret
      exact ⟨G, gc, rfl, HS.out, HB.out, HGE.out⟩
theorem On_calls (vs : Value) (s : St) (name : ByteArray) (w : World) (hs : Kd.state.V (vw w []) vs s) (hpn : s.pods.length ≤ 1000) :
    Calls Tryz.prog 43 #[vs, .string name] w (PodsDone (onV s name) w) :=
  (On_new vs s name w hs hpn).mono fun _ _ ⟨A, c, h1, h2, h3, _⟩ => ⟨A, c, h1, h2, h3⟩
end Go.Proofs.YtnmhicgbdalniaaGreatDoor
namespace Go.Proofs.YtnmhicgbdalniaaGreatDoor
open Go.RowKit

/-! A region that draws its order, by one invariant: each operation is walked once, whatever came ahead of it. -/
def setL (L : Nat → Bool) (i : Nat) : Nat → Bool := fun j => if j = i then true else L j
theorem setL_same (L : Nat → Bool) (i : Nat) : setL L i i = true := if_pos rfl
theorem setL_ne {L : Nat → Bool} {i j : Nat} (h : j ≠ i) : setL L i j = L j := if_neg h
def depsOf (o : Oper) : List Nat := (o.after.toList.filter fun e => Region.binds .any e).map (·.on)
section
variable {P : Program} {ops : Array Oper} {Q : Exit → Act → World → Prop}
/-- What is asked of an operation. -/
def StepOk (P : Program) (ops : Array Oper) (Q : Exit → Act → World → Prop) (J : (Nat → Bool) → Act → World → Prop) (i : Nat) (o : Oper) : Prop :=
  ∀ (L : Nat → Bool) (a : Act) (w : World) (K : Act → World → Prop), J L a w → L i = false → (∀ k ∈ depsOf o, L k = true) → (∀ a' w', J (setL L i) a' w' → K a' w') →
    if Region.wanted o (yielded ops a.tmps) = true then o.wp P a w K Q else K (a.put o.dst undef) w
def StepsOk (P : Program) (ops : Array Oper) (Q : Exit → Act → World → Prop) (J : (Nat → Bool) → Act → World → Prop) : Nat → List Oper → Prop
  | _, [] => True
  | i, o :: r => StepOk P ops Q J i o ∧ StepsOk P ops Q J (i + 1) r
theorem StepsOk.get {J : (Nat → Bool) → Act → World → Prop} : ∀ (l : List Oper) (k : Nat), StepsOk P ops Q J k l → ∀ (i : Nat) (o : Oper), l[i]? = some o → StepOk P ops Q J (k + i) o
  | [], _, _, i, o, h => by simp at h
  | x :: r, k, hs, 0, o, h => by
    obtain rfl : x = o := by simpa using h
    exact hs.1
  | x :: r, k, hs, i + 1, o, h => by
    have := StepsOk.get r (k + 1) hs.2 i o (by simpa using h)
    rwa [show k + (i + 1) = k + 1 + i by omega]
def lexOk (ops : Array Oper) : Bool := (List.range ops.size).all fun i => ((ops[i]?).map fun o => o.after.all fun e => !Region.binds .any e || decide (e.on < i)).getD true
theorem lexOk_at (h : lexOk ops = true) {i : Nat} {o : Oper} (ho : ops[i]? = some o) : ∀ e ∈ o.after, Region.binds .any e = true → e.on < i := by
  intro e he hb
  have hi := (Array.getElem?_eq_some_iff.1 ho).1
  have := List.all_eq_true.1 h i (List.mem_range.2 hi)
  rw [ho] at this
  simp only [Option.map_some, Option.getD_some, Array.all_eq_true_iff_forall_mem] at this
  have := this e he
  simpa [hb] using this
theorem all_listed (hB : lexOk ops = true) {listed : Array Bool} (hs : listed.size = ops.size) (hr : Region.ready .any ops listed = []) : ∀ i, listed.getD i true = true := by
  intro i
  induction i using Nat.strongRecOn with
  | ind i ih =>
    rcases Nat.lt_or_ge i ops.size with hi | hi
    · cases hl : listed.getD i true with
      | true => rfl
      | false =>
        exfalso
        have hm : i ∈ Region.ready .any ops listed := by
          refine mem_ready.2 ⟨hl, ops[i], Array.getElem?_eq_getElem hi, fun e he hb => ?_⟩
          have hlt := lexOk_at hB (Array.getElem?_eq_getElem hi) e he hb
          have h1 := ih e.on hlt
          have h2 : e.on < listed.size := by omega
          simp only [Array.getD_eq_getD_getElem?, Array.getElem?_eq_getElem h2, Option.getD_some] at h1 ⊢
          exact h1
        rw [hr] at hm
        cases hm
    · have h2 : listed.size ≤ i := by omega
      simp [Array.getD_eq_getD_getElem?, Array.getElem?_eq_none h2]
theorem count_set : ∀ (l : List Bool) (i : Nat), l[i]? = some false → (l.set i true).count false + 1 = l.count false
  | [], i, h => by simp at h
  | b :: r, 0, h => by
    obtain rfl : b = false := by simpa using h
    simp
  | b :: r, i + 1, h => by
    have := count_set r i (by simpa using h)
    cases b <;> simp <;> omega
theorem wpAny_inv {J : (Nat → Bool) → Act → World → Prop} (hB : lexOk ops = true) (hst : StepsOk P ops Q J 0 ops.toList) (hend : ∀ L a w, J L a w → (∀ i, L i = true) → Q .normal a w) :
    ∀ (fuel : Nat) (listed : Array Bool) (a : Act) (w : World), listed.size = ops.size → listed.toList.count false ≤ fuel → J (fun i => listed.getD i true) a w → wpAny P .any ops Q fuel listed a w
  | 0, listed, a, w, hs, hc, hJ => by
    have hall : ∀ i, listed.getD i true = true := fun i => by
      rcases Nat.lt_or_ge i listed.size with h | h
      · cases hl : listed[i] with
        | true => simp [Array.getD_eq_getD_getElem?, Array.getElem?_eq_getElem h, hl]
        | false =>
          have : false ∈ listed.toList := by rw [← hl]; exact Array.mem_toList_iff.2 (Array.getElem_mem h)
          have := List.count_pos_iff.2 this
          omega
      · simp [Array.getD_eq_getD_getElem?, Array.getElem?_eq_none h]
    refine ⟨?_, hend _ a w hJ hall⟩
    cases hr : Region.ready .any ops listed with
    | nil => rfl
    | cons x r =>
      have := (mem_ready.1 (show x ∈ Region.ready .any ops listed by rw [hr]; exact List.mem_cons_self ..)).1
      rw [hall x] at this
      cases this
  | fuel + 1, listed, a, w, hs, hc, hJ => by
    refine ⟨fun hr => hend _ a w hJ (all_listed hB hs hr), fun i hi => ?_⟩
    obtain ⟨hl, o, ho, hd⟩ := mem_ready.1 hi
    have hlt : i < listed.size := by rw [hs]; exact (Array.getElem?_eq_some_iff.1 ho).1
    have hstep := StepsOk.get ops.toList 0 hst i o (by simpa using ho)
    rw [Nat.zero_add] at hstep
    have hlf : listed[i] = false := by simpa [Array.getD_eq_getD_getElem?, Array.getElem?_eq_getElem hlt] using hl
    have hset : (fun j => (listed.setIfInBounds i true).getD j true) = setL (fun j => listed.getD j true) i := funext fun j => by
      unfold setL
      by_cases e : j = i
      · subst e
        rw [if_pos rfl]
        simp [Array.getD_eq_getD_getElem?, hlt]
      · rw [if_neg e, getD_set_ne true (Ne.symm e)]
    have hcount : (listed.setIfInBounds i true).toList.count false ≤ fuel := by
      have := count_set listed.toList i (by simp [hlt, hlf])
      rw [Array.toList_setIfInBounds]
      omega
    unfold wpOp
    rw [ho]
    simp only
    have h := hstep (fun j => listed.getD j true) a w (wpAny P .any ops Q fuel (listed.setIfInBounds i true)) hJ hl (fun k hk => by
      unfold depsOf at hk
      obtain ⟨e, he, rfl⟩ := List.mem_map.1 hk
      obtain ⟨he, hb⟩ := List.mem_filter.1 he
      have h1 := hd e (by simpa using he) hb
      show listed.getD e.on true = true
      rcases Nat.lt_or_ge e.on listed.size with h | h
      · simpa [Array.getD_eq_getD_getElem?, Array.getElem?_eq_getElem h] using h1
      · simp [Array.getD_eq_getD_getElem?, Array.getElem?_eq_none h]) (fun a' w' hJ' => wpAny_inv hB hst hend fuel _ a' w' (by simpa using hs) hcount (by rw [hset]; exact hJ'))
    split
    · rename_i hw
      rw [if_pos hw] at h
      exact .inl h
    · rename_i hw
      rw [if_neg hw] at h
      exact h
theorem wp_region_inv (J : (Nat → Bool) → Act → World → Prop) {id : Nat} {a : Act} {w : World} (hm : P.follows .mixedOrders = true) (hB : lexOk ops = true) (h0 : ∀ L, (∀ i, i < ops.size → L i = false) → J L a w.drew) (hst : StepsOk P ops Q J 0 ops.toList)
    (hend : ∀ L a w, J L a w → (∀ i, L i = true) → Q .normal a w) : (Code.region id ops true).wp P Q a w :=
  wp_region_any hm (wpAny_inv hB hst hend _ _ _ _ (by simp) (by simp) (h0 _ (fun i hi => by simp [hi])))
/-- The slots that the region fills, in one list. -/
def putAll (a : Act) : List Nat → List Value → Act
  | t :: ts, v :: vs => putAll (a.put (some t) v) ts vs
  | _, _ => a
theorem put_self (a : Act) (t : Nat) : a.put (some t) (a.tmps.getD t undef) = a := by
  unfold Act.put
  simp only
  congr 1
  apply Array.ext
  · simp
  · intro i h1 h2
    rw [Array.getElem_setIfInBounds (by simpa using h1)]
    split
    · rename_i e
      subst e
      simp [Array.getD_eq_getD_getElem?, Array.getElem?_eq_getElem h2]
    · rfl
theorem putAll_self (a : Act) : ∀ ts : List Nat, ∃ vs, vs.length = ts.length ∧ putAll a ts vs = a
  | [] => ⟨[], rfl, rfl⟩
  | t :: ts => by
    obtain ⟨vs, h1, h2⟩ := putAll_self a ts
    exact ⟨a.tmps.getD t undef :: vs, by simp [h1], by show putAll (a.put _ _) ts vs = a; rw [put_self]; exact h2⟩
theorem wp_region_slots (ts : List Nat) (R : (Nat → Bool) → List Value → World → Prop) {id : Nat} {a : Act} {w : World} (hm : P.follows .mixedOrders = true) (hB : lexOk ops = true)
    (h0 : ∀ L vs, (∀ i, i < ops.size → L i = false) → vs.length = ts.length → R L vs w.drew) (hst : StepsOk P ops Q (fun L a' w' => ∃ vs, a' = putAll a ts vs ∧ R L vs w') 0 ops.toList)
    (hend : ∀ L vs w', R L vs w' → (∀ i, L i = true) → Q .normal (putAll a ts vs) w') : (Code.region id ops true).wp P Q a w := by
  obtain ⟨vs, h1, h2⟩ := putAll_self a ts
  exact wp_region_inv _ hm hB (fun L hL => ⟨vs, h2.symm, h0 L vs hL h1⟩) hst (fun L a' w' ⟨vs, e, h⟩ hL => by subst e; exact hend L vs w' h hL)
end
end Go.Proofs.YtnmhicgbdalniaaGreatDoor
namespace Go.Proofs.YtnmhicgbdalniaaGreatDoor
open Go.RowKit

/-! What some pods need in all: the program's side. -/
theorem take_ok (v : Value) (w : World) : Calls Tryz.prog 155 #[v, .int .i64 0] w fun e w' => e = .returned v ∧ w' = w := by
  go_enter Tryz.func155, Tryz.ntmps155
  go_wp2_with fail
  refine (stop_ok _).mono ?_
  rintro e w' ⟨rfl, rfl⟩
  go_wp2
  go_ret
  exact ⟨rfl, rfl⟩
theorem take_bad (v : Value) (n : Int) (w : World) (h : n ≠ 0) : Calls Tryz.prog 155 #[v, .int .i64 n] w fun e w' => e = .panicked [{ v := stopV n, recovered := false }] ∧ w' = w := by
  have H := Lib.hid h
  clear h
  go_enter Tryz.func155, Tryz.ntmps155
  go_wp2_with fail
  refine (stop_bad n _ H.out).mono ?_
  rintro e w' ⟨rfl, rfl⟩
  exact ⟨rfl, rfl, rfl⟩
theorem used1_calls (x : Pd) (B1 B2 B3 B4 : Option Addr) (d1 d2 d3 d4 : Nat) (w : World) :
    Calls Tryz.prog 209 #[.agg #[.string x.name, .string x.owner, .int .i64 x.prio, .slice B1 x.need.length d1, .slice B2 x.labels.length d2, .slice B3 x.sel.length d3, .slice B4 x.tols.length d4, .string x.key, .int .i64 x.most, .string x.node, .bool x.hold]] w
      fun e w' => e = .returned (.slice B1 x.need.length d1) ∧ Below w.heap.size w w' := by
  go_enter Tryz.func209, Tryz.ntmps209
  go_upto_region 1 with fail
  have hb := alloc_below w (.cells #[.string x.name, .string x.owner, .int .i64 x.prio, .slice B1 x.need.length d1, .slice B2 x.labels.length d2, .slice B3 x.sel.length d3, .slice B4 x.tols.length d4, .string x.key, .int .i64 x.most, .string x.node, .bool x.hold] 35)
  have hy := blk_last w (.cells #[.string x.name, .string x.owner, .int .i64 x.prio, .slice B1 x.need.length d1, .slice B2 x.labels.length d2, .slice B3 x.sel.length d3, .slice B4 x.tols.length d4, .string x.key, .int .i64 x.most, .string x.node, .bool x.hold] 35)
  generalize w.alloc (.cells #[.string x.name, .string x.owner, .int .i64 x.prio, .slice B1 x.need.length d1, .slice B2 x.labels.length d2, .slice B3 x.sel.length d3, .slice B4 x.tols.length d4, .string x.key, .int .i64 x.most, .string x.node, .bool x.hold] 35) = W at hb hy ⊢
  obtain ⟨y, yf⟩ := blk_all hy
  have HB := Lib.hid hb
  clear hb hy
  go_wp2
  go_ret
  exact ⟨rfl, HB.out⟩
theorem callFunc_used1 (args : Array Value) (w : World) : (callFunc 209 args).run Tryz.prog w = .ok (.enter 209 args) w := by
  simp [go_sem]
theorem sumV_at {α : Type} (f : α → List Amt) (l : List α) (v : List Amt) {k : Nat} (h : k < l.length) : sumV f (l.drop k) v = if (addVec v (f l[k])).2 ≠ 0 then ([], (addVec v (f l[k])).2) else sumV f (l.drop (k + 1)) (addVec v (f l[k])).1 := by
  rw [List.drop_eq_getElem_cons h]; rfl
end Go.Proofs.YtnmhicgbdalniaaGreatDoor
