import Derived.Test.YtnmhicgbdalniaaGreatDoorMs11
import Derived.Test.YtnmhicgbdalniaaGreatDoorMs24
import Derived.Test.YtnmhicgbdalniaaGreatDoorMs28
import Derived.Test.YtnmhicgbdalniaaGreatDoorMs29
import Derived.Test.YtnmhicgbdalniaaGreatDoorMs30
import Derived.Test.YtnmhicgbdalniaaGreatDoorMs31
import Derived.Test.YtnmhicgbdalniaaGreatDoorMs34
import Derived.Test.YtnmhicgbdalniaaGreatDoorMs36
namespace Go.Proofs.YtnmhicgbdalniaaGreatDoor
open Go.RowKit Go.Sort Go.Lib

/-! sched.Pending. -/
theorem pod_ones : ∀ h x cs, Kd.pod.K h x cs → ∀ v ∈ cs, v.oneCell' = true := by
  rintro h x cs ⟨B1, d1, B2, d2, B3, d3, B4, d4, rfl, -⟩ v hv
  simp at hv
  rcases hv with rfl | rfl | rfl | rfl | rfl | rfl | rfl | rfl | rfl | rfl | rfl <;> rfl
end Go.Proofs.YtnmhicgbdalniaaGreatDoor
namespace Go.Proofs.YtnmhicgbdalniaaGreatDoor
open Go.RowKit Go.Sort

/-! preempt.on. -/
theorem But.setCells {b : Nat} {w w' : World} (h : But b w w') (cs : List Value) (o : Nat) : But b w (w'.setCells b o cs) := by
  refine ⟨?_, ?_, ?_, by rw [setCells_size]; exact h.size, fun k hk hne => (setCells_far b cs o w' k hne).trans (h.block k hk hne)⟩
  · rw [← h.os]; exact (setCells_below (w := w') cs o (B := 0) (Nat.zero_le b)).os
  · rw [← h.tape]; exact (setCells_below (w := w') cs o (B := 0) (Nat.zero_le b)).tape
  · rw [← h.output]; exact (setCells_below (w := w') cs o (B := 0) (Nat.zero_le b)).output
end Go.Proofs.YtnmhicgbdalniaaGreatDoor
namespace Go.Proofs.YtnmhicgbdalniaaGreatDoor
open Go.RowKit Go.Sort

/-! state.Move. -/
theorem Rw.put {w : World} {g z : Nat} {css : List (List Value)} (h : Rw w g z css) {t j : Nat} {c : List Value} (ht : css[t]? = Option.some c) (hj : j < z) (v : Value) : Rw (w.setCell ⟨g, t * z + j, none⟩ v) g z (css.set t (c.set j v)) := by
  have htl := (List.getElem?_eq_some_iff.1 ht).1
  have hcl := h.len c (List.mem_of_getElem? ht)
  refine ⟨by rw [World.size_setCell]; exact h.lt, fun d hd => ?_, fun s d hd i u hu => ?_, fun x => by rw [World.frozen?_setCell]; exact h.free x⟩
  · rcases List.mem_or_eq_of_mem_set hd with k | rfl
    · exact h.len d k
    · rw [List.length_set]; exact hcl
  · have hput : ∀ o, (w.setCell ⟨g, t * z + j, none⟩ v).cell? ⟨g, o, none⟩ = if o = t * z + j then (w.cell? ⟨g, o, none⟩).map (fun _ => v) else w.cell? ⟨g, o, none⟩ := fun o => by
      have hs := h.at_ t c ht j (c[j]'(by omega)) (List.getElem?_eq_getElem _)
      unfold World.cell? World.setCell at *
      simp only [Array.getElem?_modify] at *
      split at hs
      · rename_i cc tt ff he
        rw [he]
        simp only [if_true, Option.map_some, Option.isSome_none, Bool.false_eq_true, if_false] at hs ⊢
        by_cases e : o = t * z + j
        · subst e
          rw [if_pos rfl]
          obtain ⟨h1, h2⟩ := Array.getElem?_eq_some_iff.1 hs
          simp [h1]
        · rw [if_neg e]
          simp [Ne.symm e]
      · cases hs
    rw [hput]
    rw [List.getElem?_set] at hd
    by_cases e : t = s
    · subst e
      rw [if_pos rfl, if_pos htl] at hd
      injection hd with hd
      subst hd
      rw [List.getElem?_set] at hu
      by_cases k : j = i
      · subst k
        rw [if_pos rfl, if_pos (by omega)] at hu
        rw [if_pos rfl, h.at_ t c ht j (c[j]'(by omega)) (List.getElem?_eq_getElem _)]
        exact hu
      · rw [if_neg k] at hu
        rw [if_neg (by omega)]
        exact h.at_ t c ht i u hu
    · rw [if_neg e] at hd
      have hi := (List.getElem?_eq_some_iff.1 hu).1
      have hl := h.len d (List.mem_of_getElem? hd)
      have := apart (s := s) (t := t) (z := z) (j := i) (Ne.symm e) (by omega)
      rw [if_neg (by omega)]
      exact h.at_ s d hd i u hu
def StDone (M : List Nat) (t : St) (w : World) (e : Ending) (w' : World) : Prop := ∃ cs : List Value, e = .returned (.agg cs.toArray) ∧ Kd.state.K (vw w' M) t cs ∧ Below w.heap.size w w'
end Go.Proofs.YtnmhicgbdalniaaGreatDoor
namespace Go.Proofs.YtnmhicgbdalniaaGreatDoor
open Go.RowKit Go.Sort

/-! preempt.For. -/
end Go.Proofs.YtnmhicgbdalniaaGreatDoor
namespace Go.Proofs.YtnmhicgbdalniaaGreatDoor
open Go.RowKit Go.Sort

/-! preempt.Next, preempt.Do. -/
end Go.Proofs.YtnmhicgbdalniaaGreatDoor
namespace Go.Proofs.YtnmhicgbdalniaaGreatDoor
open Go.RowKit Go.Sort

/-! preempt.Do. -/
end Go.Proofs.YtnmhicgbdalniaaGreatDoor
namespace Go.Proofs.YtnmhicgbdalniaaGreatDoor
open Go.RowKit Go.Sort

/-! A placeholder that a law makes. -/
def hnm (i : Nat) : ByteArray := tx ([104, 111, 108, 100] ++ Lib.decDigits i)
def pdH (i : Nat) (cpu : Int) (on : ByteArray) : Pd := { pdP (hnm i) cpu on with prio := -1, hold := true }
end Go.Proofs.YtnmhicgbdalniaaGreatDoor
namespace Go.Proofs.YtnmhicgbdalniaaGreatDoor
open Go.RowKit Go.Sort

/-! Small laws for what the laws' own functions make. -/
theorem Kd.S.cells {α : Type} {d : Kd α} {h : View} {b : Nat} {T : TypeId} {css : List (List Value)} {xs : List α} (hb : h b = some (.cells css.flatten.toArray T (0, 0))) (hl : css.length = xs.length)
    (hk : ∀ (j : Nat) (x : α), xs[j]? = some x → ∃ cs, css[j]? = some cs ∧ d.K h x cs) (hx : xs.length ≤ 140737488351232) : d.S h (.slice (some ⟨b, 0, none⟩) xs.length xs.length) xs := by
  have hlen : ∀ c ∈ css, c.length = d.sz := fun c hc => by
    obtain ⟨j, hj, rfl⟩ := List.getElem_of_mem hc
    obtain ⟨cs, a, b⟩ := hk j xs[j] (List.getElem?_eq_getElem (by omega))
    rw [List.getElem?_eq_getElem hj] at a
    injection a with a
    rw [a]; exact d.len b
  refine ⟨_, _, rfl, Nat.le_refl _, hx, fun e => (by cases e), fun _ => ⟨b, 0, rfl, fun j x hj => ?_⟩⟩
  obtain ⟨cs, a, k⟩ := hk j x hj
  refine ⟨cs, k, fun i u hu => ?_⟩
  have hi : i < d.sz := by have := (List.getElem?_eq_some_iff.1 hu).1; rw [d.len k] at this; exact this
  have h4 := flatten_get css hlen j i cs a hi
  rw [hu] at h4
  simp [View.cell?, hb]
  simpa using h4
theorem sok_small {l : List UInt8} (h : l.length ≤ 50) : sok (tx l) := by
  show (tx l).size ≤ _
  have : (tx l).size = l.length := rfl
  omega
theorem Names_same (va vb : Value) (a : List ByteArray) (w : World) (ha : Kd.str.S (vw w []) va a) (hb : Kd.str.S (vw w []) vb a) : Calls Tryz.prog 54 #[va, vb] w (BoolDone true w) :=
  (Names_calls va vb a a w ha hb).mono fun _ _ h => ⟨h.1.trans (by simp), h.2⟩
theorem list_of6 {α : Type} {l : List α} (h : l.length = 6) : ∃ x0 x1 x2 x3 x4 x5, l = [x0, x1, x2, x3, x4, x5] := by
  obtain _ | ⟨x0, l⟩ := l
  · simp at h
  obtain _ | ⟨x1, l⟩ := l
  · simp at h
  obtain _ | ⟨x2, l⟩ := l
  · simp at h
  obtain _ | ⟨x3, l⟩ := l
  · simp at h
  obtain _ | ⟨x4, l⟩ := l
  · simp at h
  obtain _ | ⟨x5, l⟩ := l
  · simp at h
  obtain rfl : l = [] := List.eq_nil_of_length_eq_zero (by simpa using h)
  exact ⟨x0, x1, x2, x3, x4, x5, rfl⟩
theorem list_of10 {α : Type} {l : List α} (h : l.length = 10) : ∃ x0 x1 x2 x3 x4 x5 x6 x7 x8 x9, l = [x0, x1, x2, x3, x4, x5, x6, x7, x8, x9] := by
  obtain _ | ⟨x0, l⟩ := l
  · simp at h
  obtain _ | ⟨x1, l⟩ := l
  · simp at h
  obtain _ | ⟨x2, l⟩ := l
  · simp at h
  obtain _ | ⟨x3, l⟩ := l
  · simp at h
  obtain _ | ⟨x4, l⟩ := l
  · simp at h
  obtain _ | ⟨x5, l⟩ := l
  · simp at h
  obtain _ | ⟨x6, l⟩ := l
  · simp at h
  obtain _ | ⟨x7, l⟩ := l
  · simp at h
  obtain _ | ⟨x8, l⟩ := l
  · simp at h
  obtain _ | ⟨x9, l⟩ := l
  · simp at h
  obtain rfl : l = [] := List.eq_nil_of_length_eq_zero (by simpa using h)
  exact ⟨x0, x1, x2, x3, x4, x5, x6, x7, x8, x9, rfl⟩
theorem list_of12 {α : Type} {l : List α} (h : l.length = 12) : ∃ x0 x1 x2 x3 x4 x5 x6 x7 x8 x9 x10 x11, l = [x0, x1, x2, x3, x4, x5, x6, x7, x8, x9, x10, x11] := by
  obtain _ | ⟨x0, l⟩ := l
  · simp at h
  obtain _ | ⟨x1, l⟩ := l
  · simp at h
  obtain _ | ⟨x2, l⟩ := l
  · simp at h
  obtain _ | ⟨x3, l⟩ := l
  · simp at h
  obtain _ | ⟨x4, l⟩ := l
  · simp at h
  obtain _ | ⟨x5, l⟩ := l
  · simp at h
  obtain _ | ⟨x6, l⟩ := l
  · simp at h
  obtain _ | ⟨x7, l⟩ := l
  · simp at h
  obtain _ | ⟨x8, l⟩ := l
  · simp at h
  obtain _ | ⟨x9, l⟩ := l
  · simp at h
  obtain _ | ⟨x10, l⟩ := l
  · simp at h
  obtain _ | ⟨x11, l⟩ := l
  · simp at h
  obtain rfl : l = [] := List.eq_nil_of_length_eq_zero (by simpa using h)
  exact ⟨x0, x1, x2, x3, x4, x5, x6, x7, x8, x9, x10, x11, rfl⟩
end Go.Proofs.YtnmhicgbdalniaaGreatDoor
