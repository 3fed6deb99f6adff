import Derived.Test.YtnmhicgbdalniaaGreatDoorProg
import Derived.WalkKit
import Derived.KernelRfl
import Derived.Lib.Hide
import Derived.Recover
import Derived.Laws.Pointers
import Derived.WalkLawsBesides
namespace Go.Proofs.YtnmhicgbdalniaaGreatDoor
open Go.RowKit

/-- The value with which qty.Stop breaks off. -/
def stopV (n : Int) : Value := .iface 255 (.agg #[.int .i64 n])

theorem assert_stop (n : Int) (w : World) :
    (Instr.typeAssert (.iface 255 (.agg #[.int .i64 n])) 20 255 true).run Tryz.prog w = .ok (.tuple #[.agg #[.int .i64 n], .bool true]) w := by
  kernel_rfl

theorem lt_of_block {w : World} {b : Nat} {o : Obj} (h : w.heap[b]? = some o) : b < w.heap.size := by
  rcases Nat.lt_or_ge b w.heap.size with k | k
  · exact k
  · simp [Array.getElem?_eq_none k] at h

theorem try1_panic (b : Nat) (n y : Int) (older : List PanicEntry) (w : World) (hb : w.heap[b]? = some (.cells #[.int .i64 y] 71 (0, 0))) :
    CallsD Tryz.prog 172 #[.pointer (some ⟨b, 0, none⟩)] (.panicking ({ v := stopV n, recovered := false } :: older)) w fun e u' w' =>
      e = .returned (.tuple #[]) ∧ u' = .panicking ({ v := stopV n, recovered := true } :: older) ∧ w' = (w.setCell ⟨b, 0, none⟩ (.int .i64 n)).alloc (.cells #[.int .i64 n] 255 (0, 0)) := by
  have hlt := lt_of_block hb
  have hcell : w.cell? ⟨b, 0, none⟩ = some (.int .i64 y) := by simp [World.cell?, hb]
  have hfree : w.frozen? ⟨b, 0, none⟩ = false := by simp [World.frozen?, hb]
  have hta := assert_stop n
  clear hb
  refine callsD_of_wpS Tryz.func172 rfl fun c₀ cs hu => ?_
  apply wpS_seq
  apply wpS_region
  simp [wpOpsS, go_sem, recoverD, hu, Tryz.ntmps172, Exit.thenS, stopV]
  clear hu
  refine wpS_of_wp ?_
  generalize hQ : (fun e a' w' => bodyPostS _ _ _ _ _ e a' _ w') = Q
  have HQ := Lib.hid hQ
  clear hQ
  simp only [Array.replicate_succ, Array.replicate_zero, List.push_toArray, List.append_toArray, List.nil_append, List.cons_append, List.setIfInBounds_toArray, List.set]
  go_wp2
  rw [← HQ.out]
  exact ⟨rfl, _, rfl, .tuple #[], results_none rfl _ _ _, rfl, rfl, rfl⟩

theorem try1_idle (a : Value) (w : World) :
    CallsD Tryz.prog 172 #[a] .returning w fun e u' w' => e = .returned (.tuple #[]) ∧ u' = .returning ∧ w' = w := by
  refine callsD_of_wpS Tryz.func172 rfl fun c₀ cs hu => ?_
  apply wpS_seq
  apply wpS_region
  simp [wpOpsS, go_sem, recoverD, hu, Tryz.ntmps172, Exit.thenS]
  refine wpS_of_wp ?_
  generalize hQ : (fun e a' w' => bodyPostS _ _ _ _ _ e a' _ w') = Q
  have HQ := Lib.hid hQ
  have HU := Lib.hid hu
  clear hQ hu
  go_wp2
  rw [← HQ.out]
  refine ⟨rfl, .returning, ?_, .tuple #[], results_none rfl _ _ _, rfl, rfl, rfl⟩
  have := HU.out
  cases c₀
  simp_all

/-- w' is w2 but for block b; what is new lies behind. -/
structure But (b : Nat) (w w' : World) : Prop where
  os : w'.os = w.os
  tape : w'.tape = w.tape
  output : w'.output = w.output
  size : w.heap.size ≤ w'.heap.size
  block : ∀ k, k < w.heap.size → k ≠ b → w'.heap[k]? = w.heap[k]?

/-- What a function handed to Try comes to: it returns (n = 0), or breaks off with n. The result's cell at b stays what it is. -/
def Tries (b : Nat) (w1 : World) (R : Int → World → Prop) (e : Ending) (w2 : World) : Prop :=
  w2.heap[b]? = w1.heap[b]? ∧ ((∃ v, e = .returned v ∧ R 0 w2) ∨ (∃ n, n ≠ 0 ∧ e = .panicked [{ v := stopV n, recovered := false }] ∧ R n w2))

theorem heap_setCell_same {w : World} {b : Nat} {x y : Value} {t : TypeId} (h : w.heap[b]? = some (.cells #[x] t (0, 0))) : (w.setCell ⟨b, 0, none⟩ y).heap[b]? = some (.cells #[y] t (0, 0)) := by
  simp [World.setCell, Array.getElem?_modify, h]

theorem heap_alloc (w : World) (o : Obj) : (w.alloc o).heap = w.heap.push o := rfl
theorem But.refl (b : Nat) (w : World) : But b w w := ⟨rfl, rfl, rfl, Nat.le_refl _, fun _ _ _ => rfl⟩
theorem But.setCell {b : Nat} {w w' : World} (h : But b w w') (y : Value) : But b w (w'.setCell ⟨b, 0, none⟩ y) :=
  ⟨h.os, h.tape, h.output, by simpa [World.setCell] using h.size, fun k hk hne => by rw [Below.heap_setCell w' ⟨b, 0, none⟩ y k hne]; exact h.block k hk hne⟩
theorem But.alloc {b : Nat} {w w' : World} (h : But b w w') (o : Obj) : But b w (w'.alloc o) :=
  ⟨h.os, h.tape, h.output, by have := h.size; rw [heap_alloc, Array.size_push]; omega, fun k hk hne => by
    have := h.size
    rw [← h.block k hk hne]
    rw [heap_alloc, Array.getElem?_push_lt (by omega), Array.getElem?_eq_getElem (by omega)]⟩

theorem try_calls (F : FuncId) (caps : Array Value) (w : World) (R : Int → World → Prop)
    (hF : ∀ w, (callFunc F caps).run Tryz.prog w = .ok (.enter F caps) w)
    (h : Calls Tryz.prog F caps (w.alloc (.cells #[.int .i64 0] 71)) (Tries w.heap.size (w.alloc (.cells #[.int .i64 0] 71)) R)) :
    Calls Tryz.prog 94 #[.func (.func F) #[] caps] w fun e w' => ∃ n w2, e = .returned (.int .i64 n) ∧ R n w2 ∧ But w.heap.size w2 w' := by
  have hmf : ∀ (fn : Fn) (first cap : Array Value) (w : World), (Instr.makeFunc fn first cap).run Tryz.prog w = .ok (.func fn first cap) w := fun _ _ _ _ => rfl
  have H := Lib.hid h
  clear h
  go_enter_defers Tryz.func94, Tryz.ntmps94
  go_wp2_with fail
  refine H.out.mono ?_
  rintro e w2 ⟨hb, h⟩
  have hb : w2.heap[w.heap.size]? = some (.cells #[.int .i64 0] 71 (0, 0)) := by rw [hb, heap_alloc]; simp
  have hc : w2.cell? ⟨w.heap.size, 0, none⟩ = some (.int .i64 0) := by simp [World.cell?, hb]
  have hf : w2.frozen? ⟨w.heap.size, 0, none⟩ = false := by simp [World.frozen?, hb]
  have HB := Lib.hid hb
  clear hb
  rcases h with ⟨v, rfl, hr⟩ | ⟨n, hn, rfl, hr⟩
  · have HR := Lib.hid hr
    clear hr
    simp only
    go_wp2
    refine leaves_cons (f := 172) (args := #[.pointer (some ⟨w.heap.size, 0, none⟩)]) (by simp) (by simp [go_sem]) ?_
    refine (try1_idle _ _).mono ?_
    rintro e u' w'' ⟨rfl, rfl, rfl⟩
    refine ⟨.int .i64 0, ?_, 0, w2, rfl, HR.out, (But.refl _ _).setCell _⟩
    simp [results, Tryz.results94, go_sem, hc]
  · have HR := Lib.hid hr
    clear hr
    refine leaves_cons (f := 172) (args := #[.pointer (some ⟨w.heap.size, 0, none⟩)]) (by simp) (by simp [go_sem]) ?_
    refine (try1_panic _ n 0 [] _ HB.out).mono ?_
    rintro e u' w'' ⟨rfl, rfl, rfl⟩
    have h1 := heap_setCell_same (y := .int .i64 n) HB.out
    have h2 := lt_of_block HB.out
    refine ⟨.int .i64 n, ?_, n, w2, rfl, HR.out, ((But.refl _ _).setCell _).alloc _⟩
    simp [results, Tryz.results94, go_sem, hc, h2]
end Go.Proofs.YtnmhicgbdalniaaGreatDoor
