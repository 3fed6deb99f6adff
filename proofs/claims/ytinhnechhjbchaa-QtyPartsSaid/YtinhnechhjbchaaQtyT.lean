import Derived.Test.YtinhnechhjbchaaQtyS
namespace Go.Proofs.Ytinhnechhjbchaa
open Go.RowKit

theorem callFunc_sum1 (args : Array Value) (w : World) : (callFunc 28 args).run Try.prog w = .ok (.enter 28 args) w := by
  simp [go_sem]

theorem blk_last (w : World) (o : Obj) : (w.alloc o).heap[w.heap.size]? = some o := by rw [heap_alloc]; simp
theorem blk_old (w : World) (o : Obj) {k : Nat} (h : k < w.heap.size) : (w.alloc o).heap[k]? = w.heap[k]? := by
  rw [heap_alloc, Array.getElem?_push_lt h, Array.getElem?_eq_getElem h]
theorem ret_two {k j : IntKind} {a b c d : Int} (h : a = c) (h' : b = d) : Ending.returned (.tuple #[.int k a, .int j b]) = .returned (.tuple #[.int k c, .int j d]) := by rw [h, h']
theorem vw_grow {w w' : World} {M M' : List Nat} (h : Below w.heap.size w w') (hm : ∀ b, b ∈ M' → b ∈ M ∨ w.heap.size ≤ b) : (vw w M).le (vw w' M') := fun k o hk => by
  obtain ⟨h1, h2⟩ := vw_eq hk
  have h3 := blk_lt h2
  refine vw_mk (fun e => ?_) ((h.block k h3).trans h2)
  rcases hm k e with h4 | h4
  · exact h1 h4
  · omega
theorem But.below {b B : Nat} {w w' : World} (h : But b w w') (hb : B ≤ b) (hB : B ≤ w.heap.size) : Below B w w' :=
  ⟨h.os, h.tape, h.output, h.size, fun k hk => h.block k (by omega) (by omega)⟩
theorem sumGo_err : ∀ (l : List Int) (a : Int), (sumGo a l).2 ≠ 0 → (sumGo a l).1 = 0
  | [], a, h => absurd rfl h
  | x :: r, a, h => by
    unfold sumGo at *
    split
    · rename_i k; rw [if_pos k] at h; exact sumGo_err r _ h
    · rfl
theorem sumV_err (l : List Int) (h : (sumV l).2 ≠ 0) : (sumV l).1 = 0 := by
  unfold sumV at *
  split
  · rfl
  · rename_i k; rw [if_neg k] at h; exact sumGo_err l 0 h

theorem Sum_calls (sv : Value) (l : List Int) (w : World) (hs : (Kd.int .i64).S (vw w []) sv l) :
    Calls Try.prog 20 #[sv] w fun e w' => e = .returned (.tuple #[.int .i64 (sumV l).1, .int .i64 (sumV l).2]) ∧ Below w.heap.size w w' := by
  have hmf : ∀ (fn : Fn) (first cap : Array Value) (w : World), (Instr.makeFunc fn first cap).run Try.prog w = .ok (.func fn first cap) w := fun _ _ _ _ => rfl
  obtain ⟨A, cap, rfl, hcap, hlen, hcell⟩ := id hs
  clear hcell
  have HS := Lib.hid hs
  clear hs
  go_enter Try.func20, Try.ntmps20
  go_wp2_with fail
  have hB : Below w.heap.size w (((w.alloc (.cells #[.slice A l.length cap] 29)).alloc (.cells #[.int .i64 0] 2)).alloc (.cells #[.int .i64 0] 23)) :=
    (((Below.refl _ _).alloc (Nat.le_refl _) _).alloc (by simp) _).alloc (by simp; omega) _
  have HB := Lib.hid hB
  refine (try_calls _ _ _ (SumDone l (w.heap.size + 1) _) (callFunc_sum1 _) (sum1_calls _ w.heap.size (w.heap.size + 1) (.slice A l.length cap) l _ ?_ ?_ ?_ ?_ (HS.out.mono (vw_grow hB (by simp))))).mono ?_
  · rw [blk_old _ _ (by simp; omega), blk_old _ _ (by simp)]; exact blk_last _ _
  · rw [blk_old _ _ (by simp), show w.heap.size + 1 = (w.alloc (.cells #[.slice A l.length cap] 29)).heap.size by simp]; exact blk_last _ _
  · simp
  · simp
  clear hB
  rintro e w' ⟨n, w2, rfl, ⟨hn, hb2, s, hcell, hsum⟩, hb3⟩
  have hz := hb2.size
  simp at hz
  have hcell' := (hb3.block (w.heap.size + 1) (by omega) (by simp)).trans hcell
  have hc : w'.cell? ⟨w.heap.size + 1, 0, none⟩ = some (.int .i64 s) := by simp [World.cell?, hcell']
  have HF := Lib.hid (HB.out.trans ((hb2.below (by omega) (by simp; omega)).trans (hb3.below (by simp; omega) (by omega))))
  have HN := Lib.hid hn
  have HSUM := Lib.hid hsum
  clear hb2 hb3 hcell hcell' hn hsum
  by_cases he : n = 0
  · subst he
    go_wp2
    go_ret2
    have h1 := HSUM.out
    simp only [true_implies] at h1
    exact ⟨ret_two h1 HN.out, HF.out⟩
  · have hb : (n != 0) = true := by simpa using he
    have HE := Lib.hid he
    clear he
    go_wp2
    go_ret2
    exact ⟨ret_two (sumV_err l (by rw [← HN.out]; exact HE.out)).symm HN.out, HF.out⟩
end Go.Proofs.Ytinhnechhjbchaa
