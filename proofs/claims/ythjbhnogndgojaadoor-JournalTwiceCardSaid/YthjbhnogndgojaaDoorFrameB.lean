import Derived.Test.YthjbhnogndgojaaDoorFrameA
import Derived.Test.YthjbhnogndgojaaDoorDecimal
import Derived.Laws.IdiomStrings
namespace Go.Proofs.YthjbhnogndgojaaDoor
open Go.RowKit

/-- What becomes of Next's closure: n is the error; the cells hold the text, and where the record ends. -/
def NextDone (b : List UInt8) (tb eb : Nat) (W : World) (n : Int) (w2 : World) : Prop :=
  n = (nextV b).2.2 ∧ w2.heap[tb]? = some (.cells #[.string (bs (nextV b).1)] 9 (0, 0)) ∧ w2.heap[eb]? = some (.cells #[.int .i64 (nextV b).2.1] 3 (0, 0)) ∧
    w2.os = W.os ∧ w2.tape = W.tape ∧ w2.output = W.output ∧ W.heap.size ≤ w2.heap.size ∧ ∀ k, k < W.heap.size → k ≠ tb → k ≠ eb → w2.heap[k]? = W.heap[k]?

set_option maxHeartbeats 1000000 in
set_option maxRecDepth 100000 in
theorem next1_calls (rb bb tb eb : Nat) (v : Value) (b : List UInt8) (w : World) (h1 : w.heap[bb]? = some (.cells #[v] 22 (0, 0))) (h2 : w.heap[tb]? = some (.cells #[.string ⟨#[]⟩] 9 (0, 0))) (h3 : w.heap[eb]? = some (.cells #[.int .i64 0] 3 (0, 0)))
    (n1 : rb ≠ tb) (n2 : rb ≠ eb) (n3 : tb ≠ eb) (hrb : rb < w.heap.size) (hs : Kd.u8.S (vw w []) v b) :
    Calls Tryd.prog 39 #[.pointer (some ⟨bb, 0, none⟩), .pointer (some ⟨tb, 0, none⟩), .pointer (some ⟨eb, 0, none⟩)] w (Tries rb w (NextDone b tb eb w)) := by
  have hc1 : w.cell? ⟨bb, 0, none⟩ = some v := by simp [World.cell?, h1]
  have hc2 : w.cell? ⟨tb, 0, none⟩ = some (.string ⟨#[]⟩) := by simp [World.cell?, h2]
  have hc3 : w.cell? ⟨eb, 0, none⟩ = some (.int .i64 0) := by simp [World.cell?, h3]
  have hf2 : w.frozen? ⟨tb, 0, none⟩ = false := by simp [World.frozen?, h2]
  have hf3 : w.frozen? ⟨eb, 0, none⟩ = false := by simp [World.frozen?, h3]
  obtain ⟨A, cap, rfl, hcap, hlen, hnil, hcell⟩ := id hs
  clear hcell hnil
  have HS := Lib.hid hs
  have H1 := Lib.hid h1
  have H2 := Lib.hid h2
  have H3 := Lib.hid h3
  clear hs h1 h2 h3
  go_enter Tryd.func39, Tryd.ntmps39
  go_wp2_with fail
  refine (size_calls _ b _ HS.out).mono ?_
  rintro e w' ⟨rfl, ⟨hz, rfl⟩ | ⟨hz, rfl⟩⟩
  · obtain ⟨q, n, a, hq⟩ : ∃ q n a, scan 0 0 b = (q, n, a) := ⟨_, _, _, rfl⟩
    have hat := scan_at b 0 0 hz
    rw [hq] at hz hat
    simp only at hz hat
    subst hz
    have hn : n ≤ 4096 := hat.2.2 (by omega)
    have ha : 0 < a := by omega
    have ha2 : a ≤ b.length := by omega
    clear hat
    have HQ := Lib.hid hq
    rw [hq]
    clear hq
    simp only
    by_cases c1 : b.length ≤ a + n
    · have HN : Hid (nextV b = ([], 0, 7)) := by
        show nextV b = _
        unfold nextV; rw [HQ.out]; simp [c1]
      go_wp2_with (go_at_call 41; refine (stop_bad _ _ (by omega)).mono ?_; rintro e w' ⟨rfl, rfl⟩)
      exact ⟨rfl, rfl, .inr ⟨7, by omega, rfl, by rw [HN.out], by rw [HN.out]; exact H2.out, by rw [HN.out]; exact H3.out, rfl, rfl, rfl, Nat.le_refl _, fun _ _ _ _ => rfl⟩⟩
    · obtain ⟨g, off, rfl, hc, _⟩ := HS.out.elem1 (a + n) (by omega)
      by_cases c2 : b[a + n].toNat = 59
      · have HN : Hid (nextV b = ((b.drop a).take n, a + n + 1, 0)) := by
          show nextV b = _
          unfold nextV; rw [HQ.out]; simp [c1, List.getElem?_eq_getElem (show a + n < b.length by omega), c2]
        have hcv : (convert 22 9 (.slice (some ⟨g, off + a, none⟩) n (cap - a))).run Tryd.prog w = .ok (.string (bs ((b.drop a).take n))) w := by
          have hl : ((b.drop a).take n).length = n := by rw [List.length_take, List.length_drop]; omega
          have := run_convert_bytes_back (P := Tryd.prog) w 22 9 5 ⟨g, off + a, none⟩ (cap - a) ((b.drop a).take n) Tryd.underlying22 Tryd.underlying5 Tryd.underlying9 (fun j hj => by
            rw [hl] at hj
            obtain ⟨g', off', e', hcj, _⟩ := HS.out.elem1 (a + j) (by omega)
            injection e' with e'
            injection e' with e1 e2
            subst e1 e2
            rw [List.getElem_take, List.getElem_drop, ← hcj]
            congr 1
            unfold Addr.add
            split
            · rename_i h0; rw [h0, Nat.add_zero]
            · rw [Nat.add_assoc])
          rwa [hl] at this
        go_wp2
        go_end0
        refine ⟨?_, .inl ⟨_, rfl, by rw [HN.out], ?_, ?_, rfl, rfl, rfl, by simp, fun k hk k1 k2 => ?_⟩⟩
        · rw [Below.heap_setCell _ ⟨eb, 0, none⟩ _ _ n2, Below.heap_setCell _ ⟨tb, 0, none⟩ _ _ n1]
        · rw [HN.out, Below.heap_setCell _ ⟨eb, 0, none⟩ _ _ n3]
          exact heap_setCell_same H2.out
        · rw [HN.out]
          exact heap_setCell_same ((Below.heap_setCell _ ⟨tb, 0, none⟩ _ _ (Ne.symm n3)).trans H3.out)
        · rw [Below.heap_setCell _ ⟨eb, 0, none⟩ _ _ k2, Below.heap_setCell _ ⟨tb, 0, none⟩ _ _ k1]
      · have HN : Hid (nextV b = ([], 0, 2)) := by
          show nextV b = _
          unfold nextV; rw [HQ.out]; simp [c1, List.getElem?_eq_getElem (show a + n < b.length by omega), c2]
        have t1 : (((b[a + n].toNat : Nat) : Int) != 59) = true := by rw [bne_iff_ne]; omega
        go_wp2_with (go_at_call 41; refine (stop_bad _ _ (by omega)).mono ?_; rintro e w' ⟨rfl, rfl⟩)
        exact ⟨rfl, rfl, .inr ⟨2, by omega, rfl, by rw [HN.out], by rw [HN.out]; exact H2.out, by rw [HN.out]; exact H3.out, rfl, rfl, rfl, Nat.le_refl _, fun _ _ _ _ => rfl⟩⟩
  · have HN : Hid (nextV b = ([], 0, (scan 0 0 b).1)) := by
      show nextV b = _
      unfold nextV; rw [if_pos hz]
    exact ⟨rfl, rfl, .inr ⟨_, hz, rfl, by rw [HN.out], by rw [HN.out]; exact H2.out, by rw [HN.out]; exact H3.out, rfl, rfl, rfl, Nat.le_refl _, fun _ _ _ _ => rfl⟩⟩
end Go.Proofs.YthjbhnogndgojaaDoor
