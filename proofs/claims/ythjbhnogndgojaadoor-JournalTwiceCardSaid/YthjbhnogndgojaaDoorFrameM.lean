import Derived.Test.YthjbhnogndgojaaDoorFrameK
import Derived.Laws.IdiomStrings
namespace Go.Proofs.YthjbhnogndgojaaDoor
open Go.RowKit

/-- The front of a block, as a slice of one-cell elements. -/
theorem Kd.S.of_front {α : Type} {f : α → Value} {p : α → Prop} {w : World} {M : List Nat} {b cap : Nat} {T : TypeId} {fz : Nat × Nat} {cs : Array Value} {xs : List α} (h : w.heap[b]? = some (.cells cs T fz)) (hm : b ∉ M) (hl : xs.length ≤ 140737488351232) (hc : xs.length ≤ cap) (hp : ∀ x ∈ xs, p x)
    (hx : ∀ (j : Nat) (x : α), xs[j]? = some x → cs[j]? = some (f x)) :
    (Kd.scalar f p).S (vw w M) (.slice (some ⟨b, 0, none⟩) xs.length cap) xs := by
  refine ⟨_, _, rfl, hc, hl, fun e => (by cases e), fun _ => ⟨b, 0, rfl, fun j x hj => ⟨[f x], ⟨rfl, hp x (List.mem_of_getElem? hj)⟩, fun i u hu => ?_⟩⟩⟩
  obtain ⟨rfl, rfl⟩ : i = 0 ∧ u = f x := by
    cases i with
    | zero => exact ⟨rfl, by simpa using hu.symm⟩
    | succ i => simp at hu
  have := hx j x hj
  simp [View.cell?, vw_mk hm h, Kd.scalar, this]

/-- A text's bytes, laid anew. -/
theorem bytes_laid (w : World) (s : ByteArray) (h : s.size ≤ 100000) : ∃ cap o,
    (convert 9 22 (.string s)).run Tryd.prog w = .ok (.slice (some ⟨w.heap.size, 0, none⟩) s.size cap) (w.drew.alloc o) ∧
    Kd.u8.S (vw (w.drew.alloc o) []) (.slice (some ⟨w.heap.size, 0, none⟩) s.size cap) s.data.toList := by
  have hl : s.data.toList.length = s.size := by rw [Array.length_toList]; rfl
  refine ⟨_, _, run_bytes_of_string w 9 22 5 s Tryd.underlying9 Tryd.underlying22 Tryd.underlying5, ?_⟩
  have := Kd.S.of_front (f := fun c : UInt8 => .int .u8 (c.toNat : Int)) (p := fun _ => True) (w := w.drew.alloc (.cells (bytesRow s (grownCap w s.size 0 5)) 5 ((bytesRow s (grownCap w s.size 0 5)).size, (bytesRow s (grownCap w s.size 0 5)).size + 1))) (M := []) (cap := grownCap w s.size 0 5) (xs := s.data.toList) (blk_last w.drew _) (by simp) (by omega) (by rw [hl]; exact grownCap_ge _ _ _ _) (fun _ _ => trivial) (fun j x hj => by
    have hj2 : s.data[j]? = some x := by simpa using hj
    have hlt : j < s.data.size := (Array.getElem?_eq_some_iff.1 hj2).1
    unfold bytesRow
    rw [Array.getElem?_append_left (by simpa using hlt)]
    simp [hj2])
  rw [hl] at this
  exact this
end Go.Proofs.YthjbhnogndgojaaDoor
