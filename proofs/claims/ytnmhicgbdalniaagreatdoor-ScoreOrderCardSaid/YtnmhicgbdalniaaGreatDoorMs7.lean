import Derived.Test.YtnmhicgbdalniaaGreatDoorMs2
import Derived.Test.YtnmhicgbdalniaaGreatDoorMs6
namespace Go.Proofs.YtnmhicgbdalniaaGreatDoor
open Go.RowKit

/-! A struct that lies in a block of the call's own: written whole, handed back. -/
theorem setCells_far (b : Nat) : ∀ (cs : List Value) (o : Nat) (w : World) (k : Nat), k ≠ b → (w.setCells b o cs).heap[k]? = w.heap[k]?
  | [], _, _, _, _ => rfl
  | v :: r, o, w, k, h => by rw [World.setCells, setCells_far b r (o + 1) _ k h]; exact Below.heap_setCell w ⟨b, o, none⟩ v k h
theorem setCells_same (b : Nat) {T : TypeId} {fr : Nat × Nat} : ∀ (cs : List Value) (o : Nat) (w : World) (old : List Value), w.heap[b]? = some (.cells old.toArray T fr) → o + cs.length = old.length →
    (w.setCells b o cs).heap[b]? = some (.cells (old.take o ++ cs).toArray T fr)
  | [], o, w, old, h, hl => by
    rw [World.setCells, h, List.append_nil, List.take_of_length_le (by simp at hl; omega)]
  | v :: r, o, w, old, h, hl => by
    simp only [List.length_cons] at hl
    have h1 : (w.setCell ⟨b, o, none⟩ v).heap[b]? = some (.cells (old.set o v).toArray T fr) := by
      simp [World.setCell, Array.getElem?_modify, h]
    rw [World.setCells, setCells_same b r (o + 1) _ _ h1 (by rw [List.length_set]; omega)]
    congr 3
    rw [List.take_set, List.take_succ_eq_append_getElem (by omega), List.set_append_right _ _ (by simp; omega)]
    simp [List.length_take, show min o old.length = o by omega]
theorem setCells_size (b : Nat) : ∀ (cs : List Value) (o : Nat) (w : World), (w.setCells b o cs).heap.size = w.heap.size
  | [], _, _ => rfl
  | v :: r, o, w => by rw [World.setCells, setCells_size b r (o + 1)]; simp [World.setCell]
theorem setCells_all {w : World} {b : Nat} {T : TypeId} {fr : Nat × Nat} {old cs : List Value} (h : w.heap[b]? = some (.cells old.toArray T fr)) (hl : cs.length = old.length) : (w.setCells b 0 cs).heap[b]? = some (.cells cs.toArray T fr) := by
  have := setCells_same b cs 0 w old h (by omega)
  simpa using this
theorem Below.setCells {B : Nat} {w0 w : World} (h : Below B w0 w) {b : Nat} (hb : B ≤ b) : ∀ (cs : List Value) (o : Nat), Below B w0 (w.setCells b o cs) := by
  intro cs
  induction cs generalizing w with
  | nil => exact fun _ => h
  | cons v r ih => exact fun o => ih (h.setCell hb v) (o + 1)
theorem there_block {w : World} {b : Nat} {T : TypeId} {cs : List Value} (h : w.heap[b]? = some (.cells cs.toArray T (0, 0))) (n : Nat) (hn : n ≤ cs.length) : w.there b 0 n := fun j hj => by
  rw [Nat.zero_add]
  exact ⟨by rw [cell_of_row w b j _ _ _ h]; simp; omega, by simp [World.frozen?, h]⟩
theorem setCells_below {w : World} {b : Nat} (cs : List Value) (o : Nat) {B : Nat} (hb : B ≤ b) : Below B w (w.setCells b o cs) := Below.setCells (Below.refl _ _) hb cs o
section
variable {P : Program} {fn : Func} {R : Ending → World → Prop} {a : Act} {w : World} {p q r : Tmp} {ty T : TypeId} {g : Nat} {cs : List Value} {d : TypeDesc}
theorem ret_row1 (hr : fn.results = #[.cell p ty]) (hp : a.tmps.getD p undef = .pointer (some ⟨g, 0, none⟩)) (hg : w.heap[g]? = some (.cells cs.toArray T (0, 0))) (hu : P.underlying ty = some d) (hd : d.isRow = true)
    (hi : (P.info? ty).map (·.size) = some cs.length) (hdf : a.defers = []) (hR : R (.returned (.agg cs.toArray)) w) : bodyPost P fn R .ret a w := by
  refine bodyPost_ret (v := .agg cs.toArray) ?_ hdf hR
  have h1 := run_loadVar_mid w g 0 ty cs d (range_block hg) hu hd hi
  have hp' : a.tmps[p]?.getD undef = .pointer (some ⟨g, 0, none⟩) := by simpa using hp
  simp [results, hr, hp', asAddr, h1]
theorem ret_row2 (hr : fn.results = #[.cell p ty, .tmp q]) (hp : a.tmps.getD p undef = .pointer (some ⟨g, 0, none⟩)) (hg : w.heap[g]? = some (.cells cs.toArray T (0, 0))) (hu : P.underlying ty = some d) (hd : d.isRow = true)
    (hi : (P.info? ty).map (·.size) = some cs.length) (hdf : a.defers = []) (hR : R (.returned (.tuple #[.agg cs.toArray, a.tmps.getD q undef])) w) : bodyPost P fn R .ret a w := by
  refine bodyPost_ret (v := .tuple #[.agg cs.toArray, a.tmps.getD q undef]) ?_ hdf hR
  have h1 := run_loadVar_mid w g 0 ty cs d (range_block hg) hu hd hi
  have hp' : a.tmps[p]?.getD undef = .pointer (some ⟨g, 0, none⟩) := by simpa using hp
  simp [results, hr, hp', asAddr, h1]
end
end Go.Proofs.YtnmhicgbdalniaaGreatDoor
