import Derived.Test.YtfbmfjmnpfidoaaRep
import Derived.Deep.MidRow
namespace Go.Proofs.Ytfbmfjmnpfidoaa
open Go.RowKit Go.ChangeShapes Go.WideShapes
/-! Structs: what their cells hold, field by field. -/
namespace Kd
variable {α β : Type}
def unit : Kd Unit where
  sz := 0
  K := fun _ _ cs => cs = []
  len := fun h => by rw [h]; rfl
  mono := fun _ h => h
def cons (d : Kd α) (e : Kd β) : Kd (α × β) where
  sz := d.sz + e.sz
  K := fun h x cs => ∃ a b, cs = a ++ b ∧ d.K h x.1 a ∧ e.K h x.2 b
  len := by rintro h x cs ⟨a, b, rfl, h1, h2⟩; rw [List.length_append, d.len h1, e.len h2]
  mono := by rintro h k x cs hk ⟨a, b, e1, h1, h2⟩; exact ⟨a, b, e1, d.mono hk h1, e.mono hk h2⟩
structure OpensFs (d : Kd α) (P : Program) (fs : List Field) (at_ : Nat) : Prop where
  out : ∀ {H : Type} {enc : TypeId × Value → H} {w : World} {base : Nat} {sp : Nat → Bool} {held : Bool} {n : Nat} {cs : List Value} {xs : List (DataW H × List MemPlace)},
    cs.length = at_ + d.sz → (∀ (i : Nat) (f : Field), fs[i]? = some f → DataW.trod enc P w base sp held n f.type ((cs.drop f.offset).take (P.cellsOf f.type)) = xs[i]?) → xs.length = fs.length →
    (∀ m ∈ DataW.weightsEach P (fs.map Field.type) (xs.map (·.1)), m ≤ reachBytes) → ∃ a, d.K (vw w []) a (cs.drop at_)
theorem opensFs_nil {P : Program} {at_ : Nat} : unit.OpensFs P [] at_ := ⟨fun {_ _ _ _ _ _ _ cs _} h _ _ _ => ⟨(), List.drop_eq_nil_of_le (by rw [h]; exact Nat.le_refl _)⟩⟩
theorem opensFs_cons {P : Program} {d : Kd α} {e : Kd β} {f : Field} {fs : List Field} {at_ : Nat} (ho : f.offset = at_) (hd : d.Opens P f.type) (he : e.OpensFs P fs (at_ + d.sz)) : (cons d e).OpensFs P (f :: fs) at_ := by
  refine ⟨fun {H enc w base sp held n cs xs} hl hf hx hw => ?_⟩
  cases xs with
  | nil => cases hx
  | cons y ys =>
    have h0 := hf 0 f rfl
    simp only [List.getElem?_cons_zero] at h0
    rw [ho, hd.1] at h0
    obtain ⟨a, ha⟩ := hd.2 h0 (fun m hm => hw m (by
      simp only [List.map_cons, DataW.weightsEach]
      exact List.mem_append_left _ hm))
    obtain ⟨b, hb⟩ := he.out (cs := cs) (xs := ys) (by simp only [cons] at hl; omega) (fun i g hg => by
      have := hf (i + 1) g (by simpa using hg)
      simpa using this) (by simpa using hx) (fun m hm => hw m (by
      simp only [List.map_cons, DataW.weightsEach]
      exact List.mem_append_right _ hm))
    refine ⟨(a, b), _, _, ?_, ha, hb⟩
    rw [← List.drop_drop, List.take_append_drop]
theorem opens_struct {P : Program} {d : Kd α} {t : TypeId} {fs : Array Field} (hs : P.cellsOf t = d.sz) (h : P.underlying t = some (.struct fs)) (ho : d.OpensFs P fs.toList 0) : d.Opens P t := by
  refine ⟨hs, fun {H enc w base sp held fuel cs x} hx hw => ?_⟩
  obtain ⟨xs, n, _, rfl, hl, hlen, hf⟩ := DataW.trod_struct h hx
  have := ho.out (cs := cs) (xs := xs) (n := n) (by omega) (fun i f hi => hf i f (by simpa using hi)) (by simpa using hlen) (fun m hm => hw m (by simpa only [DataW.weights, h] using hm))
  simpa using this
theorem Opens.conv {P : Program} {d : Kd α} {e : Kd β} {t : TypeId} (h : d.Opens P t) (hz : d.sz = e.sz) (hk : ∀ k a cs, d.K k a cs → ∃ b, e.K k b cs) : e.Opens P t :=
  ⟨h.1.trans hz, fun hx hw => by obtain ⟨a, ha⟩ := h.2 hx hw; exact hk _ _ _ ha⟩
end Kd
/-- The cells of an element, or of a struct, lie at an address of a world. -/
theorem range_of_view {w : World} {M : List Nat} {b o : Nat} {cs : List Value} (h : ∀ i u, cs[i]? = some u → (vw w M).cell? ⟨b, o + i, none⟩ = some u) : w.rangeAt b o cs := fun j v hv => cell_of_vw (h j v hv)
theorem range_block {w : World} {b : Nat} {cs : List Value} {t : TypeId} {fr : Nat × Nat} (h : w.heap[b]? = some (.cells cs.toArray t fr)) : w.rangeAt b 0 cs := fun j v hv => by
  rw [Nat.zero_add, cell_of_row w b j _ _ _ h]; simpa using hv
theorem range_cells {w : World} {b : Nat} {cs : List Value} {t : TypeId} {fr : Nat × Nat} (h : w.heap[b]? = some (.cells cs.toArray t fr)) : ∀ j v, cs[j]? = some v → w.cell? ⟨b, j, none⟩ = some v := fun j v hv => by
  rw [cell_of_row w b j _ _ _ h]; simpa using hv
namespace Kd
variable {α : Type}
/-- Cells without memory behind them, n of them. -/
def flat (n : Nat) (f : α → List Value) (p : α → Prop) (hn : ∀ x, (f x).length = n) : Kd α where
  sz := n
  K := fun _ x cs => cs = f x ∧ p x
  len := fun h => by rw [h.1]; exact hn _
  mono := fun _ h => h
theorem S.elemN {n : Nat} {f : α → List Value} {p : α → Prop} {hn : ∀ x, (f x).length = n} {w : World} {M : List Nat} {A : Option Addr} {m cap : Nat} {xs : List α} (s : (flat n f p hn).S (vw w M) (.slice A m cap) xs) (j : Nat) (hj : j < xs.length) :
    ∃ b off, A = some ⟨b, off, none⟩ ∧ w.rangeAt b (off + j * n) (f xs[j]) ∧ p xs[j] := by
  obtain ⟨b, off, cs, e, h1, h2⟩ := s.elem j hj
  obtain ⟨rfl, hp⟩ := h1
  exact ⟨b, off, e, range_of_view h2, hp⟩
end Kd
end Go.Proofs.Ytfbmfjmnpfidoaa
