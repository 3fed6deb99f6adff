import Derived.WalkKit
import Derived.KernelRfl
import Derived.Lib.Hide
import Derived.Below
import Derived.Deep.Draws
import Derived.Deep.Slices
import Derived.ProofKit
namespace Go.Proofs.Ytinhnechhjbchaa
open Go.RowKit Go.ChangeShapes Go.WideShapes

/-! What memory may be looked at, and what values mean there. -/
abbrev View := Nat → Option Obj
def View.le (h k : View) : Prop := ∀ b o, h b = some o → k b = some o
def View.cell? (h : View) (a : Addr) : Option Value :=
  match h a.block with
  | some (.cells c _ _) => if a.spot.isSome then none else c[a.off]?
  | _ => none
/-- All blocks of a world but those of a list. -/
def vw (w : World) (M : List Nat) : View := fun b => if b ∈ M then none else w.heap[b]?

theorem View.le_refl (h : View) : h.le h := fun _ _ x => x
theorem View.le_trans {h k l : View} (a : h.le k) (b : k.le l) : h.le l := fun i o x => b i o (a i o x)
theorem View.cell_mono {h k : View} (hk : h.le k) {a : Addr} {v : Value} (c : h.cell? a = some v) : k.cell? a = some v := by
  unfold View.cell? at *
  cases e : h a.block with
  | none => rw [e] at c; cases c
  | some o => rw [hk _ _ e]; rw [e] at c; exact c
theorem cell_of_vw {w : World} {M : List Nat} {a : Addr} {v : Value} (c : (vw w M).cell? a = some v) : w.cell? a = some v := by
  unfold View.cell? vw at c
  unfold World.cell?
  split at c <;> rename_i h
  · split at h
    · cases h
    · rw [h]; exact c
  · cases c
theorem vw_eq {w : World} {M : List Nat} {b : Nat} {o : Obj} (h : vw w M b = some o) : b ∉ M ∧ w.heap[b]? = some o := by
  unfold vw at h
  split at h
  · cases h
  · exact ⟨by assumption, h⟩
theorem vw_mk {w : World} {M : List Nat} {b : Nat} {o : Obj} (h : b ∉ M) (k : w.heap[b]? = some o) : vw w M b = some o := by
  unfold vw; rw [if_neg h]; exact k
theorem blk_lt {w : World} {b : Nat} {o : Obj} (h : w.heap[b]? = some o) : b < w.heap.size := by
  rcases Nat.lt_or_ge b w.heap.size with k | k
  · exact k
  · simp [Array.getElem?_eq_none k] at h
theorem vw_below {w w' : World} {M : List Nat} (h : Below w.heap.size w w') : (vw w M).le (vw w' M) := fun b o hb => by
  obtain ⟨h1, h2⟩ := vw_eq hb
  exact vw_mk h1 ((h.block b (blk_lt h2)).trans h2)
theorem vw_sub {w : World} {M M' : List Nat} (h : ∀ b, b ∈ M' → b ∈ M) : (vw w M).le (vw w M') := fun b o hb => by
  obtain ⟨h1, h2⟩ := vw_eq hb
  exact vw_mk (fun k => h1 (h b k)) h2
theorem vw_setCell {w : World} {M : List Nat} {a : Addr} (h : a.block ∈ M) (v : Value) : (vw w M).le (vw (w.setCell a v) M) := fun b o hb => by
  obtain ⟨h1, h2⟩ := vw_eq hb
  refine vw_mk h1 ?_
  rw [Below.heap_setCell w a v b (fun e => h1 (e ▸ h))]; exact h2
theorem vw_alloc {w : World} {M : List Nat} (o : Obj) : (vw w M).le (vw (w.alloc o) M) := fun b x hb => by
  obtain ⟨h1, h2⟩ := vw_eq hb
  refine vw_mk h1 ?_
  show (w.heap.push o)[b]? = _
  rw [Array.getElem?_push_lt (blk_lt h2), ← h2, Array.getElem?_eq_getElem (blk_lt h2)]
theorem vw_drewN {w : World} {M : List Nat} (n : Nat) : (vw w M).le (vw (w.drewN n) M) := fun _ _ hb => hb

/-- What the cells of a value of some kind hold. -/
structure Kd (α : Type) where
  sz : Nat
  K : View → α → List Value → Prop
  len : ∀ {h x cs}, K h x cs → cs.length = sz
  mono : ∀ {h k : View} {x cs}, h.le k → K h x cs → K k x cs
namespace Kd
variable {α : Type}
/-- A value reads as a list. -/
def S (d : Kd α) (h : View) (v : Value) (xs : List α) : Prop :=
  ∃ A cap, v = .slice A xs.length cap ∧ xs.length ≤ cap ∧ xs.length ≤ 9223372036854775807 ∧
    (0 < xs.length → ∃ b off, A = some ⟨b, off, none⟩ ∧ ∀ j x, xs[j]? = some x → ∃ cs, d.K h x cs ∧ ∀ i u, cs[i]? = some u → h.cell? ⟨b, off + j * d.sz + i, none⟩ = some u)
theorem S.mono {d : Kd α} {h k : View} {v : Value} {xs : List α} (hk : h.le k) (s : d.S h v xs) : d.S k v xs := by
  obtain ⟨A, cap, e, h1, h2, h3⟩ := s
  refine ⟨A, cap, e, h1, h2, fun hl => ?_⟩
  obtain ⟨b, off, e, hc⟩ := h3 hl
  refine ⟨b, off, e, fun j x hx => ?_⟩
  obtain ⟨cs, c1, c2⟩ := hc j x hx
  exact ⟨cs, d.mono hk c1, fun i u hu => View.cell_mono hk (c2 i u hu)⟩
theorem S.nil (d : Kd α) (h : View) : d.S h (.slice none 0 0) [] := ⟨none, 0, rfl, Nat.le_refl _, by simp, fun h => by simp at h⟩
theorem S.form {d : Kd α} {h : View} {A : Option Addr} {n cap : Nat} {xs : List α} (s : d.S h (.slice A n cap) xs) : n = xs.length ∧ xs.length ≤ cap ∧ xs.length ≤ 9223372036854775807 := by
  obtain ⟨A', cap', e, h1, h2, _⟩ := s
  injection e with e1 e2 e3
  subst e2 e3
  exact ⟨rfl, h1, h2⟩
theorem S.elem {d : Kd α} {h : View} {A : Option Addr} {n cap : Nat} {xs : List α} (s : d.S h (.slice A n cap) xs) (j : Nat) (hj : j < xs.length) :
    ∃ b off cs, A = some ⟨b, off, none⟩ ∧ d.K h xs[j] cs ∧ ∀ i u, cs[i]? = some u → h.cell? ⟨b, off + j * d.sz + i, none⟩ = some u := by
  obtain ⟨A', cap', e, h1, h2, h3⟩ := s
  injection e with e1 e2 e3
  subst e1
  obtain ⟨b, off, e, hc⟩ := h3 (by omega)
  obtain ⟨cs, c1, c2⟩ := hc j xs[j] (List.getElem?_eq_getElem hj)
  exact ⟨b, off, cs, e, c1, c2⟩
def scalar (f : α → Value) (p : α → Prop) : Kd α where
  sz := 1
  K := fun _ x cs => cs = [f x] ∧ p x
  len := fun h => by rw [h.1]; rfl
  mono := fun _ h => h
def int (k : IntKind) : Kd Int := scalar (Value.int k) (fun n => (Lit.int k n).wf = true)
def str : Kd ByteArray := scalar Value.string (fun s => s.size ≤ maxLen)
def bool : Kd Bool := scalar Value.bool (fun _ => True)
/-- One cell an element. -/
theorem S.elem1 {f : α → Value} {p : α → Prop} {w : World} {M : List Nat} {A : Option Addr} {n cap : Nat} {xs : List α} (s : (scalar f p).S (vw w M) (.slice A n cap) xs) (j : Nat) (hj : j < xs.length) :
    ∃ b off, A = some ⟨b, off, none⟩ ∧ w.cell? ⟨b, off + j, none⟩ = some (f xs[j]) ∧ p xs[j] := by
  obtain ⟨b, off, cs, e, h1, h2⟩ := s.elem j hj
  refine ⟨b, off, e, cell_of_vw (M := M) ?_, h1.2⟩
  have := h2 0 (f xs[j]) (by rw [h1.1]; rfl)
  simpa [scalar] using this
/-- A block of one-cell elements. -/
theorem S.of_block {f : α → Value} {p : α → Prop} {w : World} {M : List Nat} {b : Nat} {T : TypeId} {fz : Nat × Nat} {xs : List α} (h : w.heap[b]? = some (.cells (xs.map f).toArray T fz)) (hm : b ∉ M) (hl : xs.length ≤ 9223372036854775807) (hp : ∀ x ∈ xs, p x) :
    (scalar f p).S (vw w M) (.slice (some ⟨b, 0, none⟩) xs.length xs.length) xs := by
  refine ⟨_, _, rfl, Nat.le_refl _, hl, fun _ => ⟨b, 0, rfl, fun j x hx => ⟨[f x], ⟨rfl, hp x (List.mem_of_getElem? hx)⟩, fun i u hu => ?_⟩⟩⟩
  obtain ⟨rfl, rfl⟩ : i = 0 ∧ u = f x := by
    cases i with
    | zero => exact ⟨rfl, by simpa using hu.symm⟩
    | succ i => simp at hu
  simp [View.cell?, vw_mk hm h, scalar, List.getElem?_map, hx]
def slice (d : Kd α) : Kd (List α) where
  sz := 1
  K := fun h xs cs => ∃ v, cs = [v] ∧ d.S h v xs
  len := by rintro h x cs ⟨v, rfl, _⟩; rfl
  mono := by rintro h k x cs hk ⟨v, rfl, s⟩; exact ⟨v, rfl, s.mono hk⟩
/-- What reads as data of type t reads as one of this kind. -/
def Opens (d : Kd α) (P : Program) (t : TypeId) : Prop :=
  P.cellsOf t = d.sz ∧ ∀ {H : Type} {enc : TypeId × Value → H} {w : World} {base : Nat} {sp : Nat → Bool} {held : Bool} {fuel : Nat} {cs : List Value} {x : DataW H × List MemPlace},
    DataW.trod enc P w base sp held fuel t cs = some x → ∃ a, d.K (vw w []) a cs
theorem opens_int {P : Program} {t : TypeId} {k : IntKind} (hs : P.cellsOf t = 1) (h : P.underlying t = some (.int k)) : (int k).Opens P t := by
  refine ⟨hs, fun {H enc w base sp held fuel cs x} hx => ?_⟩
  obtain ⟨n, e, rfl, hw⟩ := DataW.trod_int h hx
  exact ⟨n, e, hw⟩
theorem opens_str {P : Program} {t : TypeId} (hs : P.cellsOf t = 1) (h : P.underlying t = some .string) : str.Opens P t := by
  refine ⟨hs, fun {H enc w base sp held fuel cs x} hx => ?_⟩
  obtain ⟨n, e, _, hw⟩ := DataW.trod_string h hx
  exact ⟨n, e, hw⟩
theorem opens_bool {P : Program} {t : TypeId} (hs : P.cellsOf t = 1) (h : P.underlying t = some .bool) : bool.Opens P t := by
  refine ⟨hs, fun {H enc w base sp held fuel cs x} hx => ?_⟩
  obtain ⟨n, e, _⟩ := DataW.trod_bool h hx
  exact ⟨n, e, trivial⟩
theorem cells_get {w : World} {base : Nat} {a : Addr} {n : Nat} {cs : List Value} (h : w.cells? base a n = some cs) : ∀ (i : Nat) (u : Value), cs[i]? = some u → w.cell? (a.add i) = some u := by
  intro i u hu
  obtain ⟨_, hl, hc⟩ := World.cells?_some h
  have hi := (List.getElem?_eq_some_iff.1 hu).1
  rw [hc i (by omega), hu]
theorem vw_cell {w : World} {a : Addr} {v : Value} (h : w.cell? a = some v) : (vw w []).cell? a = some v := by
  unfold World.cell? at h
  unfold View.cell?
  split at h
  · rename_i e
    rw [vw_mk (M := []) (by simp) e]; exact h
  · cases h
theorem spot_of_cell {w : World} {a : Addr} {v : Value} (h : w.cell? a = some v) : a.spot = none := by
  unfold World.cell? at h
  split at h
  · cases e : a.spot with
    | none => rfl
    | some x => simp [e] at h
  · cases h
theorem opens_slice {P : Program} {d : Kd α} {t e : TypeId} (hs : P.cellsOf t = 1) (h : P.underlying t = some (.slice e)) (h0 : 0 < d.sz) (hd : d.Opens P e) : (slice d).Opens P t := by
  refine ⟨hs, fun {H enc w base sp held fuel cs x} hx => ?_⟩
  rcases Deep.open_slice h hx with ⟨rfl, _⟩ | ⟨a, len, cap, m, n, D, Pl, rfl, hb, hl, hm, hmm, _, hel⟩
  · exact ⟨[], _, rfl, S.nil d _⟩
  · have hlm : len ≤ m := by rw [hmm]; split <;> omega
    have hmax : maxLen = 9223372036854775807 := rfl
    have key : ∀ i, i < len → ∃ y : α × List Value, d.K (vw w []) y.1 y.2 ∧ ∀ j u, y.2[j]? = some u → w.cell? (a.add (i * d.sz + j)) = some u := by
      intro i hi
      obtain ⟨cs', h1, h2⟩ := hel i (by omega)
      obtain ⟨y, hy⟩ := hd.2 h2
      refine ⟨(y, cs'), hy, fun j u hu => ?_⟩
      have := cells_get h1 j u hu
      rwa [hd.1, Deep.add_add] at this
    rcases Nat.eq_zero_or_pos len with rfl | hpos
    · exact ⟨[], .slice (some a) 0 cap, rfl, some a, cap, rfl, Nat.zero_le _, by simp, fun h => by simp at h⟩
    · obtain ⟨y0, k0, c0⟩ := key 0 hpos
      have : Inhabited (α × List Value) := ⟨y0⟩
      obtain ⟨Y, hY⟩ := Deep.choose_lt key
      have hlen := d.len (hY 0 hpos).1
      have hsp : a.spot = none := by
        have h1 := (hY 0 hpos).2 0 ((Y 0).2[0]'(by omega)) (List.getElem?_eq_getElem _)
        have h2 := spot_of_cell h1
        unfold Addr.add at h2
        simpa using h2
      obtain ⟨b, off, spot⟩ := a
      simp only at hsp
      subst hsp
      refine ⟨(List.range len).map fun i => (Y i).1, .slice (some ⟨b, off, none⟩) len cap, rfl, some ⟨b, off, none⟩, cap, by simp, by simpa using hl, by simp; omega, fun _ => ⟨b, off, rfl, fun j x hx => ?_⟩⟩
      have hj : j < len := by
        have := (List.getElem?_eq_some_iff.1 hx).1
        simpa using this
      rw [List.getElem?_map, List.getElem?_range hj] at hx
      simp only [Option.map_some, Option.some.injEq] at hx
      subst hx
      refine ⟨(Y j).2, (hY j hj).1, fun i u hu => vw_cell ?_⟩
      have := (hY j hj).2 i u hu
      have e : Addr.add ⟨b, off, none⟩ (j * d.sz + i) = ⟨b, off + j * d.sz + i, none⟩ := by
        unfold Addr.add
        split
        · rename_i h; rw [show off + j * d.sz + i = off by omega]
        · rw [Nat.add_assoc]
      rwa [e] at this
theorem open_slice_arg {P : Program} {d : Kd α} {t : TypeId} (ho : (slice d).Opens P t) {A : Option Addr} {n c : Nat} {H : Type} {enc : TypeId × Value → H} {w : World} {base : Nat} {sp : Nat → Bool} {held : Bool} {fuel : Nat} {x : DataW H × List MemPlace}
    (h : DataW.trod enc P w base sp held fuel t (Value.slice A n c).cells.toList = some x) : ∃ xs, d.S (vw w []) (.slice A n c) xs := by
  obtain ⟨xs, v, e, hs⟩ := ho.2 h
  simp [Value.cells] at e
  subst e
  exact ⟨xs, hs⟩
end Kd
end Go.Proofs.Ytinhnechhjbchaa
