import Derived.Test.YtnmhicgbdalniaaGreatDoorRows
import Derived.Test.YtnmhicgbdalniaaGreatDoorProg
import Derived.Test.YtnmhicgbdalniaaGreatDoorShelf
import Derived.WalkKit
import Derived.KernelRfl
import Derived.Lib.Hide
import Derived.Below
import Derived.Deep.Draws
import Derived.Deep.Slices
import Derived.ProofKit
import Derived.Lib.SlicesS
import Derived.LaidHandle
import Derived.LaidLaws
import Derived.Handed
import Derived.OpenShut
import Derived.MakeChecks
import Derived.Deep.MidRow
import Derived.Recover
import Derived.Laws.Pointers
import Derived.WalkLawsBesides
import Derived.WalkSmall
import Derived.Deep.QuietTactic
import Derived.BigQuiet
import Derived.Deep.RegionHeld3
import Derived.Deep.DeepCutAuto
import Derived.Deep.CutBlock
import Derived.RegionDies
import Derived.Lib.SlicesCompact
import Derived.Maps.AppendAt
import Derived.Deep.AppendLies
import Derived.OwnWalk
import Derived.Laws.OwnMore
namespace Go.Proofs.YtnmhicgbdalniaaGreatDoor
open Go.RowKit Go.ChangeShapes Go.WideShapes

/-! What memory may be looked at, and what values mean there. -/
abbrev View := Nat → Option Obj
def View.le (h k : View) : Prop := ∀ b o, h b = some o → k b = some o
def View.cell? (h : View) (a : Addr) : Option Value :=
  match h a.block with
  | some (.cells c _ _) => if a.spot.isSome then none else c[a.off]?
  | _ => none
/-- All blocks of a world but those of a list. -/
def vw (w : World) (M : List Nat) : View := fun b => if b ∈ M then none else w.heap[b]?

theorem View.le_refl (h : View) : h.le h := fun _ _ x => x
theorem View.le_trans {h k l : View} (a : h.le k) (b : k.le l) : h.le l := fun i o x => b i o (a i o x)
theorem View.cell_mono {h k : View} (hk : h.le k) {a : Addr} {v : Value} (c : h.cell? a = some v) : k.cell? a = some v := by
  unfold View.cell? at *
  cases e : h a.block with
  | none => rw [e] at c; cases c
  | some o => rw [hk _ _ e]; rw [e] at c; exact c
theorem cell_of_vw {w : World} {M : List Nat} {a : Addr} {v : Value} (c : (vw w M).cell? a = some v) : w.cell? a = some v := by
  unfold View.cell? vw at c
  unfold World.cell?
  split at c <;> rename_i h
  · split at h
    · cases h
    · rw [h]; exact c
  · cases c
theorem vw_eq {w : World} {M : List Nat} {b : Nat} {o : Obj} (h : vw w M b = some o) : b ∉ M ∧ w.heap[b]? = some o := by
  unfold vw at h
  split at h
  · cases h
  · exact ⟨by assumption, h⟩
theorem vw_mk {w : World} {M : List Nat} {b : Nat} {o : Obj} (h : b ∉ M) (k : w.heap[b]? = some o) : vw w M b = some o := by
  unfold vw; rw [if_neg h]; exact k
theorem blk_lt {w : World} {b : Nat} {o : Obj} (h : w.heap[b]? = some o) : b < w.heap.size := by
  rcases Nat.lt_or_ge b w.heap.size with k | k
  · exact k
  · simp [Array.getElem?_eq_none k] at h
theorem vw_below {w w' : World} {M : List Nat} (h : Below w.heap.size w w') : (vw w M).le (vw w' M) := fun b o hb => by
  obtain ⟨h1, h2⟩ := vw_eq hb
  exact vw_mk h1 ((h.block b (blk_lt h2)).trans h2)
theorem vw_sub {w : World} {M M' : List Nat} (h : ∀ b, b ∈ M' → b ∈ M) : (vw w M).le (vw w M') := fun b o hb => by
  obtain ⟨h1, h2⟩ := vw_eq hb
  exact vw_mk (fun k => h1 (h b k)) h2
theorem vw_setCell {w : World} {M : List Nat} {a : Addr} (h : a.block ∈ M) (v : Value) : (vw w M).le (vw (w.setCell a v) M) := fun b o hb => by
  obtain ⟨h1, h2⟩ := vw_eq hb
  refine vw_mk h1 ?_
  rw [Below.heap_setCell w a v b (fun e => h1 (e ▸ h))]; exact h2
theorem vw_alloc {w : World} {M : List Nat} (o : Obj) : (vw w M).le (vw (w.alloc o) M) := fun b x hb => by
  obtain ⟨h1, h2⟩ := vw_eq hb
  refine vw_mk h1 ?_
  show (w.heap.push o)[b]? = _
  rw [Array.getElem?_push_lt (blk_lt h2), ← h2, Array.getElem?_eq_getElem (blk_lt h2)]
theorem vw_drewN {w : World} {M : List Nat} (n : Nat) : (vw w M).le (vw (w.drewN n) M) := fun _ _ hb => hb

theorem blk_last (w : World) (o : Obj) : (w.alloc o).heap[w.heap.size]? = some o := by show (w.heap.push o)[_]? = _; simp
theorem blk_old (w : World) (o : Obj) {k : Nat} (h : k < w.heap.size) : (w.alloc o).heap[k]? = w.heap[k]? := Below.heap_alloc w o k h
theorem str_beq {a b : ByteArray} (h : a = b) : (a.toList == b.toList) = true := by subst h; simp
theorem str_nbeq {a b : ByteArray} (h : a ≠ b) : (a.toList == b.toList) = false := (Lib.bytes_beq_false_iff a b).2 h
theorem str_bne {a b : ByteArray} (h : a ≠ b) : (!a.toList == b.toList) = true := by rw [str_nbeq h]; rfl
theorem str_nbne {a b : ByteArray} (h : a = b) : (!a.toList == b.toList) = false := by rw [str_beq h]; rfl
theorem ret_bool {a b : Bool} (h : a = b) : Ending.returned (.bool a) = .returned (.bool b) := by rw [h]
theorem ret_str {a b : ByteArray} (h : a = b) : Ending.returned (.string a) = .returned (.string b) := by rw [h]
theorem ret_two {k j : IntKind} {a b c d : Int} (h : a = c) (h' : b = d) : Ending.returned (.tuple #[.int k a, .int j b]) = .returned (.tuple #[.int k c, .int j d]) := by rw [h, h']
theorem vw_grow {w w' : World} {M M' : List Nat} (h : Below w.heap.size w w') (hm : ∀ b, b ∈ M' → b ∈ M ∨ w.heap.size ≤ b) : (vw w M).le (vw w' M') := fun k o hk => by
  obtain ⟨h1, h2⟩ := vw_eq hk
  have h3 := blk_lt h2
  refine vw_mk (fun e => ?_) ((h.block k h3).trans h2)
  rcases hm k e with h4 | h4
  · exact h1 h4
  · omega
theorem own_below {w w' : World} {base : Nat} {e : TypeId} {size : Nat} {v : Value} {n : Nat} {xs : List Value} (h : w.ownsRow base e size v n xs) (hb : Below w.heap.size w w') : w'.ownsRow base e size v n xs := by
  refine h.kept (row := none) ⟨hb.os, hb.tape, hb.output, hb.size, fun k hk _ => hb.block k hk⟩ ?_
  cases v.ownBlock with
  | none => exact .inl rfl
  | some x => exact .inr (by simp)
theorem own_congr {w : World} {base : Nat} {e : TypeId} {size : Nat} {v : Value} {n n' : Nat} {xs xs' : List Value} (h : w.ownsRow base e size v n xs) (hn : n = n') (hx : xs = xs') : w.ownsRow base e size v n' xs' := by rw [← hn, ← hx]; exact h
theorem one_new (w : World) (x : Value) (T : TypeId) : ∀ (j : Nat) (u : Value), [x][j]? = some u → (w.alloc (.cells #[x] T)).cell? (Addr.add ⟨w.heap.size, 0, none⟩ j) = some u := by
  intro j u hj
  cases j with
  | zero =>
    have : x = u := by simpa using hj
    subst this
    have h := blk_last w (.cells #[x] T)
    unfold World.cell?
    rw [show (Addr.add ⟨w.heap.size, 0, none⟩ 0) = ⟨w.heap.size, 0, none⟩ from rfl]
    simp only
    rw [h]
    rfl
  | succ j => simp at hj
/-- What the cells of a value of some kind hold. -/
structure Kd (α : Type) where
  sz : Nat
  K : View → α → List Value → Prop
  len : ∀ {h x cs}, K h x cs → cs.length = sz
  mono : ∀ {h k : View} {x cs}, h.le k → K h x cs → K k x cs
namespace Kd
variable {α : Type}
/-- A value reads as a list. -/
def S (d : Kd α) (h : View) (v : Value) (xs : List α) : Prop :=
  ∃ A cap, v = .slice A xs.length cap ∧ xs.length ≤ cap ∧ xs.length ≤ 140737488351232 ∧ (A = none → cap = 0) ∧
    (0 < xs.length → ∃ b off, A = some ⟨b, off, none⟩ ∧ ∀ j x, xs[j]? = some x → ∃ cs, d.K h x cs ∧ ∀ i u, cs[i]? = some u → h.cell? ⟨b, off + j * d.sz + i, none⟩ = some u)
theorem S.mono {d : Kd α} {h k : View} {v : Value} {xs : List α} (hk : h.le k) (s : d.S h v xs) : d.S k v xs := by
  obtain ⟨A, cap, e, h1, h2, h4, h3⟩ := s
  refine ⟨A, cap, e, h1, h2, h4, fun hl => ?_⟩
  obtain ⟨b, off, e, hc⟩ := h3 hl
  refine ⟨b, off, e, fun j x hx => ?_⟩
  obtain ⟨cs, c1, c2⟩ := hc j x hx
  exact ⟨cs, d.mono hk c1, fun i u hu => View.cell_mono hk (c2 i u hu)⟩
theorem S.nil (d : Kd α) (h : View) : d.S h (.slice none 0 0) [] := ⟨none, 0, rfl, Nat.le_refl _, by simp, fun _ => rfl, fun h => by simp at h⟩
theorem S.form {d : Kd α} {h : View} {A : Option Addr} {n cap : Nat} {xs : List α} (s : d.S h (.slice A n cap) xs) : n = xs.length ∧ xs.length ≤ cap ∧ xs.length ≤ 140737488351232 := by
  obtain ⟨A', cap', e, h1, h2, _⟩ := s
  injection e with e1 e2 e3
  subst e2 e3
  exact ⟨rfl, h1, h2⟩
theorem S.cap_none {d : Kd α} {h : View} {n cap : Nat} {xs : List α} (s : d.S h (.slice none n cap) xs) : xs = [] ∧ cap = 0 := by
  obtain ⟨A', cap', e, h1, h2, h4, h3⟩ := s
  injection e with e1 e2 e3
  subst e1 e3
  have := h4 rfl
  exact ⟨by cases xs with | nil => rfl | cons x r => simp at h1; omega, this⟩
theorem S.elem {d : Kd α} {h : View} {A : Option Addr} {n cap : Nat} {xs : List α} (s : d.S h (.slice A n cap) xs) (j : Nat) (hj : j < xs.length) :
    ∃ b off cs, A = some ⟨b, off, none⟩ ∧ d.K h xs[j] cs ∧ ∀ i u, cs[i]? = some u → h.cell? ⟨b, off + j * d.sz + i, none⟩ = some u := by
  obtain ⟨A', cap', e, h1, h2, _, h3⟩ := s
  injection e with e1 e2 e3
  subst e1
  obtain ⟨b, off, e, hc⟩ := h3 (by omega)
  obtain ⟨cs, c1, c2⟩ := hc j xs[j] (List.getElem?_eq_getElem hj)
  exact ⟨b, off, cs, e, c1, c2⟩
theorem S.empty (d : Kd α) (h : View) (A : Option Addr) (cap : Nat) (hA : A = none → cap = 0) : d.S h (.slice A 0 cap) [] := ⟨A, cap, rfl, Nat.zero_le _, by simp, hA, fun h => by simp at h⟩
theorem S.drop {d : Kd α} {h : View} {b off n cap : Nat} {xs : List α} (s : d.S h (.slice (some ⟨b, off, none⟩) n cap) xs) (k : Nat) (hk : k ≤ n) : d.S h (.slice (some ⟨b, off + k * d.sz, none⟩) (n - k) (cap - k)) (xs.drop k) := by
  obtain ⟨rfl, h1, h2⟩ := s.form
  refine ⟨some ⟨b, off + k * d.sz, none⟩, cap - k, by rw [List.length_drop], by rw [List.length_drop]; omega, by rw [List.length_drop]; omega, fun e => (by cases e), fun hl => ⟨b, off + k * d.sz, rfl, fun j x hx => ?_⟩⟩
  rw [List.length_drop] at hl
  rw [List.getElem?_drop] at hx
  obtain ⟨A', cap', e, _, _, _, h3⟩ := s
  obtain ⟨b', off', e', hc⟩ := h3 (by omega)
  injection e with e1
  subst e'
  injection e1 with e1
  injection e1 with e1 e2
  subst e1 e2
  obtain ⟨cs, c1, c2⟩ := hc (k + j) x hx
  refine ⟨cs, c1, fun i u hu => ?_⟩
  rw [← c2 i u hu, Nat.add_mul, ← Nat.add_assoc]
theorem addr_add (b off k : Nat) : Addr.add ⟨b, off, none⟩ k = ⟨b, off + k, none⟩ := by
  unfold Addr.add
  split
  · rename_i h; rw [h, Nat.add_zero]
  · rfl
/-- 'xs[k:]' of one-cell elements. -/
theorem S.low {d : Kd α} (h1 : d.sz = 1) {h : View} {A : Option Addr} {n cap : Nat} {xs : List α} (s : d.S h (.slice A n cap) xs) (k : Nat) (hk : k ≤ n) : d.S h (.slice (Option.map (fun x => x.add k) A) (n - k) (cap - k)) (xs.drop k) := by
  rcases Nat.lt_or_ge k n with hlt | hge
  · obtain ⟨rfl, _⟩ := s.form
    obtain ⟨b, off, cs, rfl, _⟩ := s.elem k hlt
    have := s.drop k hk
    rw [h1, Nat.mul_one] at this
    simpa [addr_add] using this
  · obtain ⟨rfl, _⟩ := s.form
    rw [show xs.length - k = 0 by omega, List.drop_eq_nil_of_le hge]
    refine S.empty _ _ _ _ (fun e => ?_)
    have : A = none := by simpa using e
    subst this
    have := s.cap_none.2
    omega
theorem S.low_cap {d : Kd α} {h : View} {A : Option Addr} {n cap : Nat} {xs : List α} (s : d.S h (.slice A n cap) xs) (k : Nat) (hk : cap = k) (hkn : k ≤ n) : d.S h (.slice A (n - k) 0) (xs.drop k) := by
  obtain ⟨rfl, hc, _⟩ := s.form
  rw [show xs.length - k = 0 by omega, List.drop_eq_nil_of_le (by omega)]
  exact S.empty _ _ _ _ (fun _ => rfl)
theorem S.take {d : Kd α} {h : View} {A : Option Addr} {n cap : Nat} {xs : List α} (s : d.S h (.slice A n cap) xs) (k : Nat) (hk : k ≤ n) : d.S h (.slice A k cap) (xs.take k) := by
  obtain ⟨rfl, h1, h2⟩ := s.form
  have hl : (xs.take k).length = k := by rw [List.length_take]; omega
  obtain ⟨A', cap', e, _, _, h4, h3⟩ := s
  injection e with e1 e2 e3
  subst e1 e3
  refine ⟨A, cap, by rw [hl], by rw [hl]; omega, by rw [hl]; omega, h4, fun hp => ?_⟩
  rw [hl] at hp
  obtain ⟨b, off, e, hc⟩ := h3 (by omega)
  refine ⟨b, off, e, fun j x hx => hc j x ?_⟩
  rw [List.getElem?_take] at hx
  split at hx
  · exact hx
  · cases hx
def scalar (f : α → Value) (p : α → Prop) : Kd α where
  sz := 1
  K := fun _ x cs => cs = [f x] ∧ p x
  len := fun h => by rw [h.1]; rfl
  mono := fun _ h => h
def int (k : IntKind) : Kd Int := scalar (Value.int k) (fun n => (Lit.int k n).wf = true)
def str : Kd ByteArray := scalar Value.string (fun s => s.size ≤ 140737488351232)
def bool : Kd Bool := scalar Value.bool (fun _ => True)
/-- One cell an element. -/
theorem S.elem1 {f : α → Value} {p : α → Prop} {w : World} {M : List Nat} {A : Option Addr} {n cap : Nat} {xs : List α} (s : (scalar f p).S (vw w M) (.slice A n cap) xs) (j : Nat) (hj : j < xs.length) :
    ∃ b off, A = some ⟨b, off, none⟩ ∧ w.cell? ⟨b, off + j, none⟩ = some (f xs[j]) ∧ p xs[j] := by
  obtain ⟨b, off, cs, e, h1, h2⟩ := s.elem j hj
  refine ⟨b, off, e, cell_of_vw (M := M) ?_, h1.2⟩
  have := h2 0 (f xs[j]) (by rw [h1.1]; rfl)
  simpa [scalar] using this
/-- A block of one-cell elements. -/
theorem S.of_block {f : α → Value} {p : α → Prop} {w : World} {M : List Nat} {b : Nat} {T : TypeId} {fz : Nat × Nat} {xs : List α} (h : w.heap[b]? = some (.cells (xs.map f).toArray T fz)) (hm : b ∉ M) (hl : xs.length ≤ 140737488351232) (hp : ∀ x ∈ xs, p x) :
    (scalar f p).S (vw w M) (.slice (some ⟨b, 0, none⟩) xs.length xs.length) xs := by
  refine ⟨_, _, rfl, Nat.le_refl _, hl, fun e => (by cases e), fun _ => ⟨b, 0, rfl, fun j x hx => ⟨[f x], ⟨rfl, hp x (List.mem_of_getElem? hx)⟩, fun i u hu => ?_⟩⟩⟩
  obtain ⟨rfl, rfl⟩ : i = 0 ∧ u = f x := by
    cases i with
    | zero => exact ⟨rfl, by simpa using hu.symm⟩
    | succ i => simp at hu
  simp [View.cell?, vw_mk hm h, scalar, List.getElem?_map, hx]
/-- The cells behind a slice of one-cell elements, as append asks for them. -/
theorem S.news {f : α → Value} {p : α → Prop} {w : World} {M : List Nat} {ad : Addr} {n cap : Nat} {xs : List α} (s : (scalar f p).S (vw w M) (.slice (some ad) n cap) xs) :
    ∀ (j : Nat) (u : Value), (xs.map f)[j]? = some u → w.cell? (ad.add j) = some u := by
  intro j u hj
  have hl : j < xs.length := by
    have := (List.getElem?_eq_some_iff.1 hj).1
    simpa using this
  obtain ⟨b, off, e, hc, _⟩ := s.elem1 j hl
  injection e with e
  subst e
  rw [addr_add, hc]
  rw [List.getElem?_map, List.getElem?_eq_getElem hl] at hj
  simpa using hj
/-- A row of the call's own. -/
theorem S.of_own {f : α → Value} {p : α → Prop} {w : World} {base : Nat} {e : TypeId} {v : Value} {n : Nat} {xs : List α} (h : w.ownsRow base e 1 v n (xs.map f)) (hl : xs.length ≤ 140737488351232) (hp : ∀ x ∈ xs, p x) {M : List Nat} (hm : ∀ k, v.ownBlock = some k → k ∉ M) :
    (scalar f p).S (vw w M) v xs := by
  obtain ⟨h1, ⟨rfl, rfl⟩ | ⟨g, cap, cur, rfl, hg, hh, hn, hc, hs, ht⟩⟩ := h
  · have : xs = [] := by simpa using h1
    subst this
    exact S.nil _ _
  · have hn' : n = xs.length := by simpa using h1.symm
    subst hn'
    refine ⟨_, cap, rfl, hn, hl, fun e => (by cases e), fun _ => ⟨g, 0, rfl, fun j x hx => ⟨[f x], ⟨rfl, hp x (List.mem_of_getElem? hx)⟩, fun i u hu => ?_⟩⟩⟩
    obtain ⟨rfl, rfl⟩ : i = 0 ∧ u = f x := by
      cases i with
      | zero => exact ⟨rfl, by simpa using hu.symm⟩
      | succ i => simp at hu
    have hj := (List.getElem?_eq_some_iff.1 hx).1
    have h2 : (cur.toList.take (xs.length * 1))[j]? = some (f x) := by rw [ht, List.getElem?_map, hx]; rfl
    rw [List.getElem?_take, if_pos (by omega)] at h2
    simp [View.cell?, vw_mk (hm g rfl) hh, scalar]
    simpa using h2
def slice (d : Kd α) : Kd (List α) where
  sz := 1
  K := fun h xs cs => ∃ v, cs = [v] ∧ d.S h v xs
  len := by rintro h x cs ⟨v, rfl, _⟩; rfl
  mono := by rintro h k x cs hk ⟨v, rfl, s⟩; exact ⟨v, rfl, s.mono hk⟩
/-- What reads as data of type t, within the form's reach, reads as one of this kind. -/
def Opens (d : Kd α) (P : Program) (t : TypeId) : Prop :=
  P.cellsOf t = d.sz ∧ ∀ {H : Type} {enc : TypeId × Value → H} {w : World} {base : Nat} {sp : Nat → Bool} {held : Bool} {fuel : Nat} {cs : List Value} {x : DataW H × List MemPlace},
    DataW.trod enc P w base sp held fuel t cs = some x → (∀ n ∈ x.1.weights P t, n ≤ reachBytes) → ∃ a, d.K (vw w []) a cs
theorem opens_int {P : Program} {t : TypeId} {k : IntKind} (hs : P.cellsOf t = 1) (h : P.underlying t = some (.int k)) : (int k).Opens P t := by
  refine ⟨hs, fun {H enc w base sp held fuel cs x} hx _ => ?_⟩
  obtain ⟨n, e, rfl, hw⟩ := DataW.trod_int h hx
  exact ⟨n, e, hw⟩
theorem opens_str {P : Program} {t : TypeId} (hs : P.cellsOf t = 1) (h : P.underlying t = some .string) : str.Opens P t := by
  refine ⟨hs, fun {H enc w base sp held fuel cs x} hx hw => ?_⟩
  obtain ⟨n, e, rfl, _⟩ := DataW.trod_string h hx
  have := hw n.data.toList.length (by simp [DataW.weights])
  exact ⟨n, e, by simpa [reachBytes] using this⟩
theorem opens_bool {P : Program} {t : TypeId} (hs : P.cellsOf t = 1) (h : P.underlying t = some .bool) : bool.Opens P t := by
  refine ⟨hs, fun {H enc w base sp held fuel cs x} hx _ => ?_⟩
  obtain ⟨n, e, _⟩ := DataW.trod_bool h hx
  exact ⟨n, e, trivial⟩
theorem weightsAll_mem {P : Program} {H : Type} {e : TypeId} {d : DataW H} : ∀ {l : List (DataW H)}, d ∈ l → ∀ n ∈ d.weights P e, n ∈ DataW.weightsAll P e l
  | [], h, _, _ => by cases h
  | a :: l, h, n, hn => by
    simp only [DataW.weightsAll, List.mem_append]
    rcases List.mem_cons.1 h with rfl | h
    · exact .inl hn
    · exact .inr (weightsAll_mem h n hn)
theorem cells_get {w : World} {base : Nat} {a : Addr} {n : Nat} {cs : List Value} (h : w.cells? base a n = some cs) : ∀ (i : Nat) (u : Value), cs[i]? = some u → w.cell? (a.add i) = some u := by
  intro i u hu
  obtain ⟨_, hl, hc⟩ := World.cells?_some h
  have hi := (List.getElem?_eq_some_iff.1 hu).1
  rw [hc i (by omega), hu]
theorem vw_cell {w : World} {a : Addr} {v : Value} (h : w.cell? a = some v) : (vw w []).cell? a = some v := by
  unfold World.cell? at h
  unfold View.cell?
  split at h
  · rename_i e
    rw [vw_mk (M := []) (by simp) e]; exact h
  · cases h
theorem spot_of_cell {w : World} {a : Addr} {v : Value} (h : w.cell? a = some v) : a.spot = none := by
  unfold World.cell? at h
  split at h
  · cases e : a.spot with
    | none => rfl
    | some x => simp [e] at h
  · cases h
theorem opens_slice {P : Program} {d : Kd α} {t e : TypeId} (hs : P.cellsOf t = 1) (h : P.underlying t = some (.slice e)) (h0 : 0 < d.sz) (hb0 : 0 < P.bytesOf e) (hd : d.Opens P e) : (slice d).Opens P t := by
  refine ⟨hs, fun {H enc w base sp held fuel cs x} hx hw => ?_⟩
  rcases Deep.open_slice h hx with ⟨rfl, _⟩ | ⟨a, len, cap, m, n, D, Pl, rfl, hb, hl, hm, hmm, rfl, hel⟩
  · exact ⟨[], _, rfl, S.nil d _⟩
  · have hlm : len ≤ m := by rw [hmm]; split <;> omega
    have hmax : len ≤ 140737488351232 := by
      have := hw ((len + (m - len)) * P.bytesOf e) (by simp [DataW.weights, h])
      have h2 : len * 1 ≤ (len + (m - len)) * P.bytesOf e := Nat.mul_le_mul (by omega) hb0
      simp only [reachBytes] at this
      omega
    have key : ∀ i, i < len → ∃ y : α × List Value, d.K (vw w []) y.1 y.2 ∧ ∀ j u, y.2[j]? = some u → w.cell? (a.add (i * d.sz + j)) = some u := by
      intro i hi
      obtain ⟨cs', h1, h2⟩ := hel i (by omega)
      obtain ⟨y, hy⟩ := hd.2 h2 (fun n hn => hw n (by
        simp only [DataW.weights, h]
        exact List.mem_cons_of_mem _ (List.mem_append_left _ (weightsAll_mem (List.mem_map.2 ⟨i, List.mem_range.2 hi, rfl⟩) n hn))))
      refine ⟨(y, cs'), hy, fun j u hu => ?_⟩
      have := cells_get h1 j u hu
      rwa [hd.1, Deep.add_add] at this
    rcases Nat.eq_zero_or_pos len with rfl | hpos
    · exact ⟨[], .slice (some a) 0 cap, rfl, some a, cap, rfl, Nat.zero_le _, by simp, fun e => (by cases e), fun h => by simp at h⟩
    · obtain ⟨y0, k0, c0⟩ := key 0 hpos
      have : Inhabited (α × List Value) := ⟨y0⟩
      obtain ⟨Y, hY⟩ := Deep.choose_lt key
      have hlen := d.len (hY 0 hpos).1
      have hsp : a.spot = none := by
        have h1 := (hY 0 hpos).2 0 ((Y 0).2[0]'(by omega)) (List.getElem?_eq_getElem _)
        have h2 := spot_of_cell h1
        unfold Addr.add at h2
        simpa using h2
      obtain ⟨b, off, spot⟩ := a
      simp only at hsp
      subst hsp
      refine ⟨(List.range len).map fun i => (Y i).1, .slice (some ⟨b, off, none⟩) len cap, rfl, some ⟨b, off, none⟩, cap, by simp, by simpa using hl, by simp; omega, fun e => (by cases e), fun _ => ⟨b, off, rfl, fun j x hx => ?_⟩⟩
      have hj : j < len := by
        have := (List.getElem?_eq_some_iff.1 hx).1
        simpa using this
      rw [List.getElem?_map, List.getElem?_range hj] at hx
      simp only [Option.map_some, Option.some.injEq] at hx
      subst hx
      refine ⟨(Y j).2, (hY j hj).1, fun i u hu => vw_cell ?_⟩
      have := (hY j hj).2 i u hu
      have e : Addr.add ⟨b, off, none⟩ (j * d.sz + i) = ⟨b, off + j * d.sz + i, none⟩ := by
        unfold Addr.add
        split
        · rename_i h; rw [show off + j * d.sz + i = off by omega]
        · rw [Nat.add_assoc]
      rwa [e] at this
theorem open_slice_arg {P : Program} {d : Kd α} {t : TypeId} (ho : (slice d).Opens P t) {A : Option Addr} {n c : Nat} {H : Type} {enc : TypeId × Value → H} {w : World} {base : Nat} {sp : Nat → Bool} {held : Bool} {fuel : Nat} {x : DataW H × List MemPlace}
    (h : DataW.trod enc P w base sp held fuel t (Value.slice A n c).cells.toList = some x) (hw : ∀ n ∈ x.1.weights P t, n ≤ reachBytes) : ∃ xs, d.S (vw w []) (.slice A n c) xs := by
  obtain ⟨xs, v, e, hs⟩ := ho.2 h hw
  simp [Value.cells] at e
  subst e
  exact ⟨xs, hs⟩
end Kd
end Go.Proofs.YtnmhicgbdalniaaGreatDoor
namespace Go.Proofs.YtnmhicgbdalniaaGreatDoor
open Go.RowKit Go.ChangeShapes Go.WideShapes Go.ChangeAt

/-- What the rows say of the variables that they list. -/
def laidL : List (String × DataW Unit) := [("unicode/utf8.acceptRanges", Rows.laid_unicode_utf8_acceptRanges), ("unicode/utf8.first", Rows.laid_unicode_utf8_first)]
def cells1 : DataW Unit → List Value
  | .lit (.int k n) => [.int k n]
  | _ => []
def cells2 : DataW Unit → List Value
  | .agg l => l.flatMap cells1
  | d => cells1 d
def cellsOfData : DataW Unit → List Value
  | .agg l => l.flatMap cells2
  | _ => []
/-- A world in which they read so: the settled one, the three variables' cells laid. -/
noncomputable def laidWorld (os : Os) : World :=
  let w0 := World.holding Tryz.prog os ⟨#[], #[], []⟩
  let put (h : Array Obj) (g : Nat) (cs : Array Value) : Array Obj := h.modify g fun
    | .cells _ t frozen => .cells cs t frozen
    | o => o
  { w0 with heap := laidL.foldl (fun h x => put h ((Tryz.prog.globalNamed x.1).getD 0) (cellsOfData x.2).toArray) w0.heap }
theorem laid_met (os : Os) (args : Array Value) : laidMetH Tryz.prog laidL ((laidWorld os).forCall (fun _ _ => 0) ⟨#[], args, []⟩).memory :=
  laidMetH_of_parts (laidMet_of_run' 4 (by kernel_rfl) (by kernel_rfl)) (by kernel_rfl)
end Go.Proofs.YtnmhicgbdalniaaGreatDoor
namespace Go.Proofs.YtnmhicgbdalniaaGreatDoor
open Go.RowKit Go.ChangeShapes Go.WideShapes
/-! Structs: what their cells hold, field by field. -/
namespace Kd
variable {α β : Type}
def unit : Kd Unit where
  sz := 0
  K := fun _ _ cs => cs = []
  len := fun h => by rw [h]; rfl
  mono := fun _ h => h
def cons (d : Kd α) (e : Kd β) : Kd (α × β) where
  sz := d.sz + e.sz
  K := fun h x cs => ∃ a b, cs = a ++ b ∧ d.K h x.1 a ∧ e.K h x.2 b
  len := by rintro h x cs ⟨a, b, rfl, h1, h2⟩; rw [List.length_append, d.len h1, e.len h2]
  mono := by rintro h k x cs hk ⟨a, b, e1, h1, h2⟩; exact ⟨a, b, e1, d.mono hk h1, e.mono hk h2⟩
structure OpensFs (d : Kd α) (P : Program) (fs : List Field) (at_ : Nat) : Prop where
  out : ∀ {H : Type} {enc : TypeId × Value → H} {w : World} {base : Nat} {sp : Nat → Bool} {held : Bool} {n : Nat} {cs : List Value} {xs : List (DataW H × List MemPlace)},
    cs.length = at_ + d.sz → (∀ (i : Nat) (f : Field), fs[i]? = some f → DataW.trod enc P w base sp held n f.type ((cs.drop f.offset).take (P.cellsOf f.type)) = xs[i]?) → xs.length = fs.length →
    (∀ m ∈ DataW.weightsEach P (fs.map Field.type) (xs.map (·.1)), m ≤ reachBytes) → ∃ a, d.K (vw w []) a (cs.drop at_)
theorem opensFs_nil {P : Program} {at_ : Nat} : unit.OpensFs P [] at_ := ⟨fun {_ _ _ _ _ _ _ cs _} h _ _ _ => ⟨(), List.drop_eq_nil_of_le (by rw [h]; exact Nat.le_refl _)⟩⟩
theorem opensFs_cons {P : Program} {d : Kd α} {e : Kd β} {f : Field} {fs : List Field} {at_ : Nat} (ho : f.offset = at_) (hd : d.Opens P f.type) (he : e.OpensFs P fs (at_ + d.sz)) : (cons d e).OpensFs P (f :: fs) at_ := by
  refine ⟨fun {H enc w base sp held n cs xs} hl hf hx hw => ?_⟩
  cases xs with
  | nil => cases hx
  | cons y ys =>
    have h0 := hf 0 f rfl
    simp only [List.getElem?_cons_zero] at h0
    rw [ho, hd.1] at h0
    obtain ⟨a, ha⟩ := hd.2 h0 (fun m hm => hw m (by
      simp only [List.map_cons, DataW.weightsEach]
      exact List.mem_append_left _ hm))
    obtain ⟨b, hb⟩ := he.out (cs := cs) (xs := ys) (by simp only [cons] at hl; omega) (fun i g hg => by
      have := hf (i + 1) g (by simpa using hg)
      simpa using this) (by simpa using hx) (fun m hm => hw m (by
      simp only [List.map_cons, DataW.weightsEach]
      exact List.mem_append_right _ hm))
    refine ⟨(a, b), _, _, ?_, ha, hb⟩
    rw [← List.drop_drop, List.take_append_drop]
theorem opens_struct {P : Program} {d : Kd α} {t : TypeId} {fs : Array Field} (hs : P.cellsOf t = d.sz) (h : P.underlying t = some (.struct fs)) (ho : d.OpensFs P fs.toList 0) : d.Opens P t := by
  refine ⟨hs, fun {H enc w base sp held fuel cs x} hx hw => ?_⟩
  obtain ⟨xs, n, _, rfl, hl, hlen, hf⟩ := DataW.trod_struct h hx
  have := ho.out (cs := cs) (xs := xs) (n := n) (by omega) (fun i f hi => hf i f (by simpa using hi)) (by simpa using hlen) (fun m hm => hw m (by simpa only [DataW.weights, h] using hm))
  simpa using this
theorem Opens.conv {P : Program} {d : Kd α} {e : Kd β} {t : TypeId} (h : d.Opens P t) (hz : d.sz = e.sz) (hk : ∀ k a cs, d.K k a cs → ∃ b, e.K k b cs) : e.Opens P t :=
  ⟨h.1.trans hz, fun hx hw => by obtain ⟨a, ha⟩ := h.2 hx hw; exact hk _ _ _ ha⟩
end Kd
/-- The cells of an element, or of a struct, lie at an address of a world. -/
theorem range_of_view {w : World} {M : List Nat} {b o : Nat} {cs : List Value} (h : ∀ i u, cs[i]? = some u → (vw w M).cell? ⟨b, o + i, none⟩ = some u) : w.rangeAt b o cs := fun j v hv => cell_of_vw (h j v hv)
theorem range_block {w : World} {b : Nat} {cs : List Value} {t : TypeId} {fr : Nat × Nat} (h : w.heap[b]? = some (.cells cs.toArray t fr)) : w.rangeAt b 0 cs := fun j v hv => by
  rw [Nat.zero_add, cell_of_row w b j _ _ _ h]; simpa using hv
theorem range_cells {w : World} {b : Nat} {cs : List Value} {t : TypeId} {fr : Nat × Nat} (h : w.heap[b]? = some (.cells cs.toArray t fr)) : ∀ j v, cs[j]? = some v → w.cell? ⟨b, j, none⟩ = some v := fun j v hv => by
  rw [cell_of_row w b j _ _ _ h]; simpa using hv
namespace Kd
variable {α : Type}
/-- Cells without memory behind them, n of them. -/
def flat (n : Nat) (f : α → List Value) (p : α → Prop) (hn : ∀ x, (f x).length = n) : Kd α where
  sz := n
  K := fun _ x cs => cs = f x ∧ p x
  len := fun h => by rw [h.1]; exact hn _
  mono := fun _ h => h
theorem S.elemN {n : Nat} {f : α → List Value} {p : α → Prop} {hn : ∀ x, (f x).length = n} {w : World} {M : List Nat} {A : Option Addr} {m cap : Nat} {xs : List α} (s : (flat n f p hn).S (vw w M) (.slice A m cap) xs) (j : Nat) (hj : j < xs.length) :
    ∃ b off, A = some ⟨b, off, none⟩ ∧ w.rangeAt b (off + j * n) (f xs[j]) ∧ p xs[j] := by
  obtain ⟨b, off, cs, e, h1, h2⟩ := s.elem j hj
  obtain ⟨rfl, hp⟩ := h1
  exact ⟨b, off, e, range_of_view h2, hp⟩
end Kd
end Go.Proofs.YtnmhicgbdalniaaGreatDoor
namespace Go.Proofs.YtnmhicgbdalniaaGreatDoor
open Go.RowKit

/-! The program's data, and the document's, in plain words. -/
def lim : Nat := 140737488351232
structure Amt where
  name : ByteArray
  n : Int
structure Pair where
  key : ByteArray
  val : ByteArray
structure Term where
  op : Int
  key : ByteArray
  val : ByteArray
structure Tnt where
  key : ByteArray
  val : ByteArray
  b : Bool
structure Nd where
  name : ByteArray
  cap : List Amt
  labels : List Pair
  taints : List Tnt
  cordon : Bool
structure Pd where
  name : ByteArray
  owner : ByteArray
  prio : Int
  need : List Amt
  labels : List Pair
  sel : List Term
  tols : List Tnt
  key : ByteArray
  most : Int
  node : ByteArray
  hold : Bool
structure Bd where
  name : ByteArray
  sel : List Term
  floor : Int
structure St where
  nodes : List Nd
  pods : List Pd
  budgets : List Bd
def i64 (n : Int) : Prop := -9223372036854775808 ≤ n ∧ n ≤ 9223372036854775807
def sok (s : ByteArray) : Prop := s.size ≤ 140737488351232
namespace Kd
variable {α : Type}
/-- What an element's cells hold. -/
theorem S.at_ {d : Kd α} {w : World} {M : List Nat} {A : Option Addr} {m cap : Nat} {xs : List α} (s : d.S (vw w M) (.slice A m cap) xs) (j : Nat) (hj : j < xs.length) :
    ∃ b off cs, A = some ⟨b, off, none⟩ ∧ d.K (vw w M) xs[j] cs ∧ w.rangeAt b (off + j * d.sz) cs := by
  obtain ⟨b, off, cs, e, h1, h2⟩ := s.elem j hj
  exact ⟨b, off, cs, e, h1, range_of_view h2⟩
/-- The same, the element told of an older world. -/
theorem S.both {d : Kd α} {w wr : World} {A : Option Addr} {m cap : Nat} {xs : List α} (s : d.S (vw w []) (.slice A m cap) xs) (hb : Below w.heap.size w wr) (j : Nat) (hj : j < xs.length) :
    ∃ b off cs, A = some ⟨b, off, none⟩ ∧ d.K (vw w []) xs[j] cs ∧ wr.rangeAt b (off + j * d.sz) cs := by
  obtain ⟨b, off, cs, e, h1, h2⟩ := s.elem j hj
  exact ⟨b, off, cs, e, h1, range_of_view fun i u hu => View.cell_mono (vw_below hb) (h2 i u hu)⟩
/-- A struct by value. -/
def V (d : Kd α) (h : View) (v : Value) (x : α) : Prop := ∃ cs, v = .agg cs.toArray ∧ d.K h x cs
theorem V.mono {d : Kd α} {h k : View} {v : Value} {x : α} (hk : h.le k) (s : d.V h v x) : d.V k v x := by
  obtain ⟨cs, e, h1⟩ := s
  exact ⟨cs, e, d.mono hk h1⟩
def amt : Kd Amt := flat 2 (fun x => [.string x.name, .int .i64 x.n]) (fun x => sok x.name ∧ i64 x.n) (fun _ => rfl)
def pair : Kd Pair := flat 2 (fun x => [.string x.key, .string x.val]) (fun x => sok x.key ∧ sok x.val) (fun _ => rfl)
def term : Kd Term := flat 3 (fun x => [.int .i64 x.op, .string x.key, .string x.val]) (fun x => i64 x.op ∧ sok x.key ∧ sok x.val) (fun _ => rfl)
def tnt : Kd Tnt := flat 3 (fun x => [.string x.key, .string x.val, .bool x.b]) (fun x => sok x.key ∧ sok x.val) (fun _ => rfl)
def node : Kd Nd where
  sz := 5
  K := fun h x cs => ∃ A1 c1 A2 c2 A3 c3, cs = [.string x.name, .slice A1 x.cap.length c1, .slice A2 x.labels.length c2, .slice A3 x.taints.length c3, .bool x.cordon] ∧ sok x.name ∧
    amt.S h (.slice A1 x.cap.length c1) x.cap ∧ pair.S h (.slice A2 x.labels.length c2) x.labels ∧ tnt.S h (.slice A3 x.taints.length c3) x.taints
  len := by rintro h x cs ⟨_, _, _, _, _, _, rfl, _⟩; rfl
  mono := by rintro h k x cs hk ⟨A1, c1, A2, c2, A3, c3, e, h0, h1, h2, h3⟩; exact ⟨A1, c1, A2, c2, A3, c3, e, h0, h1.mono hk, h2.mono hk, h3.mono hk⟩
def PdOk (x : Pd) : Prop := (sok x.name ∧ sok x.owner ∧ i64 x.prio) ∧ sok x.key ∧ i64 x.most ∧ sok x.node
def pod : Kd Pd where
  sz := 11
  K := fun h x cs => ∃ A1 c1 A2 c2 A3 c3 A4 c4, cs = [.string x.name, .string x.owner, .int .i64 x.prio, .slice A1 x.need.length c1, .slice A2 x.labels.length c2, .slice A3 x.sel.length c3, .slice A4 x.tols.length c4, .string x.key, .int .i64 x.most, .string x.node, .bool x.hold] ∧ PdOk x ∧
    amt.S h (.slice A1 x.need.length c1) x.need ∧ pair.S h (.slice A2 x.labels.length c2) x.labels ∧ term.S h (.slice A3 x.sel.length c3) x.sel ∧ tnt.S h (.slice A4 x.tols.length c4) x.tols
  len := by rintro h x cs ⟨_, _, _, _, _, _, _, _, rfl, _⟩; rfl
  mono := by rintro h k x cs hk ⟨A1, c1, A2, c2, A3, c3, A4, c4, e, h0, h1, h2, h3, h4⟩; exact ⟨A1, c1, A2, c2, A3, c3, A4, c4, e, h0, h1.mono hk, h2.mono hk, h3.mono hk, h4.mono hk⟩
def budget : Kd Bd where
  sz := 3
  K := fun h x cs => ∃ A1 c1, cs = [.string x.name, .slice A1 x.sel.length c1, .int .i64 x.floor] ∧ (sok x.name ∧ i64 x.floor) ∧ term.S h (.slice A1 x.sel.length c1) x.sel
  len := by rintro h x cs ⟨_, _, rfl, _⟩; rfl
  mono := by rintro h k x cs hk ⟨A1, c1, e, h0, h1⟩; exact ⟨A1, c1, e, h0, h1.mono hk⟩
def state : Kd St where
  sz := 3
  K := fun h x cs => ∃ A1 c1 A2 c2 A3 c3, cs = [.slice A1 x.nodes.length c1, .slice A2 x.pods.length c2, .slice A3 x.budgets.length c3] ∧
    node.S h (.slice A1 x.nodes.length c1) x.nodes ∧ pod.S h (.slice A2 x.pods.length c2) x.pods ∧ budget.S h (.slice A3 x.budgets.length c3) x.budgets
  len := by rintro h x cs ⟨_, _, _, _, _, _, rfl, _⟩; rfl
  mono := by rintro h k x cs hk ⟨A1, c1, A2, c2, A3, c3, e, h1, h2, h3⟩; exact ⟨A1, c1, A2, c2, A3, c3, e, h1.mono hk, h2.mono hk, h3.mono hk⟩
/-- Whatever reads as a list is spelled by its length. -/
theorem S.val {d : Kd α} {h : View} {v : Value} {xs : List α} (s : d.S h v xs) : ∃ A c, v = .slice A xs.length c ∧ d.S h (.slice A xs.length c) xs := by
  obtain ⟨A, c, rfl, _⟩ := id s
  exact ⟨A, c, rfl, s⟩
end Kd
theorem wf_i64 {n : Int} (h : (Lit.int .i64 n).wf = true) : i64 n := by
  simp only [Lit.wf, Bool.and_eq_true, decide_eq_true_eq] at h
  exact h
end Go.Proofs.YtnmhicgbdalniaaGreatDoor
namespace Go.Proofs.YtnmhicgbdalniaaGreatDoor
open Go.RowKit

/-! The program's data, out of what an argument's cells read as. -/
theorem o_str : Kd.str.Opens Tryz.prog 9 := Kd.opens_str (by kernel_rfl) Tryz.underlying9
theorem o_bool : Kd.bool.Opens Tryz.prog 4 := Kd.opens_bool (by kernel_rfl) Tryz.underlying4
theorem o_int : (Kd.int .i64).Opens Tryz.prog 3 := Kd.opens_int (by kernel_rfl) Tryz.underlying3
theorem o_int64 : (Kd.int .i64).Opens Tryz.prog 2 := Kd.opens_int (by kernel_rfl) Tryz.underlying2
theorem opens_amt : Kd.amt.Opens Tryz.prog 187 :=
  (Kd.opens_struct (d := Kd.cons Kd.str (Kd.cons (Kd.int .i64) Kd.unit)) (by kernel_rfl) Tryz.underlying187 (Kd.opensFs_cons rfl o_str (Kd.opensFs_cons rfl o_int64 Kd.opensFs_nil))).conv rfl (by
    rintro k ⟨a, b, _⟩ cs ⟨c1, r1, rfl, ⟨rfl, h1⟩, c2, r2, rfl, ⟨rfl, h2⟩, rfl⟩
    exact ⟨⟨a, b⟩, rfl, h1, wf_i64 h2⟩)
theorem opens_pair : Kd.pair.Opens Tryz.prog 232 :=
  (Kd.opens_struct (d := Kd.cons Kd.str (Kd.cons Kd.str Kd.unit)) (by kernel_rfl) Tryz.underlying232 (Kd.opensFs_cons rfl o_str (Kd.opensFs_cons rfl o_str Kd.opensFs_nil))).conv rfl (by
    rintro k ⟨a, b, _⟩ cs ⟨c1, r1, rfl, ⟨rfl, h1⟩, c2, r2, rfl, ⟨rfl, h2⟩, rfl⟩
    exact ⟨⟨a, b⟩, rfl, h1, h2⟩)
theorem opens_term : Kd.term.Opens Tryz.prog 234 :=
  (Kd.opens_struct (d := Kd.cons (Kd.int .i64) (Kd.cons Kd.str (Kd.cons Kd.str Kd.unit))) (by kernel_rfl) Tryz.underlying234 (Kd.opensFs_cons rfl o_int (Kd.opensFs_cons rfl o_str (Kd.opensFs_cons rfl o_str Kd.opensFs_nil)))).conv rfl (by
    rintro k ⟨a, b, c, _⟩ cs ⟨c1, r1, rfl, ⟨rfl, h1⟩, c2, r2, rfl, ⟨rfl, h2⟩, c3, r3, rfl, ⟨rfl, h3⟩, rfl⟩
    exact ⟨⟨a, b, c⟩, rfl, wf_i64 h1, h2, h3⟩)
theorem opens_taint : Kd.tnt.Opens Tryz.prog 163 :=
  (Kd.opens_struct (d := Kd.cons Kd.str (Kd.cons Kd.str (Kd.cons Kd.bool Kd.unit))) (by kernel_rfl) Tryz.underlying163 (Kd.opensFs_cons rfl o_str (Kd.opensFs_cons rfl o_str (Kd.opensFs_cons rfl o_bool Kd.opensFs_nil)))).conv rfl (by
    rintro k ⟨a, b, c, _⟩ cs ⟨c1, r1, rfl, ⟨rfl, h1⟩, c2, r2, rfl, ⟨rfl, h2⟩, c3, r3, rfl, ⟨rfl, h3⟩, rfl⟩
    exact ⟨⟨a, b, c⟩, rfl, h1, h2⟩)
theorem opens_tol : Kd.tnt.Opens Tryz.prog 236 :=
  (Kd.opens_struct (d := Kd.cons Kd.str (Kd.cons Kd.str (Kd.cons Kd.bool Kd.unit))) (by kernel_rfl) Tryz.underlying236 (Kd.opensFs_cons rfl o_str (Kd.opensFs_cons rfl o_str (Kd.opensFs_cons rfl o_bool Kd.opensFs_nil)))).conv rfl (by
    rintro k ⟨a, b, c, _⟩ cs ⟨c1, r1, rfl, ⟨rfl, h1⟩, c2, r2, rfl, ⟨rfl, h2⟩, c3, r3, rfl, ⟨rfl, h3⟩, rfl⟩
    exact ⟨⟨a, b, c⟩, rfl, h1, h2⟩)
theorem opens_vec : (Kd.slice Kd.amt).Opens Tryz.prog 28 := Kd.opens_slice (by kernel_rfl) Tryz.underlying28 (by decide) (of_decide_eq_true (by kernel_rfl)) opens_amt
theorem opens_set : (Kd.slice Kd.pair).Opens Tryz.prog 30 := Kd.opens_slice (by kernel_rfl) Tryz.underlying30 (by decide) (of_decide_eq_true (by kernel_rfl)) opens_pair
theorem opens_sel : (Kd.slice Kd.term).Opens Tryz.prog 32 := Kd.opens_slice (by kernel_rfl) Tryz.underlying32 (by decide) (of_decide_eq_true (by kernel_rfl)) opens_term
theorem opens_taints : (Kd.slice Kd.tnt).Opens Tryz.prog 92 := Kd.opens_slice (by kernel_rfl) Tryz.underlying92 (by decide) (of_decide_eq_true (by kernel_rfl)) opens_taint
theorem opens_tols : (Kd.slice Kd.tnt).Opens Tryz.prog 33 := Kd.opens_slice (by kernel_rfl) Tryz.underlying33 (by decide) (of_decide_eq_true (by kernel_rfl)) opens_tol
theorem opens_node : Kd.node.Opens Tryz.prog 94 :=
  (Kd.opens_struct (d := Kd.cons Kd.str (Kd.cons (Kd.slice Kd.amt) (Kd.cons (Kd.slice Kd.pair) (Kd.cons (Kd.slice Kd.tnt) (Kd.cons Kd.bool Kd.unit))))) (by kernel_rfl) Tryz.underlying94
    (Kd.opensFs_cons rfl o_str (Kd.opensFs_cons rfl opens_vec (Kd.opensFs_cons rfl opens_set (Kd.opensFs_cons rfl opens_taints (Kd.opensFs_cons rfl o_bool Kd.opensFs_nil)))))).conv rfl (by
    rintro k ⟨a, b, c, d, e, _⟩ cs ⟨c1, r1, rfl, ⟨rfl, h1⟩, c2, r2, rfl, ⟨v2, rfl, h2⟩, c3, r3, rfl, ⟨v3, rfl, h3⟩, c4, r4, rfl, ⟨v4, rfl, h4⟩, c5, r5, rfl, ⟨rfl, -⟩, rfl⟩
    obtain ⟨A2, d2, rfl, h2⟩ := h2.val
    obtain ⟨A3, d3, rfl, h3⟩ := h3.val
    obtain ⟨A4, d4, rfl, h4⟩ := h4.val
    exact ⟨⟨a, b, c, d, e⟩, A2, d2, A3, d3, A4, d4, rfl, h1, h2, h3, h4⟩)
theorem opens_pod : Kd.pod.Opens Tryz.prog 35 :=
  (Kd.opens_struct (d := Kd.cons Kd.str (Kd.cons Kd.str (Kd.cons (Kd.int .i64) (Kd.cons (Kd.slice Kd.amt) (Kd.cons (Kd.slice Kd.pair) (Kd.cons (Kd.slice Kd.term) (Kd.cons (Kd.slice Kd.tnt) (Kd.cons Kd.str (Kd.cons (Kd.int .i64) (Kd.cons Kd.str (Kd.cons Kd.bool Kd.unit))))))))))) (by kernel_rfl) Tryz.underlying35
    (Kd.opensFs_cons rfl o_str (Kd.opensFs_cons rfl o_str (Kd.opensFs_cons rfl o_int (Kd.opensFs_cons rfl opens_vec (Kd.opensFs_cons rfl opens_set (Kd.opensFs_cons rfl opens_sel (Kd.opensFs_cons rfl opens_tols (Kd.opensFs_cons rfl o_str (Kd.opensFs_cons rfl o_int (Kd.opensFs_cons rfl o_str (Kd.opensFs_cons rfl o_bool Kd.opensFs_nil)))))))))))).conv rfl (by
    rintro k ⟨a1, a2, a3, a4, a5, a6, a7, a8, a9, a10, a11, _⟩ cs ⟨c1, r1, rfl, ⟨rfl, h1⟩, c2, r2, rfl, ⟨rfl, h2⟩, c3, r3, rfl, ⟨rfl, h3⟩, c4, r4, rfl, ⟨v4, rfl, h4⟩, c5, r5, rfl, ⟨v5, rfl, h5⟩, c6, r6, rfl, ⟨v6, rfl, h6⟩, c7, r7, rfl, ⟨v7, rfl, h7⟩, c8, r8, rfl, ⟨rfl, h8⟩, c9, r9, rfl, ⟨rfl, h9⟩, c10, r10, rfl, ⟨rfl, h10⟩, c11, r11, rfl, ⟨rfl, -⟩, rfl⟩
    obtain ⟨A4, d4, rfl, h4⟩ := h4.val
    obtain ⟨A5, d5, rfl, h5⟩ := h5.val
    obtain ⟨A6, d6, rfl, h6⟩ := h6.val
    obtain ⟨A7, d7, rfl, h7⟩ := h7.val
    exact ⟨⟨a1, a2, a3, a4, a5, a6, a7, a8, a9, a10, a11⟩, A4, d4, A5, d5, A6, d6, A7, d7, rfl, ⟨⟨h1, h2, wf_i64 h3⟩, h8, wf_i64 h9, h10⟩, h4, h5, h6, h7⟩)
theorem opens_budget : Kd.budget.Opens Tryz.prog 245 :=
  (Kd.opens_struct (d := Kd.cons Kd.str (Kd.cons (Kd.slice Kd.term) (Kd.cons (Kd.int .i64) Kd.unit))) (by kernel_rfl) Tryz.underlying245
    (Kd.opensFs_cons rfl o_str (Kd.opensFs_cons rfl opens_sel (Kd.opensFs_cons rfl o_int Kd.opensFs_nil)))).conv rfl (by
    rintro k ⟨a, b, c, _⟩ cs ⟨c1, r1, rfl, ⟨rfl, h1⟩, c2, r2, rfl, ⟨v2, rfl, h2⟩, c3, r3, rfl, ⟨rfl, h3⟩, rfl⟩
    obtain ⟨A2, d2, rfl, h2⟩ := h2.val
    exact ⟨⟨a, b, c⟩, A2, d2, rfl, ⟨h1, wf_i64 h3⟩, h2⟩)
theorem opens_nodes : (Kd.slice Kd.node).Opens Tryz.prog 22 := Kd.opens_slice (by kernel_rfl) Tryz.underlying22 (by decide) (of_decide_eq_true (by kernel_rfl)) opens_node
theorem opens_pods : (Kd.slice Kd.pod).Opens Tryz.prog 23 := Kd.opens_slice (by kernel_rfl) Tryz.underlying23 (by decide) (of_decide_eq_true (by kernel_rfl)) opens_pod
theorem opens_budgets : (Kd.slice Kd.budget).Opens Tryz.prog 24 := Kd.opens_slice (by kernel_rfl) Tryz.underlying24 (by decide) (of_decide_eq_true (by kernel_rfl)) opens_budget
theorem opens_state : Kd.state.Opens Tryz.prog 26 :=
  (Kd.opens_struct (d := Kd.cons (Kd.slice Kd.node) (Kd.cons (Kd.slice Kd.pod) (Kd.cons (Kd.slice Kd.budget) Kd.unit))) (by kernel_rfl) Tryz.underlying26
    (Kd.opensFs_cons rfl opens_nodes (Kd.opensFs_cons rfl opens_pods (Kd.opensFs_cons rfl opens_budgets Kd.opensFs_nil)))).conv rfl (by
    rintro k ⟨a, b, c, _⟩ cs ⟨c1, r1, rfl, ⟨v1, rfl, h1⟩, c2, r2, rfl, ⟨v2, rfl, h2⟩, c3, r3, rfl, ⟨v3, rfl, h3⟩, rfl⟩
    obtain ⟨A1, d1, rfl, h1⟩ := h1.val
    obtain ⟨A2, d2, rfl, h2⟩ := h2.val
    obtain ⟨A3, d3, rfl, h3⟩ := h3.val
    exact ⟨⟨a, b, c⟩, A1, d1, A2, d2, A3, d3, rfl, h1, h2, h3⟩)
theorem Kd.open_agg_arg {α : Type} {P : Program} {d : Kd α} {t : TypeId} (ho : d.Opens P t) {cs : Array Value} {H : Type} {enc : TypeId × Value → H} {w : World} {base : Nat} {sp : Nat → Bool} {held : Bool} {fuel : Nat} {x : DataW H × List MemPlace}
    (h : DataW.trod enc P w base sp held fuel t (Value.agg cs).cells.toList = some x) (hw : ∀ n ∈ x.1.weights P t, n ≤ reachBytes) : ∃ a, d.V (vw w []) (.agg cs) a := by
  obtain ⟨a, ha⟩ := ho.2 h hw
  exact ⟨a, cs.toList, by simp, ha⟩
end Go.Proofs.YtnmhicgbdalniaaGreatDoor
namespace Go.Proofs.YtnmhicgbdalniaaGreatDoor
open Go.RowKit

/-- The value with which qty.Stop breaks off. -/
def stopV (n : Int) : Value := .iface 255 (.agg #[.int .i64 n])

theorem assert_stop (n : Int) (w : World) :
    (Instr.typeAssert (.iface 255 (.agg #[.int .i64 n])) 20 255 true).run Tryz.prog w = .ok (.tuple #[.agg #[.int .i64 n], .bool true]) w := by
  kernel_rfl

theorem lt_of_block {w : World} {b : Nat} {o : Obj} (h : w.heap[b]? = some o) : b < w.heap.size := by
  rcases Nat.lt_or_ge b w.heap.size with k | k
  · exact k
  · simp [Array.getElem?_eq_none k] at h

theorem try1_panic (b : Nat) (n y : Int) (older : List PanicEntry) (w : World) (hb : w.heap[b]? = some (.cells #[.int .i64 y] 71 (0, 0))) :
    CallsD Tryz.prog 172 #[.pointer (some ⟨b, 0, none⟩)] (.panicking ({ v := stopV n, recovered := false } :: older)) w fun e u' w' =>
      e = .returned (.tuple #[]) ∧ u' = .panicking ({ v := stopV n, recovered := true } :: older) ∧ w' = (w.setCell ⟨b, 0, none⟩ (.int .i64 n)).alloc (.cells #[.int .i64 n] 255 (0, 0)) := by
  have hlt := lt_of_block hb
  have hcell : w.cell? ⟨b, 0, none⟩ = some (.int .i64 y) := by simp [World.cell?, hb]
  have hfree : w.frozen? ⟨b, 0, none⟩ = false := by simp [World.frozen?, hb]
  have hta := assert_stop n
  clear hb
  refine callsD_of_wpS Tryz.func172 rfl fun c₀ cs hu => ?_
  apply wpS_seq
  apply wpS_region
  simp [wpOpsS, go_sem, recoverD, hu, Tryz.ntmps172, Exit.thenS, stopV]
  clear hu
  refine wpS_of_wp ?_
  generalize hQ : (fun e a' w' => bodyPostS _ _ _ _ _ e a' _ w') = Q
  have HQ := Lib.hid hQ
  clear hQ
  simp only [Array.replicate_succ, Array.replicate_zero, List.push_toArray, List.append_toArray, List.nil_append, List.cons_append, List.setIfInBounds_toArray, List.set]
  go_wp2
  rw [← HQ.out]
  exact ⟨rfl, _, rfl, .tuple #[], results_none rfl _ _ _, rfl, rfl, rfl⟩

theorem try1_idle (a : Value) (w : World) :
    CallsD Tryz.prog 172 #[a] .returning w fun e u' w' => e = .returned (.tuple #[]) ∧ u' = .returning ∧ w' = w := by
  refine callsD_of_wpS Tryz.func172 rfl fun c₀ cs hu => ?_
  apply wpS_seq
  apply wpS_region
  simp [wpOpsS, go_sem, recoverD, hu, Tryz.ntmps172, Exit.thenS]
  refine wpS_of_wp ?_
  generalize hQ : (fun e a' w' => bodyPostS _ _ _ _ _ e a' _ w') = Q
  have HQ := Lib.hid hQ
  have HU := Lib.hid hu
  clear hQ hu
  go_wp2
  rw [← HQ.out]
  refine ⟨rfl, .returning, ?_, .tuple #[], results_none rfl _ _ _, rfl, rfl, rfl⟩
  have := HU.out
  cases c₀
  simp_all

/-- w' is w2 but for block b; what is new lies behind. -/
structure But (b : Nat) (w w' : World) : Prop where
  os : w'.os = w.os
  tape : w'.tape = w.tape
  output : w'.output = w.output
  size : w.heap.size ≤ w'.heap.size
  block : ∀ k, k < w.heap.size → k ≠ b → w'.heap[k]? = w.heap[k]?

/-- What a function handed to Try comes to: it returns (n = 0), or breaks off with n. The result's cell at b stays what it is. -/
def Tries (b : Nat) (w1 : World) (R : Int → World → Prop) (e : Ending) (w2 : World) : Prop :=
  w2.heap[b]? = w1.heap[b]? ∧ ((∃ v, e = .returned v ∧ R 0 w2) ∨ (∃ n, n ≠ 0 ∧ e = .panicked [{ v := stopV n, recovered := false }] ∧ R n w2))

theorem heap_setCell_same {w : World} {b : Nat} {x y : Value} {t : TypeId} (h : w.heap[b]? = some (.cells #[x] t (0, 0))) : (w.setCell ⟨b, 0, none⟩ y).heap[b]? = some (.cells #[y] t (0, 0)) := by
  simp [World.setCell, Array.getElem?_modify, h]

theorem heap_alloc (w : World) (o : Obj) : (w.alloc o).heap = w.heap.push o := rfl
theorem But.refl (b : Nat) (w : World) : But b w w := ⟨rfl, rfl, rfl, Nat.le_refl _, fun _ _ _ => rfl⟩
theorem But.setCell {b : Nat} {w w' : World} (h : But b w w') (y : Value) : But b w (w'.setCell ⟨b, 0, none⟩ y) :=
  ⟨h.os, h.tape, h.output, by simpa [World.setCell] using h.size, fun k hk hne => by rw [Below.heap_setCell w' ⟨b, 0, none⟩ y k hne]; exact h.block k hk hne⟩
theorem But.alloc {b : Nat} {w w' : World} (h : But b w w') (o : Obj) : But b w (w'.alloc o) :=
  ⟨h.os, h.tape, h.output, by have := h.size; rw [heap_alloc, Array.size_push]; omega, fun k hk hne => by
    have := h.size
    rw [← h.block k hk hne]
    rw [heap_alloc, Array.getElem?_push_lt (by omega), Array.getElem?_eq_getElem (by omega)]⟩

theorem try_calls (F : FuncId) (caps : Array Value) (w : World) (R : Int → World → Prop)
    (hF : ∀ w, (callFunc F caps).run Tryz.prog w = .ok (.enter F caps) w)
    (h : Calls Tryz.prog F caps (w.alloc (.cells #[.int .i64 0] 71)) (Tries w.heap.size (w.alloc (.cells #[.int .i64 0] 71)) R)) :
    Calls Tryz.prog 94 #[.func (.func F) #[] caps] w fun e w' => ∃ n w2, e = .returned (.int .i64 n) ∧ R n w2 ∧ But w.heap.size w2 w' := by
  have hmf : ∀ (fn : Fn) (first cap : Array Value) (w : World), (Instr.makeFunc fn first cap).run Tryz.prog w = .ok (.func fn first cap) w := fun _ _ _ _ => rfl
  have H := Lib.hid h
  clear h
  go_enter_defers Tryz.func94, Tryz.ntmps94
  go_wp2_with fail
  refine H.out.mono ?_
  rintro e w2 ⟨hb, h⟩
  have hb : w2.heap[w.heap.size]? = some (.cells #[.int .i64 0] 71 (0, 0)) := by rw [hb, heap_alloc]; simp
  have hc : w2.cell? ⟨w.heap.size, 0, none⟩ = some (.int .i64 0) := by simp [World.cell?, hb]
  have hf : w2.frozen? ⟨w.heap.size, 0, none⟩ = false := by simp [World.frozen?, hb]
  have HB := Lib.hid hb
  clear hb
  rcases h with ⟨v, rfl, hr⟩ | ⟨n, hn, rfl, hr⟩
  · have HR := Lib.hid hr
    clear hr
    simp only
    go_wp2
    refine leaves_cons (f := 172) (args := #[.pointer (some ⟨w.heap.size, 0, none⟩)]) (by simp) (by simp [go_sem]) ?_
    refine (try1_idle _ _).mono ?_
    rintro e u' w'' ⟨rfl, rfl, rfl⟩
    refine ⟨.int .i64 0, ?_, 0, w2, rfl, HR.out, (But.refl _ _).setCell _⟩
    simp [results, Tryz.results94, go_sem, hc, hf]
  · have HR := Lib.hid hr
    clear hr
    refine leaves_cons (f := 172) (args := #[.pointer (some ⟨w.heap.size, 0, none⟩)]) (by simp) (by simp [go_sem]) ?_
    refine (try1_panic _ n 0 [] _ HB.out).mono ?_
    rintro e u' w'' ⟨rfl, rfl, rfl⟩
    have h1 := heap_setCell_same (y := .int .i64 n) HB.out
    have h2 := lt_of_block HB.out
    refine ⟨.int .i64 n, ?_, n, w2, rfl, HR.out, ((But.refl _ _).setCell _).alloc _⟩
    simp [results, Tryz.results94, go_sem, hc, hf, h2]
end Go.Proofs.YtnmhicgbdalniaaGreatDoor
namespace Go.Proofs.YtnmhicgbdalniaaGreatDoor
open Go.RowKit

theorem But.below {b B : Nat} {w w' : World} (h : But b w w') (hb : B ≤ b) (hB : B ≤ w.heap.size) : Below B w w' :=
  ⟨h.os, h.tape, h.output, h.size, fun k hk => h.block k (by omega) (by omega)⟩
theorem vw_but {b : Nat} {w w' : World} {M : List Nat} (h : But b w w') (hm : b ∈ M) : (vw w M).le (vw w' M) := fun k o hk => by
  obtain ⟨h1, h2⟩ := vw_eq hk
  exact vw_mk h1 ((h.block k (blk_lt h2) (fun e => h1 (e ▸ hm))).trans h2)
theorem stop_ok (w : World) : Calls Tryz.prog 151 #[.int .i64 0] w fun e w' => e = .returned (.tuple #[]) ∧ w' = w := by
  go_enter Tryz.func151, Tryz.ntmps151
  go_wp2
  go_end0
  exact ⟨rfl, rfl⟩
theorem stop_bad (n : Int) (w : World) (h : n ≠ 0) : Calls Tryz.prog 151 #[.int .i64 n] w fun e w' => e = .panicked [{ v := stopV n, recovered := false }] ∧ w' = w := by
  have hb : (n != 0) = true := by simpa using h
  clear h
  go_enter Tryz.func151, Tryz.ntmps151
  go_wp2
  exact ⟨rfl, rfl, rfl⟩
end Go.Proofs.YtnmhicgbdalniaaGreatDoor
namespace Go.Proofs.YtnmhicgbdalniaaGreatDoor
open Go.RowKit

/-! A struct that lies in a block of the call's own: written whole, handed back. -/
theorem setCells_far (b : Nat) : ∀ (cs : List Value) (o : Nat) (w : World) (k : Nat), k ≠ b → (w.setCells b o cs).heap[k]? = w.heap[k]?
  | [], _, _, _, _ => rfl
  | v :: r, o, w, k, h => by rw [World.setCells, setCells_far b r (o + 1) _ k h]; exact Below.heap_setCell w ⟨b, o, none⟩ v k h
theorem setCells_same (b : Nat) {T : TypeId} {fr : Nat × Nat} : ∀ (cs : List Value) (o : Nat) (w : World) (old : List Value), w.heap[b]? = some (.cells old.toArray T fr) → o + cs.length = old.length →
    (w.setCells b o cs).heap[b]? = some (.cells (old.take o ++ cs).toArray T fr)
  | [], o, w, old, h, hl => by
    rw [World.setCells, h, List.append_nil, List.take_of_length_le (by simp at hl; omega)]
  | v :: r, o, w, old, h, hl => by
    simp only [List.length_cons] at hl
    have h1 : (w.setCell ⟨b, o, none⟩ v).heap[b]? = some (.cells (old.set o v).toArray T fr) := by
      simp [World.setCell, Array.getElem?_modify, h]
    rw [World.setCells, setCells_same b r (o + 1) _ _ h1 (by rw [List.length_set]; omega)]
    congr 3
    rw [List.take_set, List.take_succ_eq_append_getElem (by omega), List.set_append_right _ _ (by simp; omega)]
    simp [List.length_take, show min o old.length = o by omega]
theorem setCells_size (b : Nat) : ∀ (cs : List Value) (o : Nat) (w : World), (w.setCells b o cs).heap.size = w.heap.size
  | [], _, _ => rfl
  | v :: r, o, w => by rw [World.setCells, setCells_size b r (o + 1)]; simp [World.setCell]
theorem setCells_all {w : World} {b : Nat} {T : TypeId} {fr : Nat × Nat} {old cs : List Value} (h : w.heap[b]? = some (.cells old.toArray T fr)) (hl : cs.length = old.length) : (w.setCells b 0 cs).heap[b]? = some (.cells cs.toArray T fr) := by
  have := setCells_same b cs 0 w old h (by omega)
  simpa using this
theorem Below.setCells {B : Nat} {w0 w : World} (h : Below B w0 w) {b : Nat} (hb : B ≤ b) : ∀ (cs : List Value) (o : Nat), Below B w0 (w.setCells b o cs) := by
  intro cs
  induction cs generalizing w with
  | nil => exact fun _ => h
  | cons v r ih => exact fun o => ih (h.setCell hb v) (o + 1)
theorem there_block {w : World} {b : Nat} {T : TypeId} {cs : List Value} (h : w.heap[b]? = some (.cells cs.toArray T (0, 0))) (n : Nat) (hn : n ≤ cs.length) : w.there b 0 n := fun j hj => by
  rw [Nat.zero_add]
  exact ⟨by rw [cell_of_row w b j _ _ _ h]; simp; omega, by simp [World.frozen?, h]⟩
theorem setCells_below {w : World} {b : Nat} (cs : List Value) (o : Nat) {B : Nat} (hb : B ≤ b) : Below B w (w.setCells b o cs) := Below.setCells (Below.refl _ _) hb cs o
section
variable {P : Program} {fn : Func} {R : Ending → World → Prop} {a : Act} {w : World} {p q r : Tmp} {ty T : TypeId} {g : Nat} {cs : List Value} {d : TypeDesc}
theorem ret_row1 (hr : fn.results = #[.cell p ty]) (hp : a.tmps.getD p undef = .pointer (some ⟨g, 0, none⟩)) (hg : w.heap[g]? = some (.cells cs.toArray T (0, 0))) (hu : P.underlying ty = some d) (hd : d.isRow = true)
    (hi : (P.info? ty).map (·.size) = some cs.length) (hdf : a.defers = []) (hR : R (.returned (.agg cs.toArray)) w) : bodyPost P fn R .ret a w := by
  refine bodyPost_ret (v := .agg cs.toArray) ?_ hdf hR
  have h1 := run_loadVar_mid w g 0 ty cs d (range_block hg) hu hd hi
  have hp' : a.tmps[p]?.getD undef = .pointer (some ⟨g, 0, none⟩) := by simpa using hp
  simp [results, hr, hp', asAddr, h1]
theorem ret_row2 (hr : fn.results = #[.cell p ty, .tmp q]) (hp : a.tmps.getD p undef = .pointer (some ⟨g, 0, none⟩)) (hg : w.heap[g]? = some (.cells cs.toArray T (0, 0))) (hu : P.underlying ty = some d) (hd : d.isRow = true)
    (hi : (P.info? ty).map (·.size) = some cs.length) (hdf : a.defers = []) (hR : R (.returned (.tuple #[.agg cs.toArray, a.tmps.getD q undef])) w) : bodyPost P fn R .ret a w := by
  refine bodyPost_ret (v := .tuple #[.agg cs.toArray, a.tmps.getD q undef]) ?_ hdf hR
  have h1 := run_loadVar_mid w g 0 ty cs d (range_block hg) hu hd hi
  have hp' : a.tmps[p]?.getD undef = .pointer (some ⟨g, 0, none⟩) := by simpa using hp
  simp [results, hr, hp', asAddr, h1]
theorem ret_row3 (hr : fn.results = #[.cell p ty, .tmp q, .tmp r]) (hp : a.tmps.getD p undef = .pointer (some ⟨g, 0, none⟩)) (hg : w.heap[g]? = some (.cells cs.toArray T (0, 0))) (hu : P.underlying ty = some d) (hd : d.isRow = true)
    (hi : (P.info? ty).map (·.size) = some cs.length) (hdf : a.defers = []) (hR : R (.returned (.tuple #[.agg cs.toArray, a.tmps.getD q undef, a.tmps.getD r undef])) w) : bodyPost P fn R .ret a w := by
  refine bodyPost_ret (v := .tuple #[.agg cs.toArray, a.tmps.getD q undef, a.tmps.getD r undef]) ?_ hdf hR
  have h1 := run_loadVar_mid w g 0 ty cs d (range_block hg) hu hd hi
  have hp' : a.tmps[p]?.getD undef = .pointer (some ⟨g, 0, none⟩) := by simpa using hp
  simp [results, hr, hp', asAddr, h1]
end
end Go.Proofs.YtnmhicgbdalniaaGreatDoor
namespace Go.Proofs.YtnmhicgbdalniaaGreatDoor
open Go.RowKit

theorem drewN_below (w : World) (n : Nat) : Below w.heap.size w (w.drewN n) := below_drewN (Below.refl _ _) n
theorem alloc_below (w : World) (o : Obj) : Below w.heap.size w (w.alloc o) := (Below.refl _ _).alloc (Nat.le_refl _) o
theorem Below.then {w w1 w2 : World} (h : Below w.heap.size w w1) (k : Below w1.heap.size w1 w2) : Below w.heap.size w w2 := h.trans (k.mono h.size)
theorem Below.thenN {B : Nat} {w w1 w2 : World} (h : Below B w w1) (hB : B ≤ w1.heap.size) (k : Below w1.heap.size w1 w2) : Below B w w2 := h.trans (k.mono hB)
theorem empty_beq (a : ByteArray) : (a.toList.isEmpty) = decide (a = ⟨#[]⟩) := by
  have h1 := Lib.bytes_beq_false_iff a ⟨#[]⟩
  have h0 : (⟨#[]⟩ : ByteArray).toList = [] := by unfold ByteArray.toList ByteArray.toList.loop; rfl
  rw [h0] at h1
  by_cases h : a = ⟨#[]⟩
  · rw [decide_eq_true h, h, h0]; rfl
  · have := h1.2 h
    rw [decide_eq_false h]
    cases he : a.toList with
    | nil => rw [he] at this; cases this
    | cons _ _ => rfl
def getV : List Pair → ByteArray → ByteArray × Bool
  | [], _ => (⟨#[]⟩, false)
  | p :: r, k => if p.key = k then (p.val, true) else getV r k
def zNd : Nd := ⟨⟨#[]⟩, [], [], [], false⟩
def findV : List Nd → ByteArray → Nd × Bool
  | [], _ => (zNd, false)
  | n :: r, k => if n.name = k then (n, true) else findV r k
theorem getV_at {l : List Pair} {j : Nat} (h : j < l.length) (key : ByteArray) : getV (l.drop j) key = if l[j].key = key then (l[j].val, true) else getV (l.drop (j + 1)) key := by
  rw [List.drop_eq_getElem_cons h]; rfl
theorem findV_at {l : List Nd} {j : Nat} (h : j < l.length) (key : ByteArray) : findV (l.drop j) key = if l[j].name = key then (l[j], true) else findV (l.drop (j + 1)) key := by
  rw [List.drop_eq_getElem_cons h]; rfl
theorem blk_all {w : World} {p : Nat} {cs : Array Value} {T : TypeId} (h : w.heap[p]? = some (.cells cs T (0, 0))) : (∀ j, w.cell? ⟨p, j, none⟩ = cs[j]?) ∧ ∀ j, w.frozen? ⟨p, j, none⟩ = false :=
  ⟨fun j => cell_of_row w p j _ _ _ h, fun j => by simp [World.frozen?, h]⟩
theorem blk_set {w : World} {p j : Nat} {cs : Array Value} {T : TypeId} {fr : Nat × Nat} (h : w.heap[p]? = some (.cells cs T fr)) (u : Value) : (w.setCell ⟨p, j, none⟩ u).heap[p]? = some (.cells (cs.setIfInBounds j u) T fr) := by
  simp [World.setCell, Array.getElem?_modify, h]
theorem ret_sb {a : ByteArray} {b : Bool} {r : ByteArray × Bool} (h : (a, b) = r) : Ending.returned (.tuple #[.string a, .bool b]) = .returned (.tuple #[.string r.1, .bool r.2]) := by rw [← h]
def GetDone (l : List Pair) (key : ByteArray) (w : World) (e : Ending) (w' : World) : Prop := e = .returned (.tuple #[.string (getV l key).1, .bool (getV l key).2]) ∧ Below w.heap.size w w'
def FindDone (l : List Nd) (key : ByteArray) (w : World) (e : Ending) (w' : World) : Prop := ∃ cs, e = .returned (.tuple #[.agg cs.toArray, .bool (findV l key).2]) ∧ Kd.node.K (vw w' []) (findV l key).1 cs ∧ Below w.heap.size w w'
set_option maxHeartbeats 1000000 in
theorem Get_calls (v : Value) (l : List Pair) (key : ByteArray) (w : World) (hs : Kd.pair.S (vw w []) v l) :
    Calls Tryz.prog 255 #[v, .string key] w (GetDone l key w) := by
  obtain ⟨A, cap, rfl, hs⟩ := hs.val
  obtain ⟨_, hcap, hlen⟩ := hs.form
  have HS := Lib.hid hs
  clear hs
  go_enter Tryz.func255, Tryz.ntmps255
  go_wp2
  go_loopw [10] (fun i wr => ∃ k : Nat, k ≤ l.length ∧ i = .int .i64 k ∧ Hid (getV (l.drop k) key = getV l key) ∧ Hid (Below w.heap.size w wr)) (fun i _ => l.length - (intOf i).toNat)
  case atStart => exact ⟨0, Nat.zero_le _, rfl, rfl, Below.refl _ _⟩
  case round =>
    obtain ⟨k, hk, rfl, HG, HB⟩ := hrel
    by_cases hlt : k < l.length
    · obtain ⟨b, off, rfl, hc, _⟩ := (HS.out.mono (vw_below HB.out)).elemN k hlt
      have c0 : wr.cell? ⟨b, off + k * 2, none⟩ = some (.string l[k].key) := hc 0 _ rfl
      have c1 : wr.cell? ⟨b, off + k * 2 + 1, none⟩ = some (.string l[k].val) := hc 1 _ rfl
      have hg := HG.out
      rw [getV_at hlt] at hg
      have HG2 := Lib.hid hg
      clear hg hc HG
      by_cases he : l[k].key = key
      · have hb := str_beq he
        have hr := HG2.out
        rw [if_pos he] at hr
        have HR := Lib.hid hr
        clear he hr
        go_wp2
        go_ret2
        exact ⟨ret_sb HR.out, HB.out.alloc HB.out.size _⟩
      · have hb := str_nbeq he
        have hr := HG2.out
        rw [if_neg he] at hr
        have HR := Lib.hid hr
        clear he hr
        go_wp2
        go_roundw
        case rel => exact ⟨k + 1, by omega, by go_num, HR.out, HB.out.alloc HB.out.size _⟩
        case measure => simp [intOf]; omega
    · obtain rfl : k = l.length := by omega
      have hr := HG.out
      rw [List.drop_length] at hr
      have HR := Lib.hid hr
      clear hr
      go_wp2
      go_ret2
      exact ⟨ret_sb HR.out, HB.out⟩
def GetSame (l : List Pair) (key : ByteArray) (w : World) (e : Ending) (w' : World) : Prop := e = .returned (.tuple #[.string (getV l key).1, .bool (getV l key).2]) ∧ w = w'
set_option maxHeartbeats 1000000 in
theorem Label_calls (v : Value) (l : List Pair) (key : ByteArray) (w : World) (hs : Kd.pair.S (vw w []) v l) :
    Calls Tryz.prog 217 #[v, .string key] w (GetSame l key w) := by
  obtain ⟨A, cap, rfl, hs⟩ := hs.val
  obtain ⟨_, hcap, hlen⟩ := hs.form
  have HS := Lib.hid hs
  clear hs
  go_enter Tryz.func217, Tryz.ntmps217
  go_wp2
  go_loop [6] (fun i => ∃ k : Nat, k ≤ l.length ∧ i = .int .i64 k ∧ Hid (getV (l.drop k) key = getV l key)) (fun i => l.length - (intOf i).toNat)
  case atStart => exact ⟨0, Nat.zero_le _, rfl, rfl⟩
  case round =>
    obtain ⟨k, hk, rfl, HG⟩ := hrel
    by_cases hlt : k < l.length
    · obtain ⟨b, off, rfl, hc, _⟩ := HS.out.elemN k hlt
      have c0 : w.cell? ⟨b, off + k * 2, none⟩ = some (.string l[k].key) := hc 0 _ rfl
      have c1 : w.cell? ⟨b, off + k * 2 + 1, none⟩ = some (.string l[k].val) := hc 1 _ rfl
      have hg := HG.out
      rw [getV_at hlt] at hg
      have HG2 := Lib.hid hg
      clear hg hc HG
      by_cases he : l[k].key = key
      · have hb := str_beq he
        have hr := HG2.out
        rw [if_pos he] at hr
        have HR := Lib.hid hr
        clear he hr
        go_wp2
        go_ret2
        exact ⟨ret_sb HR.out, rfl⟩
      · have hb := str_nbeq he
        have hr := HG2.out
        rw [if_neg he] at hr
        have HR := Lib.hid hr
        clear he hr
        go_wp2
        go_round
        case rel => exact ⟨k + 1, by omega, by go_num, HR.out⟩
        case measure => simp [intOf]; omega
    · obtain rfl : k = l.length := by omega
      have hr := HG.out
      rw [List.drop_length] at hr
      have HR := Lib.hid hr
      clear hr
      go_wp2
      go_ret2
      exact ⟨ret_sb HR.out, rfl⟩
theorem K_zNd (h : View) : Kd.node.K h zNd [.string ⟨#[]⟩, .slice none 0 0, .slice none 0 0, .slice none 0 0, .bool false] :=
  ⟨none, 0, none, 0, none, 0, rfl, Nat.zero_le _, Kd.S.nil _ _, Kd.S.nil _ _, Kd.S.nil _ _⟩
set_option maxHeartbeats 1000000 in
set_option maxRecDepth 100000 in
theorem Find_calls (v : Value) (l : List Nd) (key : ByteArray) (w : World) (hs : Kd.node.S (vw w []) v l) :
    Calls Tryz.prog 96 #[v, .string key] w (FindDone l key w) := by
  obtain ⟨A, cap, rfl, hs⟩ := hs.val
  obtain ⟨_, hcap, hlen⟩ := hs.form
  have HS := Lib.hid hs
  clear hs
  go_enter Tryz.func96, Tryz.ntmps96
  go_wp2
  go_loopw [10] (fun i wr => ∃ k : Nat, k ≤ l.length ∧ i = .int .i64 k ∧ Hid (findV (l.drop k) key = findV l key) ∧ Hid (Below w.heap.size w wr) ∧ Hid (wr.heap[w.heap.size]? = some (.cells #[.string ⟨#[]⟩, .slice none 0 0, .slice none 0 0, .slice none 0 0, .bool false] 94 (0, 0)))) (fun i _ => l.length - (intOf i).toNat)
  case atStart => exact ⟨0, Nat.zero_le _, rfl, rfl, alloc_below _ _, blk_last _ _⟩
  case round =>
    obtain ⟨k, hk, rfl, HG, HB, HR0⟩ := hrel
    obtain ⟨z1, z2⟩ := blk_all HR0.out
    have z3 := blk_lt HR0.out
    by_cases hlt : k < l.length
    · obtain ⟨b, off, cs, rfl, hn, hc⟩ := HS.out.both HB.out k hlt
      have HN := Lib.hid hn
      obtain ⟨A1, d1, A2, d2, A3, d3, rfl, -⟩ := hn
      have hg := HG.out
      rw [findV_at hlt] at hg
      have HG2 := Lib.hid hg
      have HC : Hid (wr.rangeAt b (off + k * 5) _) := hc
      clear hg hc HG
      by_cases he : l[k].name = key
      · have hb := str_beq he
        have hr := HG2.out
        rw [if_pos he] at hr
        have HR := Lib.hid hr
        clear he hr
        go_wp2_with (with_reducible refine wpList_load_mid rfl 94 _ rfl b (off + k * 5) rfl _ _ HC.out Tryz.underlying94 rfl (by kernel_rfl) ?_)
        have hbl := Below.alloc (Below.setCell (Below.setCell (Below.setCell (Below.setCell (Below.setCell HB.out (p := ⟨w.heap.size, 0, none⟩) (Nat.le_refl _) (.string l[k].name)) (p := ⟨w.heap.size, 1, none⟩) (Nat.le_refl _) (.slice A1 l[k].cap.length d1)) (p := ⟨w.heap.size, 2, none⟩) (Nat.le_refl _) (.slice A2 l[k].labels.length d2)) (p := ⟨w.heap.size, 3, none⟩) (Nat.le_refl _) (.slice A3 l[k].taints.length d3)) (p := ⟨w.heap.size, 4, none⟩) (Nat.le_refl _) (.bool l[k].cordon)) (by simp [World.setCell]; omega) (.cells #[.string l[k].name, .slice A1 l[k].cap.length d1, .slice A2 l[k].labels.length d2, .slice A3 l[k].taints.length d3, .bool l[k].cordon] 94)
        have hx := Kd.node.mono (vw_below hbl) HN.out
        refine ret_row2 (cs := [.string l[k].name, .slice A1 l[k].cap.length d1, .slice A2 l[k].labels.length d2, .slice A3 l[k].taints.length d3, .bool l[k].cordon]) rfl rfl
          ((blk_old _ _ (by simpa [World.setCell] using z3)).trans ((blk_set (blk_set (blk_set (blk_set (blk_set HR0.out _) _) _) _) _).trans rfl)) Tryz.underlying94 rfl (by kernel_rfl) rfl
          ⟨[.string l[k].name, .slice A1 l[k].cap.length d1, .slice A2 l[k].labels.length d2, .slice A3 l[k].taints.length d3, .bool l[k].cordon], ?_, ?_, hbl⟩
        · rw [← HR.out]; rfl
        · rw [← HR.out]; exact hx
      · have hb := str_nbeq he
        have hr := HG2.out
        rw [if_neg he] at hr
        have HR := Lib.hid hr
        clear he hr z1 z2
        go_wp2_with (with_reducible refine wpList_load_mid rfl 94 _ rfl b (off + k * 5) rfl _ _ HC.out Tryz.underlying94 rfl (by kernel_rfl) ?_)
        go_roundw
        case rel => exact ⟨k + 1, by omega, by go_num, HR.out, HB.out.alloc HB.out.size _, (blk_old _ _ z3).trans HR0.out⟩
        case measure => simp [intOf]; omega
    · obtain rfl : k = l.length := by omega
      have hr := HG.out
      rw [List.drop_length] at hr
      have HR := Lib.hid hr
      clear hr
      go_wp2
      have hbl := Below.setCell (Below.setCell (Below.setCell (Below.setCell (Below.setCell HB.out (p := ⟨w.heap.size, 0, none⟩) (Nat.le_refl _) (.string ⟨#[]⟩)) (p := ⟨w.heap.size, 1, none⟩) (Nat.le_refl _) (.slice none 0 0)) (p := ⟨w.heap.size, 2, none⟩) (Nat.le_refl _) (.slice none 0 0)) (p := ⟨w.heap.size, 3, none⟩) (Nat.le_refl _) (.slice none 0 0)) (p := ⟨w.heap.size, 4, none⟩) (Nat.le_refl _) (.bool false)
      refine ret_row2 (cs := [.string ⟨#[]⟩, .slice none 0 0, .slice none 0 0, .slice none 0 0, .bool false]) rfl rfl
        ((blk_set (blk_set (blk_set (blk_set (blk_set HR0.out _) _) _) _) _).trans rfl) Tryz.underlying94 rfl (by kernel_rfl) rfl
        ⟨[.string ⟨#[]⟩, .slice none 0 0, .slice none 0 0, .slice none 0 0, .bool false], ?_, ?_, hbl⟩
      · rw [← HR.out]; rfl
      · rw [← HR.out]; exact K_zNd _
end Go.Proofs.YtnmhicgbdalniaaGreatDoor
namespace Go.Proofs.YtnmhicgbdalniaaGreatDoor
open Go.RowKit

/-! cmp.Or of two numbers. -/
def or2 (a b : Int) : Int := if a ≠ 0 then a else b
set_option maxHeartbeats 2000000 in
theorem Or2_calls (g : Nat) (T : TypeId) (a b : Int) (w : World) (h : w.heap[g]? = some (.cells #[.int .i64 a, .int .i64 b] T (0, 0))) :
    Calls Tryz.prog 136 #[.slice (some ⟨g, 0, none⟩) 2 2] w fun e w' => e = .returned (.int .i64 (or2 a b)) ∧ w' = w := by
  obtain ⟨z, zf⟩ := blk_all h
  have z0 : w.cell? ⟨g, 0, none⟩ = some (.int .i64 a) := z 0
  have z1 : w.cell? ⟨g, 1, none⟩ = some (.int .i64 b) := z 1
  clear z h
  go_enter Tryz.func136, Tryz.ntmps136
  go_wp2
  go_loop [8] (fun i => ∃ k : Nat, k ≤ 2 ∧ i = .int .i64 k ∧ (0 < k → a = 0) ∧ (1 < k → b = 0)) (fun i => 2 - (intOf i).toNat)
  case atStart => exact ⟨0, by omega, rfl, fun h => by omega, fun h => by omega⟩
  case round =>
    obtain ⟨k, hk, rfl, ha, hb⟩ := hrel
    have hc : k = 0 ∨ k = 1 ∨ k = 2 := by omega
    rcases hc with rfl | rfl | rfl
    · clear ha hb hk
      by_cases h0 : a = 0
      · subst h0
        go_wp2
        go_round
        case rel => exact ⟨1, by omega, by go_num, fun _ => by simp, fun h => by omega⟩
        case measure => simp [intOf]
      · have t1 : (a == 0) = false := by simp [h0]
        have HO : Hid (or2 a b = a) := by show _ = _; unfold or2; rw [if_pos h0]
        clear h0
        go_wp2
        go_ret
        exact ⟨by rw [HO.out]; rfl, rfl⟩
    · have ha := ha (by omega)
      clear hb hk
      subst ha
      by_cases h0 : b = 0
      · subst h0
        go_wp2
        go_round
        case rel => exact ⟨2, by omega, by go_num, fun _ => by simp, fun _ => by simp⟩
        case measure => simp [intOf]
      · have t1 : (b == 0) = false := by simp [h0]
        have HO : Hid (or2 0 b = b) := rfl
        clear h0
        go_wp2
        go_ret
        exact ⟨by rw [HO.out]; rfl, rfl⟩
    · have ha := ha (by omega)
      have hb := hb (by omega)
      clear hk
      subst ha hb
      go_wp2
      go_ret
      exact ⟨rfl, rfl⟩
end Go.Proofs.YtnmhicgbdalniaaGreatDoor
namespace Go.Proofs.YtnmhicgbdalniaaGreatDoor
open Go.RowKit

set_option maxHeartbeats 2000000 in
set_option maxRecDepth 100000 in
theorem FindNode_calls (v : Value) (l : List Nd) (key : ByteArray) (w : World) (hs : Kd.node.S (vw w []) v l) :
    Calls Tryz.prog 129 #[v, .string key] w (FindDone l key w) := by
  obtain ⟨A, cap, rfl, hs⟩ := hs.val
  obtain ⟨_, hcap, hlen⟩ := hs.form
  have HS := Lib.hid hs
  have hB := alloc_below w (.cells #[.string ⟨#[]⟩, .slice none 0 0, .slice none 0 0, .slice none 0 0, .bool false] 150)
  have HB := Lib.hid hB
  have HR0 := Lib.hid (blk_last w (.cells #[.string ⟨#[]⟩, .slice none 0 0, .slice none 0 0, .slice none 0 0, .bool false] 150))
  clear hs hB
  go_enter Tryz.func129, Tryz.ntmps129
  go_wp2
  generalize hW : w.alloc (.cells #[.string ⟨#[]⟩, .slice none 0 0, .slice none 0 0, .slice none 0 0, .bool false] 150) = W at HB HR0 ⊢
  clear hW
  obtain ⟨z1, z2⟩ := blk_all HR0.out
  go_loop [6] (fun i => ∃ k : Nat, k ≤ l.length ∧ i = .int .i64 k ∧ Hid (findV (l.drop k) key = findV l key)) (fun i => l.length - (intOf i).toNat)
  case atStart => exact ⟨0, Nat.zero_le _, rfl, rfl⟩
  case round =>
    obtain ⟨k, hk, rfl, HG⟩ := hrel
    by_cases hlt : k < l.length
    · obtain ⟨b, off, cs, rfl, hn, hc⟩ := HS.out.both HB.out k hlt
      have HN := Lib.hid hn
      obtain ⟨A1, d1, A2, d2, A3, d3, rfl, -⟩ := hn
      have hg := HG.out
      rw [findV_at hlt] at hg
      have HG2 := Lib.hid hg
      have HC : Hid (W.rangeAt b (off + k * 5) _) := hc
      have c0 : W.cell? ⟨b, off + k * 5, none⟩ = some (.string l[k].name) := hc 0 _ rfl
      clear hg hc HG
      by_cases he : l[k].name = key
      · have hb := str_beq he
        have hr := HG2.out
        rw [if_pos he] at hr
        have HR := Lib.hid hr
        clear he hr
        go_wp2_with (with_reducible refine wpList_load_mid rfl 150 _ rfl b (off + k * 5) rfl _ _ HC.out Tryz.underlying150 rfl (by kernel_rfl) ?_)
        have hbl := Below.setCell (Below.setCell (Below.setCell (Below.setCell (Below.setCell HB.out (p := ⟨w.heap.size, 0, none⟩) (Nat.le_refl _) (.string l[k].name)) (p := ⟨w.heap.size, 1, none⟩) (Nat.le_refl _) (.slice A1 l[k].cap.length d1)) (p := ⟨w.heap.size, 2, none⟩) (Nat.le_refl _) (.slice A2 l[k].labels.length d2)) (p := ⟨w.heap.size, 3, none⟩) (Nat.le_refl _) (.slice A3 l[k].taints.length d3)) (p := ⟨w.heap.size, 4, none⟩) (Nat.le_refl _) (.bool l[k].cordon)
        have hx := Kd.node.mono (vw_below hbl) HN.out
        refine ret_row2 (cs := [.string l[k].name, .slice A1 l[k].cap.length d1, .slice A2 l[k].labels.length d2, .slice A3 l[k].taints.length d3, .bool l[k].cordon]) rfl rfl
          ((blk_set (blk_set (blk_set (blk_set (blk_set HR0.out _) _) _) _) _).trans rfl) Tryz.underlying150 rfl (by kernel_rfl) rfl
          ⟨[.string l[k].name, .slice A1 l[k].cap.length d1, .slice A2 l[k].labels.length d2, .slice A3 l[k].taints.length d3, .bool l[k].cordon], ?_, ?_, hbl⟩
        · rw [← HR.out]; rfl
        · rw [← HR.out]; exact hx
      · have hb := str_nbeq he
        have hr := HG2.out
        rw [if_neg he] at hr
        have HR := Lib.hid hr
        clear he hr
        go_wp2
        go_round
        case rel => exact ⟨k + 1, by omega, by go_num, HR.out⟩
        case measure => simp [intOf]; omega
    · obtain rfl : k = l.length := by omega
      have hr := HG.out
      rw [List.drop_length] at hr
      have HR := Lib.hid hr
      clear hr
      go_wp2
      have hbl := Below.setCell (Below.setCell (Below.setCell (Below.setCell (Below.setCell HB.out (p := ⟨w.heap.size, 0, none⟩) (Nat.le_refl _) (.string ⟨#[]⟩)) (p := ⟨w.heap.size, 1, none⟩) (Nat.le_refl _) (.slice none 0 0)) (p := ⟨w.heap.size, 2, none⟩) (Nat.le_refl _) (.slice none 0 0)) (p := ⟨w.heap.size, 3, none⟩) (Nat.le_refl _) (.slice none 0 0)) (p := ⟨w.heap.size, 4, none⟩) (Nat.le_refl _) (.bool false)
      refine ret_row2 (cs := [.string ⟨#[]⟩, .slice none 0 0, .slice none 0 0, .slice none 0 0, .bool false]) rfl rfl
        ((blk_set (blk_set (blk_set (blk_set (blk_set HR0.out _) _) _) _) _).trans rfl) Tryz.underlying150 rfl (by kernel_rfl) rfl
        ⟨[.string ⟨#[]⟩, .slice none 0 0, .slice none 0 0, .slice none 0 0, .bool false], ?_, ?_, hbl⟩
      · rw [← HR.out]; rfl
      · rw [← HR.out]; exact K_zNd _

theorem find_none : ∀ {l : List Nd} {k : ByteArray}, (findV l k).2 = false → (findV l k).1 = zNd
  | [], _, _ => rfl
  | n :: r, k, h => by
    unfold findV at *
    by_cases e : n.name = k
    · rw [if_pos e] at h; cases h
    · rw [if_neg e] at h ⊢; exact find_none h
/-- A node's value of a label. -/
def domV (s : St) (name key : ByteArray) : ByteArray × Bool := getV (findV s.nodes name).1.labels key
def DomDone (s : St) (name key : ByteArray) (w : World) (e : Ending) (w' : World) : Prop :=
  Below w.heap.size w w' ∧ (((domV s name key).2 = true ∧ e = .returned (.string (domV s name key).1)) ∨ ((domV s name key).2 = false ∧ e = .panicked [{ v := stopV 10, recovered := false }]))
set_option maxHeartbeats 2000000 in
set_option maxRecDepth 100000 in
theorem domain_calls (v : Value) (s : St) (name key : ByteArray) (w : World) (hv : Kd.state.V (vw w []) v s) :
    Calls Tryz.prog 177 #[v, .string name, .string key] w (DomDone s name key w) := by
  obtain ⟨cs, rfl, A1, c1, A2, c2, A3, c3, rfl, s1, s2, s3⟩ := hv
  have S1 := Lib.hid s1
  clear s1 s2 s3
  go_enter Tryz.func177, Tryz.ntmps177
  go_wp2_with fail
  refine (Find_calls _ s.nodes name _ (S1.out.mono (vw_alloc _))).mono ?_
  rintro e w1 ⟨cs, rfl, hk, hb⟩
  obtain ⟨B1, d1, B2, d2, B3, d3, rfl, -, -, t2, -⟩ := hk
  have HB := Lib.hid (Below.then (alloc_below _ _) hb)
  have T2 := Lib.hid t2
  clear hb t2
  go_wp2_with fail
  refine (Get_calls _ (findV s.nodes name).1.labels key _ (T2.out.mono (vw_alloc _))).mono ?_
  rintro e w2 ⟨rfl, hb⟩
  have HB2 := Lib.hid (Below.then (Below.then HB.out (alloc_below _ _)) hb)
  clear hb
  obtain ⟨d, ok, hd⟩ : ∃ d ok, getV (findV s.nodes name).1.labels key = (d, ok) := ⟨_, _, rfl⟩
  have hdom : domV s name key = (d, ok) := hd
  have HD := Lib.hid hdom
  rw [hd]
  clear hd hdom
  simp only
  cases ok with
  | true =>
    go_wp2
    go_ret
    exact ⟨HB2.out, .inl ⟨by rw [HD.out], by rw [HD.out]; rfl⟩⟩
  | false =>
    go_wp2_with (go_at_call 151; refine (stop_bad _ _ (by omega)).mono ?_; rintro e w' ⟨rfl, rfl⟩)
    exact ⟨rfl, HB2.out, .inr ⟨by rw [HD.out], rfl⟩⟩
end Go.Proofs.YtnmhicgbdalniaaGreatDoor
namespace Go.Proofs.YtnmhicgbdalniaaGreatDoor
open Go.RowKit

def inDom (s : St) (node key dom : ByteArray) : Bool := (domV s node key).2 && decide ((domV s node key).1 = dom)
/-- It tells, or breaks off. -/
def StopUnless (c : Bool) (n : Int) (w : World) (e : Ending) (w' : World) : Prop :=
  Below w.heap.size w w' ∧ ((c = true ∧ e = .returned (.tuple #[])) ∨ (c = false ∧ e = .panicked [{ v := stopV n, recovered := false }]))
set_option maxHeartbeats 2000000 in
set_option maxRecDepth 100000 in
theorem count1_calls (b3 b9 b4 b5 : Nat) (s : St) (node key dom : ByteArray) (cs : List Value) (w : World) (h3 : w.heap[b3]? = some (.cells cs.toArray 26 (0, 0))) (hk : Kd.state.K (vw w []) s cs)
    (h9 : w.cell? ⟨b9, 9, none⟩ = some (.string node)) (h4 : w.cell? ⟨b4, 7, none⟩ = some (.string key)) (h5 : w.cell? ⟨b5, 0, none⟩ = some (.string dom)) :
    Calls Tryz.prog 256 #[.pointer (some ⟨b3, 0, none⟩), .pointer (some ⟨b9, 0, none⟩), .pointer (some ⟨b4, 0, none⟩), .pointer (some ⟨b5, 0, none⟩)] w (StopUnless (inDom s node key dom) 10 w) := by
  have hv : Kd.state.V (vw w []) (.agg cs.toArray) s := ⟨cs, rfl, hk⟩
  obtain ⟨A1, c1, A2, c2, A3, c3, rfl, -⟩ := hk
  obtain ⟨z, zf⟩ := blk_all h3
  have HV : Hid (Kd.state.V (vw w.drew []) (.agg #[.slice A1 s.nodes.length c1, .slice A2 s.pods.length c2, .slice A3 s.budgets.length c3]) s) := hv
  have l5 := World.block_lt_of_cell? w _ h5
  have l3 := blk_lt h3
  have q0 : w.cell? ⟨b3, 0, none⟩ = some (.slice A1 s.nodes.length c1) := z 0
  have q1 : w.cell? ⟨b3, 1, none⟩ = some (.slice A2 s.pods.length c2) := z 1
  have q2 : w.cell? ⟨b3, 2, none⟩ = some (.slice A3 s.budgets.length c3) := z 2
  clear hv h3 z
  obtain ⟨d, ok, hd⟩ : ∃ d ok, domV s node key = (d, ok) := ⟨_, _, rfl⟩
  have HD := Lib.hid hd
  have hin : inDom s node key dom = (ok && decide (d = dom)) := by unfold inDom; rw [hd]
  rw [hin]
  clear hin hd
  cases ok with
  | false =>
    go_enter Tryz.func256, Tryz.ntmps256
    go_wp2
    go_region_dies
    all_goals
      refine (domain_calls _ s node key _ (by exact HV.out)).mono ?_
      unfold DomDone
      rw [HD.out]
      rintro e w1 ⟨hb, ⟨h, -⟩ | ⟨-, rfl⟩⟩
      · cases h
      · exact ⟨rfl, Below.then (drewN_below _ 1) hb, .inr ⟨rfl, rfl⟩⟩
  | true =>
    have hbd : (!d.toList == dom.toList) = !decide (d = dom) := by
      by_cases h : d = dom
      · rw [str_beq h, decide_eq_true h]
      · rw [str_nbeq h, decide_eq_false h]
    simp only [Bool.true_and]
    generalize decide (d = dom) = c at hbd ⊢
    go_enter Tryz.func256, Tryz.ntmps256
    go_wp2
    have h5' : w.drew.cell? ⟨b5, 0, none⟩ = some (.string dom) := h5
    go_region_held3 (fun w' => w'.cell? ⟨b3, 0, none⟩ = some (.slice A1 s.nodes.length c1) ∧ w'.cell? ⟨b3, 1, none⟩ = some (.slice A2 s.pods.length c2) ∧ w'.cell? ⟨b3, 2, none⟩ = some (.slice A3 s.budgets.length c3) ∧ w'.cell? ⟨b5, 0, none⟩ = some (.string dom) ∧ w'.cell? ⟨b9, 9, none⟩ = some (.string node) ∧ w'.cell? ⟨b4, 7, none⟩ = some (.string key)) (first | go_keep | exact ⟨g0, g1, g2, g5, g9, g4⟩ | exact ⟨q0, q1, q2, h5, h9, h4⟩)
      (first | (go_at_call 177; refine (domain_calls _ s node key _ (by exact HV.out)).mono ?_; unfold DomDone; rw [HD.out]; rintro e w1 ⟨hb, h⟩; obtain ⟨-, rfl⟩ := h.resolve_right (by rintro ⟨h, -⟩; cases h); have g0 := (hb.cell (p := ⟨b3, 0, none⟩) l3).trans q0; have g1 := (hb.cell (p := ⟨b3, 1, none⟩) l3).trans q1; have g2 := (hb.cell (p := ⟨b3, 2, none⟩) l3).trans q2; have g5 := (hb.cell (p := ⟨b5, 0, none⟩) l5).trans h5; have g9 := (hb.cell (p := ⟨b9, 9, none⟩) (World.block_lt_of_cell? w _ h9)).trans h9; have g4 := (hb.cell (p := ⟨b4, 7, none⟩) (World.block_lt_of_cell? w _ h4)).trans h4; have HB1 : Hid (Below w.heap.size w w1) := Below.then (drewN_below _ 1) hb; clear hb h))
    cases c with
    | true =>
      go_wp2
      go_end0
      exact ⟨HB1.out, .inl ⟨rfl, rfl⟩⟩
    | false =>
      go_wp2_with (go_at_call 151; refine (stop_bad _ _ (by omega)).mono ?_; rintro e w' ⟨rfl, rfl⟩)
      exact ⟨rfl, HB1.out, .inr ⟨rfl, rfl⟩⟩
end Go.Proofs.YtnmhicgbdalniaaGreatDoor
namespace Go.Proofs.YtnmhicgbdalniaaGreatDoor
open Go.RowKit

/-- Is a pod one of the others of an owner that stand? -/
def other (p x : Pd) : Bool := !decide (p.owner = ⟨#[]⟩) && (decide (x.owner = p.owner) && (!x.hold && (!decide (x.name = p.name) && !decide (x.node = ⟨#[]⟩))))
def countV (s : St) (p : Pd) (dom : ByteArray) (l : List Pd) : Nat := l.countP fun x => other p x && inDom s x.node p.key dom
theorem countV_snoc (s : St) (p : Pd) (dom : ByteArray) {l : List Pd} {k : Nat} (h : k < l.length) : countV s p dom (l.take (k + 1)) = countV s p dom (l.take k) + if (other p l[k] && inDom s l[k].node p.key dom) = true then 1 else 0 := by
  unfold countV
  rw [List.take_succ_eq_append_getElem h, List.countP_append, List.countP_singleton]
theorem countV_le (s : St) (p : Pd) (dom : ByteArray) (l : List Pd) : countV s p dom l ≤ l.length := List.countP_le_length
theorem callFunc_count1 (args : Array Value) (w : World) : (callFunc 256 args).run Tryz.prog w = .ok (.enter 256 args) w := by
  simp [go_sem]
def CountDone (n : Nat) (w : World) (e : Ending) (w' : World) : Prop := e = .returned (.int .i64 (n : Int)) ∧ Below w.heap.size w w'
set_option maxHeartbeats 4000000 in
set_option maxRecDepth 100000 in
theorem Count_calls (vs vp : Value) (s : St) (p : Pd) (dom : ByteArray) (w : World) (hs : Kd.state.V (vw w []) vs s) (hp : Kd.pod.V (vw w []) vp p) :
    Calls Tryz.prog 178 #[vs, vp, .string dom] w (CountDone (countV s p dom s.pods) w) := by
  have hmf : ∀ (fn : Fn) (first cap : Array Value) (w : World), (Instr.makeFunc fn first cap).run Tryz.prog w = .ok (.func fn first cap) w := fun _ _ _ _ => rfl
  obtain ⟨cs, rfl, hks⟩ := hs
  obtain ⟨cp, rfl, hkp⟩ := hp
  have HKS := Lib.hid hks
  obtain ⟨A1, c1, A2, c2, A3, c3, rfl, -, s2, -⟩ := hks
  obtain ⟨P1, p1, P2, p2, P3, p3, P4, p4, rfl, -⟩ := hkp
  obtain ⟨-, f2, f2'⟩ := s2.form
  have S2 := Lib.hid s2
  clear s2
  go_enter Tryz.func178, Tryz.ntmps178
  go_wp2
  obtain ⟨W, hW⟩ : ∃ W : World, W = (((w.alloc (.cells #[.slice A1 s.nodes.length c1, .slice A2 s.pods.length c2, .slice A3 s.budgets.length c3] 26)).alloc (.cells #[.string p.name, .string p.owner, .int .i64 p.prio, .slice P1 p.need.length p1, .slice P2 p.labels.length p2, .slice P3 p.sel.length p3, .slice P4 p.tols.length p4, .string p.key, .int .i64 p.most, .string p.node, .bool p.hold] 35)).alloc (.cells #[.string dom] 9)) := ⟨_, rfl⟩
  rw [← hW]
  have hbw : Below w.heap.size w W := by rw [hW]; exact Below.then (Below.then (alloc_below _ _) (alloc_below _ _)) (alloc_below _ _)
  have k1 : W.heap[w.heap.size]? = some (.cells [.slice A1 s.nodes.length c1, .slice A2 s.pods.length c2, .slice A3 s.budgets.length c3].toArray 26 (0, 0)) := by
    rw [hW]; exact (blk_old _ _ (by simp; omega)).trans ((blk_old _ _ (by simp)).trans (blk_last _ _))
  have k2 : W.heap[w.heap.size + 1]? = some (.cells #[.string p.name, .string p.owner, .int .i64 p.prio, .slice P1 p.need.length p1, .slice P2 p.labels.length p2, .slice P3 p.sel.length p3, .slice P4 p.tols.length p4, .string p.key, .int .i64 p.most, .string p.node, .bool p.hold] 35 (0, 0)) := by
    rw [hW]; exact (blk_old _ _ (by simp)).trans ((show _ = w.heap.size + 1 by simp : (w.alloc (.cells #[.slice A1 s.nodes.length c1, .slice A2 s.pods.length c2, .slice A3 s.budgets.length c3] 26)).heap.size = w.heap.size + 1) ▸ blk_last _ _)
  have k3 : W.heap[w.heap.size + 2]? = some (.cells #[.string dom] 9 (0, 0)) := by
    rw [hW]
    have := blk_last ((w.alloc (.cells #[.slice A1 s.nodes.length c1, .slice A2 s.pods.length c2, .slice A3 s.budgets.length c3] 26)).alloc (.cells #[.string p.name, .string p.owner, .int .i64 p.prio, .slice P1 p.need.length p1, .slice P2 p.labels.length p2, .slice P3 p.sel.length p3, .slice P4 p.tols.length p4, .string p.key, .int .i64 p.most, .string p.node, .bool p.hold] 35)) (.cells #[.string dom] 9)
    simpa using this
  have HK0 := Lib.hid (And.intro k1 (And.intro k2 k3))
  have HBW := Lib.hid hbw
  obtain ⟨z, zf⟩ := blk_all k1
  clear hbw k1 k2 k3 hW
  go_wp2
  go_loopw [7, 13] (fun n i wr => ∃ k : Nat, k ≤ s.pods.length ∧ i = .int .i64 k ∧ n = .int .i64 (countV s p dom (s.pods.take k) : Nat) ∧ Hid (Below W.heap.size W wr)) (fun _ i _ => s.pods.length - (intOf i).toNat)
  case atStart => exact ⟨0, Nat.zero_le _, rfl, rfl, Below.refl _ _⟩
  case round =>
    obtain ⟨k, hk, rfl, rfl, HB⟩ := hrel
    clear z zf
    by_cases hlt : k < s.pods.length
    · have hcl := countV_le s p dom (s.pods.take k)
      rw [List.length_take] at hcl
      have hsn := countV_snoc s p dom hlt
      obtain ⟨b, off, cs, rfl, hn, hc⟩ := S2.out.both (Below.then HBW.out HB.out) k hlt
      obtain ⟨x, hx⟩ : ∃ x, s.pods[k] = x := ⟨_, rfl⟩
      rw [hx] at hn hsn
      obtain ⟨B1, d1, B2, d2, B3, d3, B4, d4, rfl, -⟩ := hn
      have HC : Hid (wr.rangeAt b (off + k * 11) _) := hc
      have HSN := Lib.hid hsn
      have q2 := (HB.out.block _ (blk_lt HK0.out.2.1)).trans HK0.out.2.1
      have HQ2 := Lib.hid q2
      obtain ⟨y, yf⟩ := blk_all q2
      have l2 := blk_lt q2
      clear hc hsn hx q2
      have e1 := empty_beq p.owner
      have e2 := empty_beq x.node
      have e3 : (!x.owner.toList == p.owner.toList) = !decide (x.owner = p.owner) := by
        by_cases h : x.owner = p.owner
        · rw [str_beq h, decide_eq_true h]
        · rw [str_nbeq h, decide_eq_false h]
      have e4 : (x.name.toList == p.name.toList) = decide (x.name = p.name) := by
        by_cases h : x.name = p.name
        · rw [str_beq h, decide_eq_true h]
        · rw [str_nbeq h, decide_eq_false h]
      have hother : other p x = (!decide (p.owner = ⟨#[]⟩) && (decide (x.owner = p.owner) && (!x.hold && (!decide (x.name = p.name) && !decide (x.node = ⟨#[]⟩))))) := rfl
      obtain ⟨a, ha⟩ : ∃ a, decide (p.owner = ⟨#[]⟩) = a := ⟨_, rfl⟩
      obtain ⟨o, ho⟩ : ∃ o, decide (x.owner = p.owner) = o := ⟨_, rfl⟩
      obtain ⟨c, hc⟩ : ∃ c, x.hold = c := ⟨_, rfl⟩
      obtain ⟨d, hd⟩ : ∃ d, decide (x.name = p.name) = d := ⟨_, rfl⟩
      obtain ⟨f, hf⟩ : ∃ f, decide (x.node = ⟨#[]⟩) = f := ⟨_, rfl⟩
      rw [ha] at e1 hother
      rw [ho] at e3 hother
      rw [hc] at HC hother
      rw [hd] at e4 hother
      rw [hf] at e2 hother
      have HO := Lib.hid hother
      clear hother ha ho hc hd hf
      have Z0 : other p x = false → Hid (countV s p dom (s.pods.take (k + 1)) = countV s p dom (s.pods.take k)) := fun h => by
        show _ = _
        rw [HSN.out, h]; simp
      have HB2 : Hid (Below W.heap.size W (wr.alloc (.cells #[.string x.name, .string x.owner, .int .i64 x.prio, .slice B1 x.need.length d1, .slice B2 x.labels.length d2, .slice B3 x.sel.length d3, .slice B4 x.tols.length d4, .string x.key, .int .i64 x.most, .string x.node, .bool c] 35))) := Below.then HB.out (alloc_below _ _)
      go_upto_region 5 with (with_reducible refine wpList_load_mid rfl 35 _ rfl b (off + k * 11) rfl _ _ HC.out Tryz.underlying35 rfl (by kernel_rfl) ?_)
      cases a with
      | true =>
        go_wp2
        go_roundw
        case rel => exact ⟨k + 1, by omega, by go_num, by rw [(Z0 (by rw [HO.out]; rfl)).out], HB2.out⟩
        case measure => simp [intOf]; omega
      | false =>
        cases o with
        | false =>
          go_wp2
          go_roundw
          case rel => exact ⟨k + 1, by omega, by go_num, by rw [(Z0 (by rw [HO.out]; rfl)).out], HB2.out⟩
          case measure => simp [intOf]; omega
        | true =>
          cases c with
          | true =>
            go_wp2
            go_roundw
            case rel => exact ⟨k + 1, by omega, by go_num, by rw [(Z0 (by rw [HO.out]; rfl)).out], HB2.out⟩
            case measure => simp [intOf]; omega
          | false =>
            cases d with
            | true =>
              go_wp2
              go_roundw
              case rel => exact ⟨k + 1, by omega, by go_num, by rw [(Z0 (by rw [HO.out]; rfl)).out], HB2.out⟩
              case measure => simp [intOf]; omega
            | false =>
              cases f with
              | true =>
                go_wp2
                go_roundw
                case rel => exact ⟨k + 1, by omega, by go_num, by rw [(Z0 (by rw [HO.out]; rfl)).out], HB2.out⟩
                case measure => simp [intOf]; omega
              | false =>
                go_wp2_with fail
                generalize hU : wr.alloc (.cells #[.string x.name, .string x.owner, .int .i64 x.prio, .slice B1 x.need.length d1, .slice B2 x.labels.length d2, .slice B3 x.sel.length d3, .slice B4 x.tols.length d4, .string x.key, .int .i64 x.most, .string x.node, .bool false] 35) = U at HB2 ⊢
                have hus : U.heap.size = wr.heap.size + 1 := by rw [← hU]; simp
                have hub : U.heap[wr.heap.size]? = some (.cells #[.string x.name, .string x.owner, .int .i64 x.prio, .slice B1 x.need.length d1, .slice B2 x.labels.length d2, .slice B3 x.sel.length d3, .slice B4 x.tols.length d4, .string x.key, .int .i64 x.most, .string x.node, .bool false] 35 (0, 0)) := by rw [← hU]; exact blk_last _ _
                have hue : Below U.heap.size U (U.alloc (.cells #[.int .i64 0] 71)) := alloc_below _ _
                have hW2 := Below.then HB2.out hue
                have r1 := (hW2.block _ (blk_lt HK0.out.1)).trans HK0.out.1
                have r2 := (hW2.block _ (blk_lt HK0.out.2.1)).trans HK0.out.2.1
                have r3 := (hW2.block _ (blk_lt HK0.out.2.2)).trans HK0.out.2.2
                have r4 := (hue.block _ (blk_lt hub)).trans hub
                obtain ⟨g, hg⟩ : ∃ g, inDom s x.node p.key dom = g := ⟨_, rfl⟩
                have hc1 := count1_calls w.heap.size wr.heap.size (w.heap.size + 1) (w.heap.size + 2) s x.node p.key dom _ _ r1 (Kd.state.mono (vw_below (Below.then HBW.out hW2)) HKS.out) ((blk_all r4).1 9) ((blk_all r2).1 7) ((blk_all r3).1 0)
                rw [hg] at hc1
                have hcn : countV s p dom (s.pods.take (k + 1)) = countV s p dom (s.pods.take k) + if g = true then 1 else 0 := by
                  rw [HSN.out, HO.out, hg]; simp
                have HCN := Lib.hid hcn
                have HW2 := Lib.hid hW2
                clear hW2 r1 r2 r3 r4 hg hcn hub hU hue
                refine (try_calls _ _ _ (fun n w2 => Below (U.alloc (.cells #[.int .i64 0] 71)).heap.size (U.alloc (.cells #[.int .i64 0] 71)) w2 ∧ n = if g = true then 0 else 10) (callFunc_count1 _) (hc1.mono ?_)).mono ?_
                · rintro e w2 ⟨hb, h⟩
                  refine ⟨hb.block _ (by simp), ?_⟩
                  rcases h with ⟨h, rfl⟩ | ⟨h, rfl⟩
                  · exact .inl ⟨_, rfl, hb, by rw [if_pos h]⟩
                  · exact .inr ⟨10, by omega, rfl, hb, by rw [if_neg (by rw [h]; simp)]⟩
                clear hc1
                rintro e w' ⟨n, w2, rfl, ⟨hb, rfl⟩, hb3⟩
                have HB4 : Hid (Below W.heap.size W w') := (Below.then HW2.out hb).trans (hb3.below (by have := HB2.out.size; omega) (by have := (Below.then HW2.out hb).size; omega))
                clear hb hb3
                cases g with
                | true =>
                  have hr := HCN.out
                  rw [if_pos rfl] at hr
                  have HR := Lib.hid hr
                  clear hr
                  go_wp2
                  go_roundw
                  case rel => exact ⟨k + 1, by omega, by go_num, by rw [HR.out, Int.natCast_add]; rfl, HB4.out⟩
                  case measure => simp [intOf]; omega
                | false =>
                  have hr := HCN.out
                  rw [if_neg (by simp), Nat.add_zero] at hr
                  have HR := Lib.hid hr
                  clear hr
                  go_wp2
                  go_roundw
                  case rel => exact ⟨k + 1, by omega, by go_num, by rw [HR.out]; rfl, HB4.out⟩
                  case measure => simp [intOf]; omega
    · obtain rfl : k = s.pods.length := by omega
      have HX : Hid (s.pods.take s.pods.length = s.pods) := List.take_length
      have HB3 := Lib.hid (Below.then HBW.out HB.out)
      go_wp2
      go_ret
      rw [HX.out]
      exact ⟨rfl, HB3.out⟩
end Go.Proofs.YtnmhicgbdalniaaGreatDoor
namespace Go.Proofs.YtnmhicgbdalniaaGreatDoor
open Go.RowKit

/-! The domains of a label: sorted, each once. -/
def bs (a : ByteArray) : List UInt8 := a.data.toList
def ba (l : List UInt8) : ByteArray := ⟨l.toArray⟩
theorem ba_bs (a : ByteArray) : ba (bs a) = a := rfl
theorem bs_ba (a : List UInt8) : bs (ba a) = a := rfl
theorem bs_inj {a b : ByteArray} (h : bs a = bs b) : a = b := by rw [← ba_bs a, h, ba_bs]
def insB (v : List UInt8) : List (List UInt8) → List (List UInt8)
  | [] => [v]
  | a :: r => if a < v then a :: insB v r else if a = v then a :: r else v :: a :: r
def insAll (l : List (List UInt8)) : List (List UInt8) := l.foldl (fun a v => insB v a) []
def domsL (l : List Nd) (key : ByteArray) : List ByteArray := l.filterMap fun n => if (getV n.labels key).2 then some (getV n.labels key).1 else none
def domsV (l : List Nd) (key : ByteArray) : List (List UInt8) := insAll ((domsL l key).map bs)
abbrev Rises (l : List (List UInt8)) : Prop := l.Pairwise (· < ·)
theorem insB_mem (v x : List UInt8) : ∀ l, x ∈ insB v l ↔ x = v ∨ x ∈ l
  | [] => by simp [insB]
  | a :: r => by
    unfold insB
    split
    · rw [List.mem_cons, insB_mem v x r, List.mem_cons]
      constructor
      · rintro (h | h | h)
        · exact .inr (.inl h)
        · exact .inl h
        · exact .inr (.inr h)
      · rintro (h | h | h)
        · exact .inr (.inl h)
        · exact .inl h
        · exact .inr (.inr h)
    · split
      · rename_i h
        subst h
        simp
      · simp
theorem insB_rises (v : List UInt8) : ∀ l, Rises l → Rises (insB v l)
  | [], _ => by simp [insB, Rises]
  | a :: r, h => by
    obtain ⟨h1, h2⟩ := List.pairwise_cons.1 h
    unfold insB
    split
    · rename_i hlt
      refine List.pairwise_cons.2 ⟨fun x hx => ?_, insB_rises v r h2⟩
      rcases (insB_mem v x r).1 hx with rfl | hx
      · exact hlt
      · exact h1 x hx
    · split
      · exact h
      · rename_i n1 n2
        have hva : v < a := Std.lt_of_le_of_ne (Std.not_lt.1 n1) (Ne.symm n2)
        refine List.pairwise_cons.2 ⟨fun x hx => ?_, h⟩
        rcases List.mem_cons.1 hx with rfl | hx
        · exact hva
        · exact Std.lt_of_le_of_lt (Std.le_of_lt hva) (h1 x hx)
theorem insAll_both (l : List (List UInt8)) : ∀ a, Rises a → Rises (l.foldl (fun a v => insB v a) a) ∧ ∀ x, x ∈ l.foldl (fun a v => insB v a) a ↔ x ∈ a ∨ x ∈ l := by
  induction l with
  | nil => exact fun a h => ⟨h, fun x => by simp⟩
  | cons v r ih =>
    intro a h
    obtain ⟨i1, i2⟩ := ih (insB v a) (insB_rises v a h)
    refine ⟨i1, fun x => ?_⟩
    rw [List.foldl_cons, i2 x, insB_mem, List.mem_cons]
    constructor
    · rintro ((h | h) | h)
      · exact .inr (.inl h)
      · exact .inl h
      · exact .inr (.inr h)
    · rintro (h | h | h)
      · exact .inl (.inr h)
      · exact .inl (.inl h)
      · exact .inr h
theorem insAll_rises (l : List (List UInt8)) : Rises (insAll l) := (insAll_both l [] List.Pairwise.nil).1
theorem insAll_mem (l : List (List UInt8)) (x : List UInt8) : x ∈ insAll l ↔ x ∈ l := by
  have := (insAll_both l [] List.Pairwise.nil).2 x
  simpa [insAll] using this
theorem rises_eq : ∀ (a b : List (List UInt8)), Rises a → Rises b → (∀ x, x ∈ a ↔ x ∈ b) → a = b
  | [], [], _, _, _ => rfl
  | [], b :: s, _, _, h => by have := (h b).2 (List.mem_cons_self ..); cases this
  | a :: r, [], _, _, h => by have := (h a).1 (List.mem_cons_self ..); cases this
  | a :: r, b :: s, ha, hb, h => by
    obtain ⟨a1, a2⟩ := List.pairwise_cons.1 ha
    obtain ⟨b1, b2⟩ := List.pairwise_cons.1 hb
    have hab : a = b := by
      rcases List.mem_cons.1 ((h a).1 (List.mem_cons_self ..)) with e | e
      · exact e
      · rcases List.mem_cons.1 ((h b).2 (List.mem_cons_self ..)) with e' | e'
        · exact e'.symm
        · exact absurd (Std.lt_of_le_of_lt (Std.le_of_lt (a1 b e')) (b1 a e)) Std.lt_irrefl
    subst hab
    congr 1
    refine rises_eq r s a2 b2 fun x => ⟨fun hx => ?_, fun hx => ?_⟩
    · rcases List.mem_cons.1 ((h x).1 (List.mem_cons_of_mem _ hx)) with e | e
      · exact absurd (e ▸ a1 x hx) Std.lt_irrefl
      · exact e
    · rcases List.mem_cons.1 ((h x).2 (List.mem_cons_of_mem _ hx)) with e | e
      · exact absurd (e ▸ b1 x hx) Std.lt_irrefl
      · exact e
theorem compact_upto (d : Array (List UInt8)) (hs : ∀ i j, i ≤ j → j < d.size → d[i]! ≤ d[j]!) : ∀ m, m ≤ d.size → Rises (Lib.compactUpTo d m) ∧ (∀ x, x ∈ Lib.compactUpTo d m ↔ ∃ j, j < m ∧ x = d[j]!)
  | 0, _ => ⟨by simp [Lib.compactUpTo, Rises], fun x => by simp [Lib.compactUpTo]⟩
  | m + 1, hm => by
    obtain ⟨i1, i2⟩ := compact_upto d hs m (by omega)
    rw [Lib.compactUpTo_succ]
    by_cases hk : Lib.keeps d m = true
    · rw [if_pos hk]
      refine ⟨List.pairwise_append.2 ⟨i1, by simp, fun x hx y hy => ?_⟩, fun x => ?_⟩
      · obtain ⟨j, hj, rfl⟩ := (i2 x).1 hx
        obtain rfl : y = d[m]! := by simpa using hy
        have hk' : m = 0 ∨ d[m]! ≠ d[m - 1]! := by simpa [Lib.keeps] using hk
        rcases hk' with e | e
        · omega
        · have h1 : d[m - 1]! < d[m]! := Std.lt_of_le_of_ne (hs _ _ (by omega) (by omega)) (Ne.symm e)
          exact Std.lt_of_le_of_lt (hs j (m - 1) (by omega) (by omega)) h1
      · rw [List.mem_append, i2 x, List.mem_singleton]
        constructor
        · rintro (⟨j, hj, e⟩ | e)
          · exact ⟨j, by omega, e⟩
          · exact ⟨m, by omega, e⟩
        · rintro ⟨j, hj, e⟩
          rcases Nat.lt_or_ge j m with h | h
          · exact .inl ⟨j, h, e⟩
          · exact .inr (by rw [e, show j = m by omega])
    · rw [if_neg hk, List.append_nil]
      refine ⟨i1, fun x => ?_⟩
      have hk' : ¬ (m = 0 ∨ d[m]! ≠ d[m - 1]!) := by simpa [Lib.keeps] using hk
      have h0 : m ≠ 0 := fun e => hk' (.inl e)
      have h1 : d[m]! = d[m - 1]! := Classical.byContradiction fun e => hk' (.inr e)
      rw [i2 x]
      constructor
      · rintro ⟨j, hj, e⟩
        exact ⟨j, by omega, e⟩
      · rintro ⟨j, hj, e⟩
        rcases Nat.lt_or_ge j m with h | h
        · exact ⟨j, h, e⟩
        · exact ⟨m - 1, by omega, by rw [e, show j = m by omega, h1]⟩
theorem insAll_eq (l : List (List UInt8)) : insAll l = Lib.compact (l.mergeSort fun x y => decide (x ≤ y)) := by
  have hp := List.pairwise_mergeSort (le := fun x y : List UInt8 => decide (x ≤ y)) (fun a b c h k => by
    simp only [decide_eq_true_eq] at h k ⊢
    exact Std.le_trans h k) (fun a b => by
    simp only [Bool.or_eq_true, decide_eq_true_eq]
    exact Std.le_total) l
  obtain ⟨z, hz⟩ : ∃ z, l.mergeSort (fun x y => decide (x ≤ y)) = z := ⟨_, rfl⟩
  have hm : ∀ x, x ∈ z ↔ x ∈ l := fun x => by rw [← hz]; exact List.mem_mergeSort
  rw [hz] at hp ⊢
  have hs : ∀ i j, i ≤ j → j < z.toArray.size → z.toArray[i]! ≤ z.toArray[j]! := fun i j hij hj => by
    have hj' : j < z.length := by simpa using hj
    rw [getElem!_pos _ i (by simp; omega), getElem!_pos _ j hj]
    simp only [List.getElem_toArray]
    rcases Nat.lt_or_ge i j with h | h
    · have := (List.pairwise_iff_getElem.1 hp) i j (by omega) hj' h
      simpa using this
    · obtain rfl : i = j := by omega
      exact Std.le_refl _
  obtain ⟨c1, c2⟩ := compact_upto z.toArray hs z.length (by simp)
  refine rises_eq _ _ (insAll_rises l) c1 fun x => ?_
  rw [insAll_mem, ← hm, Lib.compact, c2 x]
  constructor
  · intro h
    obtain ⟨j, hj, rfl⟩ := List.getElem_of_mem h
    exact ⟨j, hj, by rw [getElem!_pos _ j (by simpa using hj)]; simp⟩
  · rintro ⟨j, hj, rfl⟩
    rw [getElem!_pos _ j (by simpa using hj)]
    simp
theorem domsV_rises (l : List Nd) (key : ByteArray) : Rises (domsV l key) := insAll_rises _
theorem domsL_snoc (l : List Nd) (key : ByteArray) {k : Nat} (h : k < l.length) : domsL (l.take (k + 1)) key = domsL (l.take k) key ++ if (getV l[k].labels key).2 = true then [(getV l[k].labels key).1] else [] := by
  unfold domsL
  rw [List.take_succ_eq_append_getElem h, List.filterMap_append]
  congr 1
  rw [List.filterMap_cons]
  split <;> rename_i he <;> split at he <;> simp_all
theorem domsL_len (l : List Nd) (key : ByteArray) : (domsL l key).length ≤ l.length := List.length_filterMap_le _ _
theorem domsV_snoc (l : List Nd) (key : ByteArray) {k : Nat} (h : k < l.length) : domsV (l.take (k + 1)) key = if (getV l[k].labels key).2 = true then insB (bs (getV l[k].labels key).1) (domsV (l.take k) key) else domsV (l.take k) key := by
  unfold domsV insAll
  rw [domsL_snoc l key h, List.map_append, List.foldl_append]
  split <;> rfl
theorem insB_len (v : List UInt8) : ∀ l : List (List UInt8), (insB v l).length ≤ l.length + 1
  | [] => by simp [insB]
  | a :: r => by
    unfold insB
    have := insB_len v r
    split
    · simp; omega
    · split <;> simp
theorem insAll_len (l : List (List UInt8)) : ∀ a, (l.foldl (fun a v => insB v a) a).length ≤ a.length + l.length := by
  induction l with
  | nil => simp
  | cons v r ih =>
    intro a
    have h1 := ih (insB v a)
    have h2 := insB_len v a
    rw [List.foldl_cons, List.length_cons]
    omega
theorem domsV_len (l : List Nd) (key : ByteArray) : (domsV l key).length ≤ l.length := by
  have h1 := insAll_len ((domsL l key).map bs) []
  have h2 := domsL_len l key
  simp at h1
  exact Nat.le_trans h1 h2
end Go.Proofs.YtnmhicgbdalniaaGreatDoor
namespace Go.Proofs.YtnmhicgbdalniaaGreatDoor
open Go.RowKit

/-! append onto a row of the call's own, whatever the source (nil too). -/
section
variable {P : Program} (w : World) (base : Nat) (t e : TypeId) (i : TypeInfo) (z : Value) (size bytes : Nat) (ht : P.underlying t = some (.slice e)) (hi : P.info? e = some i) (hz : i.zero = some z)
  (hsize : i.size = size) (hby : i.bytes = bytes) (hzs : z.cells.size = size) (hsz : 0 < size) (v : Value) (n : Nat) (xs : List Value) (hown : w.ownsRow base e size v n xs)
  (A : Option Addr) (m c : Nat) (news : List Value) (hl : news.length = m * size) (hnil : A = none → m = 0) (hnews : ∀ ad, A = some ad → ∀ j u, news[j]? = some u → w.cell? (ad.add j) = some u)
  (h1 : ∀ u ∈ news, u.oneCell' = true) (h63 : n + m ≤ maxLen) (hbytes : (n + m) * bytes ≤ 140737488355328) (hbase : base ≤ w.heap.size)
include ht hi hz hsize hby hzs hsz hown hl hnil hnews h1 h63 hbytes hbase
theorem run_app (ty : TypeId) : ∃ v' w', (Builtin.append_ #[t, t] ty #[v, .slice A m c]).run P w = .ok v' w' ∧ w'.ownsRow base e size v' (n + m) (xs ++ news) ∧ w.grownBy w' v.ownBlock ∧ (v'.ownBlock = v.ownBlock ∨ v'.ownBlock = some w.heap.size) := by
  cases A with
  | none =>
    obtain rfl := hnil rfl
    obtain rfl : news = [] := List.eq_nil_of_length_eq_zero (by simpa using hl)
    refine ⟨v, w, ?_, by simpa using hown, World.grownBy.refl w _, .inl rfl⟩
    rcases hown.2 with ⟨rfl, rfl⟩ | ⟨g, cap, cur, rfl, _, _, hnc, _⟩
    · simp [Builtin.append_, run_underlying ht, sizeOf, typeInfo, hi, Builtin.lenOf, Builtin.firstCells]
    · simp [Builtin.append_, run_underlying ht, sizeOf, typeInfo, hi, Builtin.lenOf, Builtin.firstCells, hnc, storeCells]
  | some ad =>
    obtain ⟨v', w', hrun, h2, h3, _, h5⟩ := run_append_own_at (P := P) w base t ty e i z size bytes ht hi hz hsize hby hzs hsz v n xs hown ad m c news hl (hnews ad rfl) h1 h63 hbytes hbase
    exact ⟨v', w', hrun, h2, h3, h5⟩
variable {o : Oper} {a : Act} {K : Act → World → Prop} {Q : Exit → Act → World → Prop} (s x : Operand) (ho : o.op = .call { callee := .builtin .append, args := #[s, x], argTypes := #[t, t] }) (hs : a.eval s = v) (hx : a.eval x = .slice A m c)
include ho hs hx
theorem wp_app (h : ∀ v' w', w'.ownsRow base e size v' (n + m) (xs ++ news) → w.grownBy w' v.ownBlock → (v'.ownBlock = v.ownBlock ∨ v'.ownBlock = some w.heap.size) → K (a.put o.dst v') w') : o.wp P a w K Q := by
  obtain ⟨v', w', hrun, h2, h3, h4⟩ := run_app w base t e i z size bytes ht hi hz hsize hby hzs hsz v n xs hown A m c news hl hnil hnews h1 h63 hbytes hbase o.type
  unfold Oper.wp execOp
  simp only [ho, resolve, invoke, builtin, Sem.run_bind, Sem.run_pure, Result.andThen_ok, List.map_toArray, List.map_cons, List.map_nil, hs, hx, hrun]
  exact h v' w' h2 h3 h4
theorem wpList_app {ops : Array Oper} {rest : List Oper} (hgd : o.guard = none) (h : ∀ v' w', w'.ownsRow base e size v' (n + m) (xs ++ news) → w.grownBy w' v.ownBlock → (v'.ownBlock = v.ownBlock ∨ v'.ownBlock = some w.heap.size) → wpList P ops Q rest (a.put o.dst v') w') : wpList P ops Q (o :: rest) a w :=
  wpList_plain hgd fun _ hK => wp_app w base t e i z size bytes ht hi hz hsize hby hzs hsz v n xs hown A m c news hl hnil hnews h1 h63 hbytes hbase s x ho hs hx fun v' w' h2 h3 h4 => hK _ _ (h v' w' h2 h3 h4)
theorem step_app {ops : Array Oper} {E : Prop} (hgd : o.guard = none) (h : ∀ v' w', w'.ownsRow base e size v' (n + m) (xs ++ news) → w.grownBy w' v.ownBlock → (v'.ownBlock = v.ownBlock ∨ v'.ownBlock = some w.heap.size) → K (a.put o.dst v') w') :
    if Region.wanted o (yielded ops a.tmps) = true then Oper.wp P o a w K Q else E := by
  have hw : Region.wanted o (yielded ops a.tmps) = true := by simp [Region.wanted, hgd]
  rw [if_pos hw]
  exact wp_app w base t e i z size bytes ht hi hz hsize hby hzs hsz v n xs hown A m c news hl hnil hnews h1 h63 hbytes hbase s x ho hs hx h
end
end Go.Proofs.YtnmhicgbdalniaaGreatDoor
