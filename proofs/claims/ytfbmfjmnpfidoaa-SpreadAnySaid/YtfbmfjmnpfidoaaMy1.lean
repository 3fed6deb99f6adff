import Derived.Test.YtfbmfjmnpfidoaaProg
import Derived.WalkKit
import Derived.KernelRfl
import Derived.Lib.Hide
import Derived.Below
import Derived.Deep.Draws
import Derived.Deep.Slices
import Derived.ProofKit
import Derived.Lib.SlicesS
import Derived.RegionTactic
import Derived.Deep.MidRow
import Derived.Maps.AppendAt
import Derived.Deep.AppendLies
import Derived.OwnWalk
import Derived.Laws.OwnMore
import Derived.Recover
import Derived.Laws.Pointers
import Derived.WalkLawsBesides
import Derived.WalkSmall
import Derived.Deep.RegionHeld3
import Derived.Deep.DeepCutAuto
import Derived.Deep.CutBlock
import Derived.BigQuiet
namespace Go.Proofs.Ytfbmfjmnpfidoaa
open Go.RowKit Go.ChangeShapes Go.WideShapes

/-! What memory may be looked at, and what values mean there. -/
abbrev View := Nat → Option Obj
def View.le (h k : View) : Prop := ∀ b o, h b = some o → k b = some o
def View.cell? (h : View) (a : Addr) : Option Value :=
  match h a.block with
  | some (.cells c _ _) => if a.spot.isSome then none else c[a.off]?
  | _ => none
/-- All blocks of a world but those of a list. -/
def vw (w : World) (M : List Nat) : View := fun b => if b ∈ M then none else w.heap[b]?

theorem View.le_refl (h : View) : h.le h := fun _ _ x => x
theorem View.le_trans {h k l : View} (a : h.le k) (b : k.le l) : h.le l := fun i o x => b i o (a i o x)
theorem View.cell_mono {h k : View} (hk : h.le k) {a : Addr} {v : Value} (c : h.cell? a = some v) : k.cell? a = some v := by
  unfold View.cell? at *
  cases e : h a.block with
  | none => rw [e] at c; cases c
  | some o => rw [hk _ _ e]; rw [e] at c; exact c
theorem cell_of_vw {w : World} {M : List Nat} {a : Addr} {v : Value} (c : (vw w M).cell? a = some v) : w.cell? a = some v := by
  unfold View.cell? vw at c
  unfold World.cell?
  split at c <;> rename_i h
  · split at h
    · cases h
    · rw [h]; exact c
  · cases c
theorem vw_eq {w : World} {M : List Nat} {b : Nat} {o : Obj} (h : vw w M b = some o) : b ∉ M ∧ w.heap[b]? = some o := by
  unfold vw at h
  split at h
  · cases h
  · exact ⟨by assumption, h⟩
theorem vw_mk {w : World} {M : List Nat} {b : Nat} {o : Obj} (h : b ∉ M) (k : w.heap[b]? = some o) : vw w M b = some o := by
  unfold vw; rw [if_neg h]; exact k
theorem blk_lt {w : World} {b : Nat} {o : Obj} (h : w.heap[b]? = some o) : b < w.heap.size := by
  rcases Nat.lt_or_ge b w.heap.size with k | k
  · exact k
  · simp [Array.getElem?_eq_none k] at h
theorem vw_below {w w' : World} {M : List Nat} (h : Below w.heap.size w w') : (vw w M).le (vw w' M) := fun b o hb => by
  obtain ⟨h1, h2⟩ := vw_eq hb
  exact vw_mk h1 ((h.block b (blk_lt h2)).trans h2)
theorem vw_sub {w : World} {M M' : List Nat} (h : ∀ b, b ∈ M' → b ∈ M) : (vw w M).le (vw w M') := fun b o hb => by
  obtain ⟨h1, h2⟩ := vw_eq hb
  exact vw_mk (fun k => h1 (h b k)) h2
theorem vw_setCell {w : World} {M : List Nat} {a : Addr} (h : a.block ∈ M) (v : Value) : (vw w M).le (vw (w.setCell a v) M) := fun b o hb => by
  obtain ⟨h1, h2⟩ := vw_eq hb
  refine vw_mk h1 ?_
  rw [Below.heap_setCell w a v b (fun e => h1 (e ▸ h))]; exact h2
theorem vw_alloc {w : World} {M : List Nat} (o : Obj) : (vw w M).le (vw (w.alloc o) M) := fun b x hb => by
  obtain ⟨h1, h2⟩ := vw_eq hb
  refine vw_mk h1 ?_
  show (w.heap.push o)[b]? = _
  rw [Array.getElem?_push_lt (blk_lt h2), ← h2, Array.getElem?_eq_getElem (blk_lt h2)]
theorem vw_drewN {w : World} {M : List Nat} (n : Nat) : (vw w M).le (vw (w.drewN n) M) := fun _ _ hb => hb

theorem blk_last (w : World) (o : Obj) : (w.alloc o).heap[w.heap.size]? = some o := by show (w.heap.push o)[_]? = _; simp
theorem blk_old (w : World) (o : Obj) {k : Nat} (h : k < w.heap.size) : (w.alloc o).heap[k]? = w.heap[k]? := Below.heap_alloc w o k h
theorem str_beq {a b : ByteArray} (h : a = b) : (a.toList == b.toList) = true := by subst h; simp
theorem str_nbeq {a b : ByteArray} (h : a ≠ b) : (a.toList == b.toList) = false := (Lib.bytes_beq_false_iff a b).2 h
theorem str_bne {a b : ByteArray} (h : a ≠ b) : (!a.toList == b.toList) = true := by rw [str_nbeq h]; rfl
theorem str_nbne {a b : ByteArray} (h : a = b) : (!a.toList == b.toList) = false := by rw [str_beq h]; rfl
theorem ret_bool {a b : Bool} (h : a = b) : Ending.returned (.bool a) = .returned (.bool b) := by rw [h]
theorem ret_str {a b : ByteArray} (h : a = b) : Ending.returned (.string a) = .returned (.string b) := by rw [h]
theorem ret_two {k j : IntKind} {a b c d : Int} (h : a = c) (h' : b = d) : Ending.returned (.tuple #[.int k a, .int j b]) = .returned (.tuple #[.int k c, .int j d]) := by rw [h, h']
theorem vw_grow {w w' : World} {M M' : List Nat} (h : Below w.heap.size w w') (hm : ∀ b, b ∈ M' → b ∈ M ∨ w.heap.size ≤ b) : (vw w M).le (vw w' M') := fun k o hk => by
  obtain ⟨h1, h2⟩ := vw_eq hk
  have h3 := blk_lt h2
  refine vw_mk (fun e => ?_) ((h.block k h3).trans h2)
  rcases hm k e with h4 | h4
  · exact h1 h4
  · omega
theorem own_below {w w' : World} {base : Nat} {e : TypeId} {size : Nat} {v : Value} {n : Nat} {xs : List Value} (h : w.ownsRow base e size v n xs) (hb : Below w.heap.size w w') : w'.ownsRow base e size v n xs := by
  refine h.kept (row := none) ⟨hb.os, hb.tape, hb.output, hb.size, fun k hk _ => hb.block k hk⟩ ?_
  cases v.ownBlock with
  | none => exact .inl rfl
  | some x => exact .inr (by simp)
theorem own_congr {w : World} {base : Nat} {e : TypeId} {size : Nat} {v : Value} {n n' : Nat} {xs xs' : List Value} (h : w.ownsRow base e size v n xs) (hn : n = n') (hx : xs = xs') : w.ownsRow base e size v n' xs' := by rw [← hn, ← hx]; exact h
theorem one_new (w : World) (x : Value) (T : TypeId) : ∀ (j : Nat) (u : Value), [x][j]? = some u → (w.alloc (.cells #[x] T)).cell? (Addr.add ⟨w.heap.size, 0, none⟩ j) = some u := by
  intro j u hj
  cases j with
  | zero =>
    have : x = u := by simpa using hj
    subst this
    have h := blk_last w (.cells #[x] T)
    unfold World.cell?
    rw [show (Addr.add ⟨w.heap.size, 0, none⟩ 0) = ⟨w.heap.size, 0, none⟩ from rfl]
    simp only
    rw [h]
    rfl
  | succ j => simp at hj
/-- What the cells of a value of some kind hold. -/
structure Kd (α : Type) where
  sz : Nat
  K : View → α → List Value → Prop
  len : ∀ {h x cs}, K h x cs → cs.length = sz
  mono : ∀ {h k : View} {x cs}, h.le k → K h x cs → K k x cs
namespace Kd
variable {α : Type}
/-- A value reads as a list. -/
def S (d : Kd α) (h : View) (v : Value) (xs : List α) : Prop :=
  ∃ A cap, v = .slice A xs.length cap ∧ xs.length ≤ cap ∧ xs.length ≤ 140737488351232 ∧ (A = none → cap = 0) ∧
    (0 < xs.length → ∃ b off, A = some ⟨b, off, none⟩ ∧ ∀ j x, xs[j]? = some x → ∃ cs, d.K h x cs ∧ ∀ i u, cs[i]? = some u → h.cell? ⟨b, off + j * d.sz + i, none⟩ = some u)
theorem S.mono {d : Kd α} {h k : View} {v : Value} {xs : List α} (hk : h.le k) (s : d.S h v xs) : d.S k v xs := by
  obtain ⟨A, cap, e, h1, h2, h4, h3⟩ := s
  refine ⟨A, cap, e, h1, h2, h4, fun hl => ?_⟩
  obtain ⟨b, off, e, hc⟩ := h3 hl
  refine ⟨b, off, e, fun j x hx => ?_⟩
  obtain ⟨cs, c1, c2⟩ := hc j x hx
  exact ⟨cs, d.mono hk c1, fun i u hu => View.cell_mono hk (c2 i u hu)⟩
theorem S.nil (d : Kd α) (h : View) : d.S h (.slice none 0 0) [] := ⟨none, 0, rfl, Nat.le_refl _, by simp, fun _ => rfl, fun h => by simp at h⟩
theorem S.form {d : Kd α} {h : View} {A : Option Addr} {n cap : Nat} {xs : List α} (s : d.S h (.slice A n cap) xs) : n = xs.length ∧ xs.length ≤ cap ∧ xs.length ≤ 140737488351232 := by
  obtain ⟨A', cap', e, h1, h2, _⟩ := s
  injection e with e1 e2 e3
  subst e2 e3
  exact ⟨rfl, h1, h2⟩
theorem S.cap_none {d : Kd α} {h : View} {n cap : Nat} {xs : List α} (s : d.S h (.slice none n cap) xs) : xs = [] ∧ cap = 0 := by
  obtain ⟨A', cap', e, h1, h2, h4, h3⟩ := s
  injection e with e1 e2 e3
  subst e1 e3
  have := h4 rfl
  exact ⟨by cases xs with | nil => rfl | cons x r => simp at h1; omega, this⟩
theorem S.elem {d : Kd α} {h : View} {A : Option Addr} {n cap : Nat} {xs : List α} (s : d.S h (.slice A n cap) xs) (j : Nat) (hj : j < xs.length) :
    ∃ b off cs, A = some ⟨b, off, none⟩ ∧ d.K h xs[j] cs ∧ ∀ i u, cs[i]? = some u → h.cell? ⟨b, off + j * d.sz + i, none⟩ = some u := by
  obtain ⟨A', cap', e, h1, h2, _, h3⟩ := s
  injection e with e1 e2 e3
  subst e1
  obtain ⟨b, off, e, hc⟩ := h3 (by omega)
  obtain ⟨cs, c1, c2⟩ := hc j xs[j] (List.getElem?_eq_getElem hj)
  exact ⟨b, off, cs, e, c1, c2⟩
theorem S.empty (d : Kd α) (h : View) (A : Option Addr) (cap : Nat) (hA : A = none → cap = 0) : d.S h (.slice A 0 cap) [] := ⟨A, cap, rfl, Nat.zero_le _, by simp, hA, fun h => by simp at h⟩
theorem S.drop {d : Kd α} {h : View} {b off n cap : Nat} {xs : List α} (s : d.S h (.slice (some ⟨b, off, none⟩) n cap) xs) (k : Nat) (hk : k ≤ n) : d.S h (.slice (some ⟨b, off + k * d.sz, none⟩) (n - k) (cap - k)) (xs.drop k) := by
  obtain ⟨rfl, h1, h2⟩ := s.form
  refine ⟨some ⟨b, off + k * d.sz, none⟩, cap - k, by rw [List.length_drop], by rw [List.length_drop]; omega, by rw [List.length_drop]; omega, fun e => (by cases e), fun hl => ⟨b, off + k * d.sz, rfl, fun j x hx => ?_⟩⟩
  rw [List.length_drop] at hl
  rw [List.getElem?_drop] at hx
  obtain ⟨A', cap', e, _, _, _, h3⟩ := s
  obtain ⟨b', off', e', hc⟩ := h3 (by omega)
  injection e with e1
  subst e'
  injection e1 with e1
  injection e1 with e1 e2
  subst e1 e2
  obtain ⟨cs, c1, c2⟩ := hc (k + j) x hx
  refine ⟨cs, c1, fun i u hu => ?_⟩
  rw [← c2 i u hu, Nat.add_mul, ← Nat.add_assoc]
theorem addr_add (b off k : Nat) : Addr.add ⟨b, off, none⟩ k = ⟨b, off + k, none⟩ := by
  unfold Addr.add
  split
  · rename_i h; rw [h, Nat.add_zero]
  · rfl
/-- 'xs[k:]' of one-cell elements. -/
theorem S.low {d : Kd α} (h1 : d.sz = 1) {h : View} {A : Option Addr} {n cap : Nat} {xs : List α} (s : d.S h (.slice A n cap) xs) (k : Nat) (hk : k ≤ n) : d.S h (.slice (Option.map (fun x => x.add k) A) (n - k) (cap - k)) (xs.drop k) := by
  rcases Nat.lt_or_ge k n with hlt | hge
  · obtain ⟨rfl, _⟩ := s.form
    obtain ⟨b, off, cs, rfl, _⟩ := s.elem k hlt
    have := s.drop k hk
    rw [h1, Nat.mul_one] at this
    simpa [addr_add] using this
  · obtain ⟨rfl, _⟩ := s.form
    rw [show xs.length - k = 0 by omega, List.drop_eq_nil_of_le hge]
    refine S.empty _ _ _ _ (fun e => ?_)
    have : A = none := by simpa using e
    subst this
    have := s.cap_none.2
    omega
theorem S.low_cap {d : Kd α} {h : View} {A : Option Addr} {n cap : Nat} {xs : List α} (s : d.S h (.slice A n cap) xs) (k : Nat) (hk : cap = k) (hkn : k ≤ n) : d.S h (.slice A (n - k) 0) (xs.drop k) := by
  obtain ⟨rfl, hc, _⟩ := s.form
  rw [show xs.length - k = 0 by omega, List.drop_eq_nil_of_le (by omega)]
  exact S.empty _ _ _ _ (fun _ => rfl)
theorem S.take {d : Kd α} {h : View} {A : Option Addr} {n cap : Nat} {xs : List α} (s : d.S h (.slice A n cap) xs) (k : Nat) (hk : k ≤ n) : d.S h (.slice A k cap) (xs.take k) := by
  obtain ⟨rfl, h1, h2⟩ := s.form
  have hl : (xs.take k).length = k := by rw [List.length_take]; omega
  obtain ⟨A', cap', e, _, _, h4, h3⟩ := s
  injection e with e1 e2 e3
  subst e1 e3
  refine ⟨A, cap, by rw [hl], by rw [hl]; omega, by rw [hl]; omega, h4, fun hp => ?_⟩
  rw [hl] at hp
  obtain ⟨b, off, e, hc⟩ := h3 (by omega)
  refine ⟨b, off, e, fun j x hx => hc j x ?_⟩
  rw [List.getElem?_take] at hx
  split at hx
  · exact hx
  · cases hx
def scalar (f : α → Value) (p : α → Prop) : Kd α where
  sz := 1
  K := fun _ x cs => cs = [f x] ∧ p x
  len := fun h => by rw [h.1]; rfl
  mono := fun _ h => h
def int (k : IntKind) : Kd Int := scalar (Value.int k) (fun n => (Lit.int k n).wf = true)
def str : Kd ByteArray := scalar Value.string (fun s => s.size ≤ 140737488351232)
def bool : Kd Bool := scalar Value.bool (fun _ => True)
/-- One cell an element. -/
theorem S.elem1 {f : α → Value} {p : α → Prop} {w : World} {M : List Nat} {A : Option Addr} {n cap : Nat} {xs : List α} (s : (scalar f p).S (vw w M) (.slice A n cap) xs) (j : Nat) (hj : j < xs.length) :
    ∃ b off, A = some ⟨b, off, none⟩ ∧ w.cell? ⟨b, off + j, none⟩ = some (f xs[j]) ∧ p xs[j] := by
  obtain ⟨b, off, cs, e, h1, h2⟩ := s.elem j hj
  refine ⟨b, off, e, cell_of_vw (M := M) ?_, h1.2⟩
  have := h2 0 (f xs[j]) (by rw [h1.1]; rfl)
  simpa [scalar] using this
/-- A block of one-cell elements. -/
theorem S.of_block {f : α → Value} {p : α → Prop} {w : World} {M : List Nat} {b : Nat} {T : TypeId} {fz : Nat × Nat} {xs : List α} (h : w.heap[b]? = some (.cells (xs.map f).toArray T fz)) (hm : b ∉ M) (hl : xs.length ≤ 140737488351232) (hp : ∀ x ∈ xs, p x) :
    (scalar f p).S (vw w M) (.slice (some ⟨b, 0, none⟩) xs.length xs.length) xs := by
  refine ⟨_, _, rfl, Nat.le_refl _, hl, fun e => (by cases e), fun _ => ⟨b, 0, rfl, fun j x hx => ⟨[f x], ⟨rfl, hp x (List.mem_of_getElem? hx)⟩, fun i u hu => ?_⟩⟩⟩
  obtain ⟨rfl, rfl⟩ : i = 0 ∧ u = f x := by
    cases i with
    | zero => exact ⟨rfl, by simpa using hu.symm⟩
    | succ i => simp at hu
  simp [View.cell?, vw_mk hm h, scalar, List.getElem?_map, hx]
/-- The cells behind a slice of one-cell elements, as append asks for them. -/
theorem S.news {f : α → Value} {p : α → Prop} {w : World} {M : List Nat} {ad : Addr} {n cap : Nat} {xs : List α} (s : (scalar f p).S (vw w M) (.slice (some ad) n cap) xs) :
    ∀ (j : Nat) (u : Value), (xs.map f)[j]? = some u → w.cell? (ad.add j) = some u := by
  intro j u hj
  have hl : j < xs.length := by
    have := (List.getElem?_eq_some_iff.1 hj).1
    simpa using this
  obtain ⟨b, off, e, hc, _⟩ := s.elem1 j hl
  injection e with e
  subst e
  rw [addr_add, hc]
  rw [List.getElem?_map, List.getElem?_eq_getElem hl] at hj
  simpa using hj
/-- A row of the call's own. -/
theorem S.of_own {f : α → Value} {p : α → Prop} {w : World} {base : Nat} {e : TypeId} {v : Value} {n : Nat} {xs : List α} (h : w.ownsRow base e 1 v n (xs.map f)) (hl : xs.length ≤ 140737488351232) (hp : ∀ x ∈ xs, p x) {M : List Nat} (hm : ∀ k, v.ownBlock = some k → k ∉ M) :
    (scalar f p).S (vw w M) v xs := by
  obtain ⟨h1, ⟨rfl, rfl⟩ | ⟨g, cap, cur, rfl, hg, hh, hn, hc, hs, ht⟩⟩ := h
  · have : xs = [] := by simpa using h1
    subst this
    exact S.nil _ _
  · have hn' : n = xs.length := by simpa using h1.symm
    subst hn'
    refine ⟨_, cap, rfl, hn, hl, fun e => (by cases e), fun _ => ⟨g, 0, rfl, fun j x hx => ⟨[f x], ⟨rfl, hp x (List.mem_of_getElem? hx)⟩, fun i u hu => ?_⟩⟩⟩
    obtain ⟨rfl, rfl⟩ : i = 0 ∧ u = f x := by
      cases i with
      | zero => exact ⟨rfl, by simpa using hu.symm⟩
      | succ i => simp at hu
    have hj := (List.getElem?_eq_some_iff.1 hx).1
    have h2 : (cur.toList.take (xs.length * 1))[j]? = some (f x) := by rw [ht, List.getElem?_map, hx]; rfl
    rw [List.getElem?_take, if_pos (by omega)] at h2
    simp [View.cell?, vw_mk (hm g rfl) hh, scalar]
    simpa using h2
def slice (d : Kd α) : Kd (List α) where
  sz := 1
  K := fun h xs cs => ∃ v, cs = [v] ∧ d.S h v xs
  len := by rintro h x cs ⟨v, rfl, _⟩; rfl
  mono := by rintro h k x cs hk ⟨v, rfl, s⟩; exact ⟨v, rfl, s.mono hk⟩
/-- What reads as data of type t, within the form's reach, reads as one of this kind. -/
def Opens (d : Kd α) (P : Program) (t : TypeId) : Prop :=
  P.cellsOf t = d.sz ∧ ∀ {H : Type} {enc : TypeId × Value → H} {w : World} {base : Nat} {sp : Nat → Bool} {held : Bool} {fuel : Nat} {cs : List Value} {x : DataW H × List MemPlace},
    DataW.trod enc P w base sp held fuel t cs = some x → (∀ n ∈ x.1.weights P t, n ≤ reachBytes) → ∃ a, d.K (vw w []) a cs
theorem opens_int {P : Program} {t : TypeId} {k : IntKind} (hs : P.cellsOf t = 1) (h : P.underlying t = some (.int k)) : (int k).Opens P t := by
  refine ⟨hs, fun {H enc w base sp held fuel cs x} hx _ => ?_⟩
  obtain ⟨n, e, rfl, hw⟩ := DataW.trod_int h hx
  exact ⟨n, e, hw⟩
theorem opens_str {P : Program} {t : TypeId} (hs : P.cellsOf t = 1) (h : P.underlying t = some .string) : str.Opens P t := by
  refine ⟨hs, fun {H enc w base sp held fuel cs x} hx hw => ?_⟩
  obtain ⟨n, e, rfl, _⟩ := DataW.trod_string h hx
  have := hw n.data.toList.length (by simp [DataW.weights])
  exact ⟨n, e, by simpa [reachBytes] using this⟩
theorem opens_bool {P : Program} {t : TypeId} (hs : P.cellsOf t = 1) (h : P.underlying t = some .bool) : bool.Opens P t := by
  refine ⟨hs, fun {H enc w base sp held fuel cs x} hx _ => ?_⟩
  obtain ⟨n, e, _⟩ := DataW.trod_bool h hx
  exact ⟨n, e, trivial⟩
theorem weightsAll_mem {P : Program} {H : Type} {e : TypeId} {d : DataW H} : ∀ {l : List (DataW H)}, d ∈ l → ∀ n ∈ d.weights P e, n ∈ DataW.weightsAll P e l
  | [], h, _, _ => by cases h
  | a :: l, h, n, hn => by
    simp only [DataW.weightsAll, List.mem_append]
    rcases List.mem_cons.1 h with rfl | h
    · exact .inl hn
    · exact .inr (weightsAll_mem h n hn)
theorem cells_get {w : World} {base : Nat} {a : Addr} {n : Nat} {cs : List Value} (h : w.cells? base a n = some cs) : ∀ (i : Nat) (u : Value), cs[i]? = some u → w.cell? (a.add i) = some u := by
  intro i u hu
  obtain ⟨_, hl, hc⟩ := World.cells?_some h
  have hi := (List.getElem?_eq_some_iff.1 hu).1
  rw [hc i (by omega), hu]
theorem vw_cell {w : World} {a : Addr} {v : Value} (h : w.cell? a = some v) : (vw w []).cell? a = some v := by
  unfold World.cell? at h
  unfold View.cell?
  split at h
  · rename_i e
    rw [vw_mk (M := []) (by simp) e]; exact h
  · cases h
theorem spot_of_cell {w : World} {a : Addr} {v : Value} (h : w.cell? a = some v) : a.spot = none := by
  unfold World.cell? at h
  split at h
  · cases e : a.spot with
    | none => rfl
    | some x => simp [e] at h
  · cases h
theorem opens_slice {P : Program} {d : Kd α} {t e : TypeId} (hs : P.cellsOf t = 1) (h : P.underlying t = some (.slice e)) (h0 : 0 < d.sz) (hb0 : 0 < P.bytesOf e) (hd : d.Opens P e) : (slice d).Opens P t := by
  refine ⟨hs, fun {H enc w base sp held fuel cs x} hx hw => ?_⟩
  rcases Deep.open_slice h hx with ⟨rfl, _⟩ | ⟨a, len, cap, m, n, D, Pl, rfl, hb, hl, hm, hmm, rfl, hel⟩
  · exact ⟨[], _, rfl, S.nil d _⟩
  · have hlm : len ≤ m := by rw [hmm]; split <;> omega
    have hmax : len ≤ 140737488351232 := by
      have := hw ((len + (m - len)) * P.bytesOf e) (by simp [DataW.weights, h])
      have h2 : len * 1 ≤ (len + (m - len)) * P.bytesOf e := Nat.mul_le_mul (by omega) hb0
      simp only [reachBytes] at this
      omega
    have key : ∀ i, i < len → ∃ y : α × List Value, d.K (vw w []) y.1 y.2 ∧ ∀ j u, y.2[j]? = some u → w.cell? (a.add (i * d.sz + j)) = some u := by
      intro i hi
      obtain ⟨cs', h1, h2⟩ := hel i (by omega)
      obtain ⟨y, hy⟩ := hd.2 h2 (fun n hn => hw n (by
        simp only [DataW.weights, h]
        exact List.mem_cons_of_mem _ (List.mem_append_left _ (weightsAll_mem (List.mem_map.2 ⟨i, List.mem_range.2 hi, rfl⟩) n hn))))
      refine ⟨(y, cs'), hy, fun j u hu => ?_⟩
      have := cells_get h1 j u hu
      rwa [hd.1, Deep.add_add] at this
    rcases Nat.eq_zero_or_pos len with rfl | hpos
    · exact ⟨[], .slice (some a) 0 cap, rfl, some a, cap, rfl, Nat.zero_le _, by simp, fun e => (by cases e), fun h => by simp at h⟩
    · obtain ⟨y0, k0, c0⟩ := key 0 hpos
      have : Inhabited (α × List Value) := ⟨y0⟩
      obtain ⟨Y, hY⟩ := Deep.choose_lt key
      have hlen := d.len (hY 0 hpos).1
      have hsp : a.spot = none := by
        have h1 := (hY 0 hpos).2 0 ((Y 0).2[0]'(by omega)) (List.getElem?_eq_getElem _)
        have h2 := spot_of_cell h1
        unfold Addr.add at h2
        simpa using h2
      obtain ⟨b, off, spot⟩ := a
      simp only at hsp
      subst hsp
      refine ⟨(List.range len).map fun i => (Y i).1, .slice (some ⟨b, off, none⟩) len cap, rfl, some ⟨b, off, none⟩, cap, by simp, by simpa using hl, by simp; omega, fun e => (by cases e), fun _ => ⟨b, off, rfl, fun j x hx => ?_⟩⟩
      have hj : j < len := by
        have := (List.getElem?_eq_some_iff.1 hx).1
        simpa using this
      rw [List.getElem?_map, List.getElem?_range hj] at hx
      simp only [Option.map_some, Option.some.injEq] at hx
      subst hx
      refine ⟨(Y j).2, (hY j hj).1, fun i u hu => vw_cell ?_⟩
      have := (hY j hj).2 i u hu
      have e : Addr.add ⟨b, off, none⟩ (j * d.sz + i) = ⟨b, off + j * d.sz + i, none⟩ := by
        unfold Addr.add
        split
        · rename_i h; rw [show off + j * d.sz + i = off by omega]
        · rw [Nat.add_assoc]
      rwa [e] at this
theorem open_slice_arg {P : Program} {d : Kd α} {t : TypeId} (ho : (slice d).Opens P t) {A : Option Addr} {n c : Nat} {H : Type} {enc : TypeId × Value → H} {w : World} {base : Nat} {sp : Nat → Bool} {held : Bool} {fuel : Nat} {x : DataW H × List MemPlace}
    (h : DataW.trod enc P w base sp held fuel t (Value.slice A n c).cells.toList = some x) (hw : ∀ n ∈ x.1.weights P t, n ≤ reachBytes) : ∃ xs, d.S (vw w []) (.slice A n c) xs := by
  obtain ⟨xs, v, e, hs⟩ := ho.2 h hw
  simp [Value.cells] at e
  subst e
  exact ⟨xs, hs⟩
end Kd
end Go.Proofs.Ytfbmfjmnpfidoaa
namespace Go.Proofs.Ytfbmfjmnpfidoaa
open Go.RowKit

/-! A region that draws its order, by one invariant: each operation is walked once, whatever came ahead of it. -/
def setL (L : Nat → Bool) (i : Nat) : Nat → Bool := fun j => if j = i then true else L j
theorem setL_same (L : Nat → Bool) (i : Nat) : setL L i i = true := if_pos rfl
theorem setL_ne {L : Nat → Bool} {i j : Nat} (h : j ≠ i) : setL L i j = L j := if_neg h
def depsOf (o : Oper) : List Nat := (o.after.toList.filter fun e => Region.binds .any e).map (·.on)
section
variable {P : Program} {ops : Array Oper} {Q : Exit → Act → World → Prop}
/-- What is asked of an operation. -/
def StepOk (P : Program) (ops : Array Oper) (Q : Exit → Act → World → Prop) (J : (Nat → Bool) → Act → World → Prop) (i : Nat) (o : Oper) : Prop :=
  ∀ (L : Nat → Bool) (a : Act) (w : World) (K : Act → World → Prop), J L a w → L i = false → (∀ k ∈ depsOf o, L k = true) → (∀ a' w', J (setL L i) a' w' → K a' w') →
    if Region.wanted o (yielded ops a.tmps) = true then o.wp P a w K Q else K (a.put o.dst undef) w
def StepsOk (P : Program) (ops : Array Oper) (Q : Exit → Act → World → Prop) (J : (Nat → Bool) → Act → World → Prop) : Nat → List Oper → Prop
  | _, [] => True
  | i, o :: r => StepOk P ops Q J i o ∧ StepsOk P ops Q J (i + 1) r
theorem StepsOk.get {J : (Nat → Bool) → Act → World → Prop} : ∀ (l : List Oper) (k : Nat), StepsOk P ops Q J k l → ∀ (i : Nat) (o : Oper), l[i]? = some o → StepOk P ops Q J (k + i) o
  | [], _, _, i, o, h => by simp at h
  | x :: r, k, hs, 0, o, h => by
    obtain rfl : x = o := by simpa using h
    exact hs.1
  | x :: r, k, hs, i + 1, o, h => by
    have := StepsOk.get r (k + 1) hs.2 i o (by simpa using h)
    rwa [show k + (i + 1) = k + 1 + i by omega]
def lexOk (ops : Array Oper) : Bool := (List.range ops.size).all fun i => ((ops[i]?).map fun o => o.after.all fun e => !Region.binds .any e || decide (e.on < i)).getD true
theorem lexOk_at (h : lexOk ops = true) {i : Nat} {o : Oper} (ho : ops[i]? = some o) : ∀ e ∈ o.after, Region.binds .any e = true → e.on < i := by
  intro e he hb
  have hi := (Array.getElem?_eq_some_iff.1 ho).1
  have := List.all_eq_true.1 h i (List.mem_range.2 hi)
  rw [ho] at this
  simp only [Option.map_some, Option.getD_some, Array.all_eq_true_iff_forall_mem] at this
  have := this e he
  simpa [hb] using this
theorem all_listed (hB : lexOk ops = true) {listed : Array Bool} (hs : listed.size = ops.size) (hr : Region.ready .any ops listed = []) : ∀ i, listed.getD i true = true := by
  intro i
  induction i using Nat.strongRecOn with
  | ind i ih =>
    rcases Nat.lt_or_ge i ops.size with hi | hi
    · cases hl : listed.getD i true with
      | true => rfl
      | false =>
        exfalso
        have hm : i ∈ Region.ready .any ops listed := by
          refine mem_ready.2 ⟨hl, ops[i], Array.getElem?_eq_getElem hi, fun e he hb => ?_⟩
          have hlt := lexOk_at hB (Array.getElem?_eq_getElem hi) e he hb
          have h1 := ih e.on hlt
          have h2 : e.on < listed.size := by omega
          simp only [Array.getD_eq_getD_getElem?, Array.getElem?_eq_getElem h2, Option.getD_some] at h1 ⊢
          exact h1
        rw [hr] at hm
        cases hm
    · have h2 : listed.size ≤ i := by omega
      simp [Array.getD_eq_getD_getElem?, Array.getElem?_eq_none h2]
theorem count_set : ∀ (l : List Bool) (i : Nat), l[i]? = some false → (l.set i true).count false + 1 = l.count false
  | [], i, h => by simp at h
  | b :: r, 0, h => by
    obtain rfl : b = false := by simpa using h
    simp
  | b :: r, i + 1, h => by
    have := count_set r i (by simpa using h)
    cases b <;> simp <;> omega
theorem wpAny_inv {J : (Nat → Bool) → Act → World → Prop} (hB : lexOk ops = true) (hst : StepsOk P ops Q J 0 ops.toList) (hend : ∀ L a w, J L a w → (∀ i, L i = true) → Q .normal a w) :
    ∀ (fuel : Nat) (listed : Array Bool) (a : Act) (w : World), listed.size = ops.size → listed.toList.count false ≤ fuel → J (fun i => listed.getD i true) a w → wpAny P .any ops Q fuel listed a w
  | 0, listed, a, w, hs, hc, hJ => by
    have hall : ∀ i, listed.getD i true = true := fun i => by
      rcases Nat.lt_or_ge i listed.size with h | h
      · cases hl : listed[i] with
        | true => simp [Array.getD_eq_getD_getElem?, Array.getElem?_eq_getElem h, hl]
        | false =>
          have : false ∈ listed.toList := by rw [← hl]; exact Array.mem_toList_iff.2 (Array.getElem_mem h)
          have := List.count_pos_iff.2 this
          omega
      · simp [Array.getD_eq_getD_getElem?, Array.getElem?_eq_none h]
    refine ⟨?_, hend _ a w hJ hall⟩
    cases hr : Region.ready .any ops listed with
    | nil => rfl
    | cons x r =>
      have := (mem_ready.1 (show x ∈ Region.ready .any ops listed by rw [hr]; exact List.mem_cons_self ..)).1
      rw [hall x] at this
      cases this
  | fuel + 1, listed, a, w, hs, hc, hJ => by
    refine ⟨fun hr => hend _ a w hJ (all_listed hB hs hr), fun i hi => ?_⟩
    obtain ⟨hl, o, ho, hd⟩ := mem_ready.1 hi
    have hlt : i < listed.size := by rw [hs]; exact (Array.getElem?_eq_some_iff.1 ho).1
    have hstep := StepsOk.get ops.toList 0 hst i o (by simpa using ho)
    rw [Nat.zero_add] at hstep
    have hlf : listed[i] = false := by simpa [Array.getD_eq_getD_getElem?, Array.getElem?_eq_getElem hlt] using hl
    have hset : (fun j => (listed.setIfInBounds i true).getD j true) = setL (fun j => listed.getD j true) i := funext fun j => by
      unfold setL
      by_cases e : j = i
      · subst e
        rw [if_pos rfl]
        simp [Array.getD_eq_getD_getElem?, hlt]
      · rw [if_neg e, getD_set_ne true (Ne.symm e)]
    have hcount : (listed.setIfInBounds i true).toList.count false ≤ fuel := by
      have := count_set listed.toList i (by simp [hlt, hlf])
      rw [Array.toList_setIfInBounds]
      omega
    unfold wpOp
    rw [ho]
    simp only
    have h := hstep (fun j => listed.getD j true) a w (wpAny P .any ops Q fuel (listed.setIfInBounds i true)) hJ hl (fun k hk => by
      unfold depsOf at hk
      obtain ⟨e, he, rfl⟩ := List.mem_map.1 hk
      obtain ⟨he, hb⟩ := List.mem_filter.1 he
      have h1 := hd e (by simpa using he) hb
      show listed.getD e.on true = true
      rcases Nat.lt_or_ge e.on listed.size with h | h
      · simpa [Array.getD_eq_getD_getElem?, Array.getElem?_eq_getElem h] using h1
      · simp [Array.getD_eq_getD_getElem?, Array.getElem?_eq_none h]) (fun a' w' hJ' => wpAny_inv hB hst hend fuel _ a' w' (by simpa using hs) hcount (by rw [hset]; exact hJ'))
    split
    · rename_i hw
      rw [if_pos hw] at h
      exact .inl h
    · rename_i hw
      rw [if_neg hw] at h
      exact h
theorem wp_region_inv (J : (Nat → Bool) → Act → World → Prop) {id : Nat} {a : Act} {w : World} (hm : P.follows .mixedOrders = true) (hB : lexOk ops = true) (h0 : ∀ L, (∀ i, i < ops.size → L i = false) → J L a w.drew) (hst : StepsOk P ops Q J 0 ops.toList)
    (hend : ∀ L a w, J L a w → (∀ i, L i = true) → Q .normal a w) : (Code.region id ops true).wp P Q a w :=
  wp_region_any hm (wpAny_inv hB hst hend _ _ _ _ (by simp) (by simp) (h0 _ (fun i hi => by simp [hi])))
/-- The slots that the region fills, in one list. -/
def putAll (a : Act) : List Nat → List Value → Act
  | t :: ts, v :: vs => putAll (a.put (some t) v) ts vs
  | _, _ => a
theorem put_self (a : Act) (t : Nat) : a.put (some t) (a.tmps.getD t undef) = a := by
  unfold Act.put
  simp only
  congr 1
  apply Array.ext
  · simp
  · intro i h1 h2
    rw [Array.getElem_setIfInBounds (by simpa using h1)]
    split
    · rename_i e
      subst e
      simp [Array.getD_eq_getD_getElem?, Array.getElem?_eq_getElem h2]
    · rfl
theorem putAll_self (a : Act) : ∀ ts : List Nat, ∃ vs, vs.length = ts.length ∧ putAll a ts vs = a
  | [] => ⟨[], rfl, rfl⟩
  | t :: ts => by
    obtain ⟨vs, h1, h2⟩ := putAll_self a ts
    exact ⟨a.tmps.getD t undef :: vs, by simp [h1], by show putAll (a.put _ _) ts vs = a; rw [put_self]; exact h2⟩
theorem wp_region_slots (ts : List Nat) (R : (Nat → Bool) → List Value → World → Prop) {id : Nat} {a : Act} {w : World} (hm : P.follows .mixedOrders = true) (hB : lexOk ops = true)
    (h0 : ∀ L vs, (∀ i, i < ops.size → L i = false) → vs.length = ts.length → R L vs w.drew) (hst : StepsOk P ops Q (fun L a' w' => ∃ vs, a' = putAll a ts vs ∧ R L vs w') 0 ops.toList)
    (hend : ∀ L vs w', R L vs w' → (∀ i, L i = true) → Q .normal (putAll a ts vs) w') : (Code.region id ops true).wp P Q a w := by
  obtain ⟨vs, h1, h2⟩ := putAll_self a ts
  exact wp_region_inv _ hm hB (fun L hL => ⟨vs, h2.symm, h0 L vs hL h1⟩) hst (fun L a' w' ⟨vs, e, h⟩ hL => by subst e; exact hend L vs w' h hL)
end
end Go.Proofs.Ytfbmfjmnpfidoaa
namespace Go.Proofs.Ytfbmfjmnpfidoaa
open Go.RowKit Go.ChangeShapes Go.WideShapes
/-! Structs: what their cells hold, field by field. -/
namespace Kd
variable {α β : Type}
def unit : Kd Unit where
  sz := 0
  K := fun _ _ cs => cs = []
  len := fun h => by rw [h]; rfl
  mono := fun _ h => h
def cons (d : Kd α) (e : Kd β) : Kd (α × β) where
  sz := d.sz + e.sz
  K := fun h x cs => ∃ a b, cs = a ++ b ∧ d.K h x.1 a ∧ e.K h x.2 b
  len := by rintro h x cs ⟨a, b, rfl, h1, h2⟩; rw [List.length_append, d.len h1, e.len h2]
  mono := by rintro h k x cs hk ⟨a, b, e1, h1, h2⟩; exact ⟨a, b, e1, d.mono hk h1, e.mono hk h2⟩
structure OpensFs (d : Kd α) (P : Program) (fs : List Field) (at_ : Nat) : Prop where
  out : ∀ {H : Type} {enc : TypeId × Value → H} {w : World} {base : Nat} {sp : Nat → Bool} {held : Bool} {n : Nat} {cs : List Value} {xs : List (DataW H × List MemPlace)},
    cs.length = at_ + d.sz → (∀ (i : Nat) (f : Field), fs[i]? = some f → DataW.trod enc P w base sp held n f.type ((cs.drop f.offset).take (P.cellsOf f.type)) = xs[i]?) → xs.length = fs.length →
    (∀ m ∈ DataW.weightsEach P (fs.map Field.type) (xs.map (·.1)), m ≤ reachBytes) → ∃ a, d.K (vw w []) a (cs.drop at_)
theorem opensFs_nil {P : Program} {at_ : Nat} : unit.OpensFs P [] at_ := ⟨fun {_ _ _ _ _ _ _ cs _} h _ _ _ => ⟨(), List.drop_eq_nil_of_le (by rw [h]; exact Nat.le_refl _)⟩⟩
theorem opensFs_cons {P : Program} {d : Kd α} {e : Kd β} {f : Field} {fs : List Field} {at_ : Nat} (ho : f.offset = at_) (hd : d.Opens P f.type) (he : e.OpensFs P fs (at_ + d.sz)) : (cons d e).OpensFs P (f :: fs) at_ := by
  refine ⟨fun {H enc w base sp held n cs xs} hl hf hx hw => ?_⟩
  cases xs with
  | nil => cases hx
  | cons y ys =>
    have h0 := hf 0 f rfl
    simp only [List.getElem?_cons_zero] at h0
    rw [ho, hd.1] at h0
    obtain ⟨a, ha⟩ := hd.2 h0 (fun m hm => hw m (by
      simp only [List.map_cons, DataW.weightsEach]
      exact List.mem_append_left _ hm))
    obtain ⟨b, hb⟩ := he.out (cs := cs) (xs := ys) (by simp only [cons] at hl; omega) (fun i g hg => by
      have := hf (i + 1) g (by simpa using hg)
      simpa using this) (by simpa using hx) (fun m hm => hw m (by
      simp only [List.map_cons, DataW.weightsEach]
      exact List.mem_append_right _ hm))
    refine ⟨(a, b), _, _, ?_, ha, hb⟩
    rw [← List.drop_drop, List.take_append_drop]
theorem opens_struct {P : Program} {d : Kd α} {t : TypeId} {fs : Array Field} (hs : P.cellsOf t = d.sz) (h : P.underlying t = some (.struct fs)) (ho : d.OpensFs P fs.toList 0) : d.Opens P t := by
  refine ⟨hs, fun {H enc w base sp held fuel cs x} hx hw => ?_⟩
  obtain ⟨xs, n, _, rfl, hl, hlen, hf⟩ := DataW.trod_struct h hx
  have := ho.out (cs := cs) (xs := xs) (n := n) (by omega) (fun i f hi => hf i f (by simpa using hi)) (by simpa using hlen) (fun m hm => hw m (by simpa only [DataW.weights, h] using hm))
  simpa using this
theorem Opens.conv {P : Program} {d : Kd α} {e : Kd β} {t : TypeId} (h : d.Opens P t) (hz : d.sz = e.sz) (hk : ∀ k a cs, d.K k a cs → ∃ b, e.K k b cs) : e.Opens P t :=
  ⟨h.1.trans hz, fun hx hw => by obtain ⟨a, ha⟩ := h.2 hx hw; exact hk _ _ _ ha⟩
end Kd
/-- The cells of an element, or of a struct, lie at an address of a world. -/
theorem range_of_view {w : World} {M : List Nat} {b o : Nat} {cs : List Value} (h : ∀ i u, cs[i]? = some u → (vw w M).cell? ⟨b, o + i, none⟩ = some u) : w.rangeAt b o cs := fun j v hv => cell_of_vw (h j v hv)
theorem range_block {w : World} {b : Nat} {cs : List Value} {t : TypeId} {fr : Nat × Nat} (h : w.heap[b]? = some (.cells cs.toArray t fr)) : w.rangeAt b 0 cs := fun j v hv => by
  rw [Nat.zero_add, cell_of_row w b j _ _ _ h]; simpa using hv
theorem range_cells {w : World} {b : Nat} {cs : List Value} {t : TypeId} {fr : Nat × Nat} (h : w.heap[b]? = some (.cells cs.toArray t fr)) : ∀ j v, cs[j]? = some v → w.cell? ⟨b, j, none⟩ = some v := fun j v hv => by
  rw [cell_of_row w b j _ _ _ h]; simpa using hv
namespace Kd
variable {α : Type}
/-- Cells without memory behind them, n of them. -/
def flat (n : Nat) (f : α → List Value) (p : α → Prop) (hn : ∀ x, (f x).length = n) : Kd α where
  sz := n
  K := fun _ x cs => cs = f x ∧ p x
  len := fun h => by rw [h.1]; exact hn _
  mono := fun _ h => h
theorem S.elemN {n : Nat} {f : α → List Value} {p : α → Prop} {hn : ∀ x, (f x).length = n} {w : World} {M : List Nat} {A : Option Addr} {m cap : Nat} {xs : List α} (s : (flat n f p hn).S (vw w M) (.slice A m cap) xs) (j : Nat) (hj : j < xs.length) :
    ∃ b off, A = some ⟨b, off, none⟩ ∧ w.rangeAt b (off + j * n) (f xs[j]) ∧ p xs[j] := by
  obtain ⟨b, off, cs, e, h1, h2⟩ := s.elem j hj
  obtain ⟨rfl, hp⟩ := h1
  exact ⟨b, off, e, range_of_view h2, hp⟩
end Kd
end Go.Proofs.Ytfbmfjmnpfidoaa
namespace Go.Proofs.Ytfbmfjmnpfidoaa
open Go.RowKit

/-! The program's data, and the document's, in plain words. -/
def lim : Nat := 140737488351232
structure Amt where
  name : ByteArray
  n : Int
structure Pair where
  key : ByteArray
  val : ByteArray
structure Term where
  op : Int
  key : ByteArray
  val : ByteArray
structure Tnt where
  key : ByteArray
  val : ByteArray
  b : Bool
structure Nd where
  name : ByteArray
  cap : List Amt
  labels : List Pair
  taints : List Tnt
  cordon : Bool
structure Pd where
  name : ByteArray
  owner : ByteArray
  prio : Int
  need : List Amt
  labels : List Pair
  sel : List Term
  tols : List Tnt
  key : ByteArray
  most : Int
  node : ByteArray
  hold : Bool
structure Bd where
  name : ByteArray
  sel : List Term
  floor : Int
structure St where
  nodes : List Nd
  pods : List Pd
  budgets : List Bd
def i64 (n : Int) : Prop := -9223372036854775808 ≤ n ∧ n ≤ 9223372036854775807
def sok (s : ByteArray) : Prop := s.size ≤ 140737488351232
namespace Kd
variable {α : Type}
/-- What an element's cells hold. -/
theorem S.at_ {d : Kd α} {w : World} {M : List Nat} {A : Option Addr} {m cap : Nat} {xs : List α} (s : d.S (vw w M) (.slice A m cap) xs) (j : Nat) (hj : j < xs.length) :
    ∃ b off cs, A = some ⟨b, off, none⟩ ∧ d.K (vw w M) xs[j] cs ∧ w.rangeAt b (off + j * d.sz) cs := by
  obtain ⟨b, off, cs, e, h1, h2⟩ := s.elem j hj
  exact ⟨b, off, cs, e, h1, range_of_view h2⟩
/-- The same, the element told of an older world. -/
theorem S.both {d : Kd α} {w wr : World} {A : Option Addr} {m cap : Nat} {xs : List α} (s : d.S (vw w []) (.slice A m cap) xs) (hb : Below w.heap.size w wr) (j : Nat) (hj : j < xs.length) :
    ∃ b off cs, A = some ⟨b, off, none⟩ ∧ d.K (vw w []) xs[j] cs ∧ wr.rangeAt b (off + j * d.sz) cs := by
  obtain ⟨b, off, cs, e, h1, h2⟩ := s.elem j hj
  exact ⟨b, off, cs, e, h1, range_of_view fun i u hu => View.cell_mono (vw_below hb) (h2 i u hu)⟩
/-- A struct by value. -/
def V (d : Kd α) (h : View) (v : Value) (x : α) : Prop := ∃ cs, v = .agg cs.toArray ∧ d.K h x cs
theorem V.mono {d : Kd α} {h k : View} {v : Value} {x : α} (hk : h.le k) (s : d.V h v x) : d.V k v x := by
  obtain ⟨cs, e, h1⟩ := s
  exact ⟨cs, e, d.mono hk h1⟩
def amt : Kd Amt := flat 2 (fun x => [.string x.name, .int .i64 x.n]) (fun x => sok x.name ∧ i64 x.n) (fun _ => rfl)
def pair : Kd Pair := flat 2 (fun x => [.string x.key, .string x.val]) (fun x => sok x.key ∧ sok x.val) (fun _ => rfl)
def term : Kd Term := flat 3 (fun x => [.int .i64 x.op, .string x.key, .string x.val]) (fun x => i64 x.op ∧ sok x.key ∧ sok x.val) (fun _ => rfl)
def tnt : Kd Tnt := flat 3 (fun x => [.string x.key, .string x.val, .bool x.b]) (fun x => sok x.key ∧ sok x.val) (fun _ => rfl)
def node : Kd Nd where
  sz := 5
  K := fun h x cs => ∃ A1 c1 A2 c2 A3 c3, cs = [.string x.name, .slice A1 x.cap.length c1, .slice A2 x.labels.length c2, .slice A3 x.taints.length c3, .bool x.cordon] ∧ sok x.name ∧
    amt.S h (.slice A1 x.cap.length c1) x.cap ∧ pair.S h (.slice A2 x.labels.length c2) x.labels ∧ tnt.S h (.slice A3 x.taints.length c3) x.taints
  len := by rintro h x cs ⟨_, _, _, _, _, _, rfl, _⟩; rfl
  mono := by rintro h k x cs hk ⟨A1, c1, A2, c2, A3, c3, e, h0, h1, h2, h3⟩; exact ⟨A1, c1, A2, c2, A3, c3, e, h0, h1.mono hk, h2.mono hk, h3.mono hk⟩
def PdOk (x : Pd) : Prop := (sok x.name ∧ sok x.owner ∧ i64 x.prio) ∧ sok x.key ∧ i64 x.most ∧ sok x.node
def pod : Kd Pd where
  sz := 11
  K := fun h x cs => ∃ A1 c1 A2 c2 A3 c3 A4 c4, cs = [.string x.name, .string x.owner, .int .i64 x.prio, .slice A1 x.need.length c1, .slice A2 x.labels.length c2, .slice A3 x.sel.length c3, .slice A4 x.tols.length c4, .string x.key, .int .i64 x.most, .string x.node, .bool x.hold] ∧ PdOk x ∧
    amt.S h (.slice A1 x.need.length c1) x.need ∧ pair.S h (.slice A2 x.labels.length c2) x.labels ∧ term.S h (.slice A3 x.sel.length c3) x.sel ∧ tnt.S h (.slice A4 x.tols.length c4) x.tols
  len := by rintro h x cs ⟨_, _, _, _, _, _, _, _, rfl, _⟩; rfl
  mono := by rintro h k x cs hk ⟨A1, c1, A2, c2, A3, c3, A4, c4, e, h0, h1, h2, h3, h4⟩; exact ⟨A1, c1, A2, c2, A3, c3, A4, c4, e, h0, h1.mono hk, h2.mono hk, h3.mono hk, h4.mono hk⟩
def budget : Kd Bd where
  sz := 3
  K := fun h x cs => ∃ A1 c1, cs = [.string x.name, .slice A1 x.sel.length c1, .int .i64 x.floor] ∧ (sok x.name ∧ i64 x.floor) ∧ term.S h (.slice A1 x.sel.length c1) x.sel
  len := by rintro h x cs ⟨_, _, rfl, _⟩; rfl
  mono := by rintro h k x cs hk ⟨A1, c1, e, h0, h1⟩; exact ⟨A1, c1, e, h0, h1.mono hk⟩
def state : Kd St where
  sz := 3
  K := fun h x cs => ∃ A1 c1 A2 c2 A3 c3, cs = [.slice A1 x.nodes.length c1, .slice A2 x.pods.length c2, .slice A3 x.budgets.length c3] ∧
    node.S h (.slice A1 x.nodes.length c1) x.nodes ∧ pod.S h (.slice A2 x.pods.length c2) x.pods ∧ budget.S h (.slice A3 x.budgets.length c3) x.budgets
  len := by rintro h x cs ⟨_, _, _, _, _, _, rfl, _⟩; rfl
  mono := by rintro h k x cs hk ⟨A1, c1, A2, c2, A3, c3, e, h1, h2, h3⟩; exact ⟨A1, c1, A2, c2, A3, c3, e, h1.mono hk, h2.mono hk, h3.mono hk⟩
/-- Whatever reads as a list is spelled by its length. -/
theorem S.val {d : Kd α} {h : View} {v : Value} {xs : List α} (s : d.S h v xs) : ∃ A c, v = .slice A xs.length c ∧ d.S h (.slice A xs.length c) xs := by
  obtain ⟨A, c, rfl, _⟩ := id s
  exact ⟨A, c, rfl, s⟩
end Kd
theorem wf_i64 {n : Int} (h : (Lit.int .i64 n).wf = true) : i64 n := by
  simp only [Lit.wf, Bool.and_eq_true, decide_eq_true_eq] at h
  exact h
end Go.Proofs.Ytfbmfjmnpfidoaa
namespace Go.Proofs.Ytfbmfjmnpfidoaa
open Go.RowKit

/-! append onto a row of the call's own, whatever the source (nil too). -/
section
variable {P : Program} (w : World) (base : Nat) (t e : TypeId) (i : TypeInfo) (z : Value) (size bytes : Nat) (ht : P.underlying t = some (.slice e)) (hi : P.info? e = some i) (hz : i.zero = some z)
  (hsize : i.size = size) (hby : i.bytes = bytes) (hzs : z.cells.size = size) (hsz : 0 < size) (v : Value) (n : Nat) (xs : List Value) (hown : w.ownsRow base e size v n xs)
  (A : Option Addr) (m c : Nat) (news : List Value) (hl : news.length = m * size) (hnil : A = none → m = 0) (hnews : ∀ ad, A = some ad → ∀ j u, news[j]? = some u → w.cell? (ad.add j) = some u)
  (h1 : ∀ u ∈ news, u.oneCell' = true) (h63 : n + m ≤ maxLen) (hbytes : (n + m) * bytes ≤ 140737488355328) (hbase : base ≤ w.heap.size)
include ht hi hz hsize hby hzs hsz hown hl hnil hnews h1 h63 hbytes hbase
theorem run_app (ty : TypeId) : ∃ v' w', (Builtin.append_ #[t, t] ty #[v, .slice A m c]).run P w = .ok v' w' ∧ w'.ownsRow base e size v' (n + m) (xs ++ news) ∧ w.grownBy w' v.ownBlock ∧ (v'.ownBlock = v.ownBlock ∨ v'.ownBlock = some w.heap.size) := by
  cases A with
  | none =>
    obtain rfl := hnil rfl
    obtain rfl : news = [] := List.eq_nil_of_length_eq_zero (by simpa using hl)
    refine ⟨v, w, ?_, by simpa using hown, World.grownBy.refl w _, .inl rfl⟩
    rcases hown.2 with ⟨rfl, rfl⟩ | ⟨g, cap, cur, rfl, _, _, hnc, _⟩
    · simp [Builtin.append_, run_underlying ht, sizeOf, typeInfo, hi, Builtin.lenOf, Builtin.firstCells]
    · simp [Builtin.append_, run_underlying ht, sizeOf, typeInfo, hi, Builtin.lenOf, Builtin.firstCells, hnc, storeCells]
  | some ad =>
    obtain ⟨v', w', hrun, h2, h3, _, h5⟩ := run_append_own_at (P := P) w base t ty e i z size bytes ht hi hz hsize hby hzs hsz v n xs hown ad m c news hl (hnews ad rfl) h1 h63 hbytes hbase
    exact ⟨v', w', hrun, h2, h3, h5⟩
variable {o : Oper} {a : Act} {K : Act → World → Prop} {Q : Exit → Act → World → Prop} (s x : Operand) (ho : o.op = .call { callee := .builtin .append, args := #[s, x], argTypes := #[t, t] }) (hs : a.eval s = v) (hx : a.eval x = .slice A m c)
include ho hs hx
theorem wp_app (h : ∀ v' w', w'.ownsRow base e size v' (n + m) (xs ++ news) → w.grownBy w' v.ownBlock → (v'.ownBlock = v.ownBlock ∨ v'.ownBlock = some w.heap.size) → K (a.put o.dst v') w') : o.wp P a w K Q := by
  obtain ⟨v', w', hrun, h2, h3, h4⟩ := run_app w base t e i z size bytes ht hi hz hsize hby hzs hsz v n xs hown A m c news hl hnil hnews h1 h63 hbytes hbase o.type
  unfold Oper.wp execOp
  simp only [ho, resolve, invoke, builtin, Sem.run_bind, Sem.run_pure, Result.andThen_ok, List.map_toArray, List.map_cons, List.map_nil, hs, hx, hrun]
  exact h v' w' h2 h3 h4
theorem wpList_app {ops : Array Oper} {rest : List Oper} (hgd : o.guard = none) (h : ∀ v' w', w'.ownsRow base e size v' (n + m) (xs ++ news) → w.grownBy w' v.ownBlock → (v'.ownBlock = v.ownBlock ∨ v'.ownBlock = some w.heap.size) → wpList P ops Q rest (a.put o.dst v') w') : wpList P ops Q (o :: rest) a w :=
  wpList_plain hgd fun _ hK => wp_app w base t e i z size bytes ht hi hz hsize hby hzs hsz v n xs hown A m c news hl hnil hnews h1 h63 hbytes hbase s x ho hs hx fun v' w' h2 h3 h4 => hK _ _ (h v' w' h2 h3 h4)
theorem step_app {ops : Array Oper} {E : Prop} (hgd : o.guard = none) (h : ∀ v' w', w'.ownsRow base e size v' (n + m) (xs ++ news) → w.grownBy w' v.ownBlock → (v'.ownBlock = v.ownBlock ∨ v'.ownBlock = some w.heap.size) → K (a.put o.dst v') w') :
    if Region.wanted o (yielded ops a.tmps) = true then Oper.wp P o a w K Q else E := by
  have hw : Region.wanted o (yielded ops a.tmps) = true := by simp [Region.wanted, hgd]
  rw [if_pos hw]
  exact wp_app w base t e i z size bytes ht hi hz hsize hby hzs hsz v n xs hown A m c news hl hnil hnews h1 h63 hbytes hbase s x ho hs hx h
end
end Go.Proofs.Ytfbmfjmnpfidoaa
namespace Go.Proofs.Ytfbmfjmnpfidoaa
open Go.RowKit

/-! Rows of a call's own, of whatever elements. -/
/-- All blocks from lo on, but for one. -/
def nx (w : World) (lo : Nat) (own : Option Nat) : View := fun b => if b < lo ∨ own = some b then none else w.heap[b]?
theorem nx_eq {w : World} {lo : Nat} {own : Option Nat} {b : Nat} {o : Obj} (h : nx w lo own b = some o) : ¬ b < lo ∧ own ≠ some b ∧ w.heap[b]? = some o := by
  unfold nx at h
  split at h
  · cases h
  · rename_i k
    exact ⟨fun e => k (.inl e), fun e => k (.inr e), h⟩
theorem nx_mk {w : World} {lo : Nat} {own : Option Nat} {b : Nat} {o : Obj} (h : lo ≤ b) (h2 : own ≠ some b) (h3 : w.heap[b]? = some o) : nx w lo own b = some o := by
  unfold nx
  rw [if_neg (by rintro (e | e); omega; exact h2 e)]; exact h3
theorem nx_vw {w : World} {lo : Nat} {own : Option Nat} {M : List Nat} (h : ∀ x, x ∈ M → x < lo ∨ own = some x) : (nx w lo own).le (vw w M) := fun b o hb => by
  obtain ⟨h1, h2, h3⟩ := nx_eq hb
  exact vw_mk (fun hm => by rcases h b hm with e | e; exact h1 e; exact h2 e) h3
theorem vw_nx {w : World} {lo : Nat} {own : Option Nat} {M : List Nat} (h : ∀ b, (b < lo ∨ own = some b) → b ∈ M) : (vw w M).le (nx w lo own) := fun b o hb => by
  obtain ⟨h1, h2⟩ := vw_eq hb
  exact nx_mk (by rcases Nat.lt_or_ge b lo with e | e; exact absurd (h b (.inl e)) h1; exact e) (fun e => h1 (h b (.inr e))) h2
theorem nx_below {w w' : World} {lo : Nat} {own : Option Nat} (h : Below w.heap.size w w') : (nx w lo own).le (nx w' lo own) := fun b o hb => by
  obtain ⟨h1, h2, h3⟩ := nx_eq hb
  exact nx_mk (by omega) h2 ((h.block b (blk_lt h3)).trans h3)
/-- What is new and what was read: both lie apart from a row of the call's own. -/
theorem nx_new {w w' : World} {lo lo' : Nat} {own own' : Option Nat} (h : lo ≤ lo') (k : ∀ b, own = some b → b < lo' ∨ own' = some b) (e : w = w') : (nx w lo' own').le (nx w' lo own) := fun b o hb => by
  subst e
  obtain ⟨h1, h2, h3⟩ := nx_eq hb
  exact nx_mk (by omega) (fun e => by rcases k b e with q | q; exact h1 q; exact h2 q) h3
theorem vw_own {w w' : World} {own : Option Nat} (h : Below w.heap.size w w') (k : ∀ b, own = some b → w.heap.size ≤ b) : (vw w []).le (nx w' 0 own) := fun b o hb => by
  obtain ⟨_, h2⟩ := vw_eq hb
  have := blk_lt h2
  exact nx_mk (Nat.zero_le _) (fun e => by have := k b e; omega) ((h.block b this).trans h2)
theorem nx_grown {w w' : World} {lo : Nat} {own own' : Option Nat} (h : w.grownBy w' own) (k : own' = own ∨ own' = some w.heap.size) : (nx w lo own).le (nx w' lo own') := fun b o hb => by
  obtain ⟨h1, h2, h3⟩ := nx_eq hb
  have h4 := blk_lt h3
  refine nx_mk (by omega) (fun e => ?_) ((h.block b h4 (Ne.symm h2)).trans h3)
  rcases k with k | k
  · exact h2 (k ▸ e)
  · rw [k] at e; injection e with e; omega
theorem flatten_len {n : Nat} : ∀ (css : List (List Value)), (∀ c ∈ css, c.length = n) → css.flatten.length = css.length * n
  | [], _ => by simp
  | c :: r, h => by
    rw [List.flatten_cons, List.length_append, flatten_len r (fun x hx => h x (List.mem_cons_of_mem _ hx)), h c (List.mem_cons_self ..), List.length_cons, Nat.add_mul]; omega
theorem flatten_get {n : Nat} : ∀ (css : List (List Value)), (∀ c ∈ css, c.length = n) → ∀ (j i : Nat) (c : List Value), css[j]? = some c → i < n → css.flatten[j * n + i]? = c[i]?
  | [], _, j, i, c, h, _ => by simp at h
  | a :: r, hn, 0, i, c, h, hi => by
    simp only [List.getElem?_cons_zero, Option.some.injEq] at h
    subst h
    have := hn a (List.mem_cons_self ..)
    rw [List.flatten_cons, Nat.zero_mul, Nat.zero_add, List.getElem?_append_left (by omega)]
  | a :: r, hn, j + 1, i, c, h, hi => by
    have h1 := hn a (List.mem_cons_self ..)
    rw [List.flatten_cons, Nat.add_mul, Nat.one_mul, List.getElem?_append_right (by omega), show j * n + n + i - a.length = j * n + i by omega]
    exact flatten_get r (fun x hx => hn x (List.mem_cons_of_mem _ hx)) j i c (by simpa using h) hi
namespace Kd
variable {α : Type}
def Own (d : Kd α) (w : World) (base : Nat) (e : TypeId) (lo : Nat) (v : Value) (xs : List α) : Prop :=
  ∃ css : List (List Value), css.length = xs.length ∧ (∀ (j : Nat) (x : α), xs[j]? = some x → ∃ cs, css[j]? = some cs ∧ d.K (nx w lo v.ownBlock) x cs) ∧ w.ownsRow base e d.sz v xs.length css.flatten
theorem Own.nil (d : Kd α) (w : World) (base : Nat) (e : TypeId) (lo : Nat) : d.Own w base e lo (.slice none 0 0) [] := ⟨[], rfl, fun j x h => by simp at h, World.ownsRow_nil _ _ _ _⟩
theorem Own.row {d : Kd α} {w : World} {base : Nat} {e : TypeId} {lo : Nat} {v : Value} {xs : List α} (h : d.Own w base e lo v xs) : ∃ cs, w.ownsRow base e d.sz v xs.length cs := by
  obtain ⟨css, _, _, h⟩ := h
  exact ⟨_, h⟩
theorem Own.below {d : Kd α} {w w' : World} {base : Nat} {e : TypeId} {lo : Nat} {v : Value} {xs : List α} (h : d.Own w base e lo v xs) (hb : Below w.heap.size w w') : d.Own w' base e lo v xs := by
  obtain ⟨css, h1, h2, h3⟩ := h
  exact ⟨css, h1, fun j x hx => by obtain ⟨cs, a, b⟩ := h2 j x hx; exact ⟨cs, a, d.mono (nx_below hb) b⟩, own_below h3 hb⟩
/-- One element more. -/
theorem Own.snoc {d : Kd α} {w w1 w' : World} {base : Nat} {e : TypeId} {lo : Nat} {v v' : Value} {xs : List α} {x : α} {cs : List Value} {css : List (List Value)} (h1 : css.length = xs.length)
    (h2 : ∀ (j : Nat) (x : α), xs[j]? = some x → ∃ cs, css[j]? = some cs ∧ d.K (nx w lo v.ownBlock) x cs) (hk : d.K (nx w1 lo v.ownBlock) x cs) (hb : Below w.heap.size w w1)
    (ho : w'.ownsRow base e d.sz v' (xs.length + 1) (css.flatten ++ cs)) (hg : w1.grownBy w' v.ownBlock) (hv : v'.ownBlock = v.ownBlock ∨ v'.ownBlock = some w1.heap.size) :
    d.Own w' base e lo v' (xs ++ [x]) := by
  have hm := nx_grown (lo := lo) hg hv
  refine ⟨css ++ [cs], by simp [h1], fun j y hy => ?_, by rw [List.length_append, List.flatten_append]; simpa using ho⟩
  rcases Nat.lt_or_ge j xs.length with hlt | hge
  · rw [List.getElem?_append_left hlt] at hy
    obtain ⟨c, a, b⟩ := h2 j y hy
    exact ⟨c, by rw [List.getElem?_append_left (by omega)]; exact a, d.mono hm (d.mono (nx_below hb) b)⟩
  · rw [List.getElem?_append_right hge] at hy
    have hj : j = xs.length := by
      have := (List.getElem?_eq_some_iff.1 hy).1
      simp at this; omega
    subst hj
    simp only [Nat.sub_self, List.getElem?_cons_zero, Option.some.injEq] at hy
    subst hy
    exact ⟨cs, by rw [List.getElem?_append_right (by omega), ← h1, Nat.sub_self]; rfl, d.mono hm hk⟩
theorem Own.S {d : Kd α} {w : World} {base : Nat} {e : TypeId} {lo : Nat} {v : Value} {xs : List α} (h : d.Own w base e lo v xs) (hlo : lo ≤ base) (hl : xs.length ≤ 140737488351232) : d.S (nx w lo none) v xs := by
  obtain ⟨css, h1, h2, h3⟩ := h
  have hlen : ∀ c ∈ css, c.length = d.sz := fun c hc => by
    obtain ⟨j, hj, rfl⟩ := List.getElem_of_mem hc
    obtain ⟨cs, a, b⟩ := h2 j xs[j] (List.getElem?_eq_getElem (by omega))
    rw [List.getElem?_eq_getElem hj] at a
    injection a with a
    rw [a]; exact d.len b
  rcases h3.2 with ⟨rfl, h0⟩ | ⟨g, cap, cur, rfl, hg, hh, hn, hc, hs, ht⟩
  · have : xs = [] := List.eq_nil_of_length_eq_zero h0
    subst this
    exact S.nil _ _
  · refine ⟨_, cap, rfl, hn, hl, fun e => (by cases e), fun _ => ⟨g, 0, rfl, fun j x hx => ?_⟩⟩
    obtain ⟨cs, a, b⟩ := h2 j x hx
    refine ⟨cs, d.mono (fun b o hb => ?_) b, fun i u hu => ?_⟩
    · obtain ⟨q1, q2, q3⟩ := nx_eq hb
      exact nx_mk (by omega) (by simp) q3
    · have hi : i < d.sz := by have := (List.getElem?_eq_some_iff.1 hu).1; rw [d.len b] at this; exact this
      have hj : j < xs.length := (List.getElem?_eq_some_iff.1 hx).1
      have h4 := flatten_get css hlen j i cs a hi
      rw [hu, ← ht, List.getElem?_take, if_pos (by
        have : j * d.sz + i < (j + 1) * d.sz := by rw [Nat.add_mul]; omega
        have := Nat.mul_le_mul_right d.sz (show j + 1 ≤ xs.length by omega)
        omega)] at h4
      have : (nx w lo none) g = some (.cells cur e (0, 0)) := nx_mk (by omega) (by simp) hh
      simp [View.cell?, this]
      simpa using h4
end Kd
end Go.Proofs.Ytfbmfjmnpfidoaa
namespace Go.Proofs.Ytfbmfjmnpfidoaa
open Go.RowKit

/-- The value with which qty.Stop breaks off. -/
def stopV (n : Int) : Value := .iface 138 (.agg #[.int .i64 n])

theorem assert_stop (n : Int) (w : World) :
    (Instr.typeAssert (.iface 138 (.agg #[.int .i64 n])) 20 138 true).run Try.prog w = .ok (.tuple #[.agg #[.int .i64 n], .bool true]) w := by
  kernel_rfl

theorem lt_of_block {w : World} {b : Nat} {o : Obj} (h : w.heap[b]? = some o) : b < w.heap.size := by
  rcases Nat.lt_or_ge b w.heap.size with k | k
  · exact k
  · simp [Array.getElem?_eq_none k] at h

theorem try1_panic (b : Nat) (n y : Int) (older : List PanicEntry) (w : World) (hb : w.heap[b]? = some (.cells #[.int .i64 y] 94 (0, 0))) :
    CallsD Try.prog 69 #[.pointer (some ⟨b, 0, none⟩)] (.panicking ({ v := stopV n, recovered := false } :: older)) w fun e u' w' =>
      e = .returned (.tuple #[]) ∧ u' = .panicking ({ v := stopV n, recovered := true } :: older) ∧ w' = (w.setCell ⟨b, 0, none⟩ (.int .i64 n)).alloc (.cells #[.int .i64 n] 138 (0, 0)) := by
  have hlt := lt_of_block hb
  have hcell : w.cell? ⟨b, 0, none⟩ = some (.int .i64 y) := by simp [World.cell?, hb]
  have hfree : w.frozen? ⟨b, 0, none⟩ = false := by simp [World.frozen?, hb]
  have hta := assert_stop n
  clear hb
  refine callsD_of_wpS Try.func69 rfl fun c₀ cs hu => ?_
  apply wpS_seq
  apply wpS_region
  simp [wpOpsS, go_sem, recoverD, hu, Try.ntmps69, Exit.thenS, stopV]
  clear hu
  refine wpS_of_wp ?_
  generalize hQ : (fun e a' w' => bodyPostS _ _ _ _ _ e a' _ w') = Q
  have HQ := Lib.hid hQ
  clear hQ
  simp only [Array.replicate_succ, Array.replicate_zero, List.push_toArray, List.append_toArray, List.nil_append, List.cons_append, List.setIfInBounds_toArray, List.set]
  go_wp2
  rw [← HQ.out]
  exact ⟨rfl, _, rfl, .tuple #[], results_none rfl _ _ _, rfl, rfl, rfl⟩

theorem try1_idle (a : Value) (w : World) :
    CallsD Try.prog 69 #[a] .returning w fun e u' w' => e = .returned (.tuple #[]) ∧ u' = .returning ∧ w' = w := by
  refine callsD_of_wpS Try.func69 rfl fun c₀ cs hu => ?_
  apply wpS_seq
  apply wpS_region
  simp [wpOpsS, go_sem, recoverD, hu, Try.ntmps69, Exit.thenS]
  refine wpS_of_wp ?_
  generalize hQ : (fun e a' w' => bodyPostS _ _ _ _ _ e a' _ w') = Q
  have HQ := Lib.hid hQ
  have HU := Lib.hid hu
  clear hQ hu
  go_wp2
  rw [← HQ.out]
  refine ⟨rfl, .returning, ?_, .tuple #[], results_none rfl _ _ _, rfl, rfl, rfl⟩
  have := HU.out
  cases c₀
  simp_all

/-- w' is w2 but for block b; what is new lies behind. -/
structure But (b : Nat) (w w' : World) : Prop where
  os : w'.os = w.os
  tape : w'.tape = w.tape
  output : w'.output = w.output
  size : w.heap.size ≤ w'.heap.size
  block : ∀ k, k < w.heap.size → k ≠ b → w'.heap[k]? = w.heap[k]?

/-- What a function handed to Try comes to: it returns (n = 0), or breaks off with n. The result's cell at b stays what it is. -/
def Tries (b : Nat) (w1 : World) (R : Int → World → Prop) (e : Ending) (w2 : World) : Prop :=
  w2.heap[b]? = w1.heap[b]? ∧ ((∃ v, e = .returned v ∧ R 0 w2) ∨ (∃ n, n ≠ 0 ∧ e = .panicked [{ v := stopV n, recovered := false }] ∧ R n w2))

theorem heap_setCell_same {w : World} {b : Nat} {x y : Value} {t : TypeId} (h : w.heap[b]? = some (.cells #[x] t (0, 0))) : (w.setCell ⟨b, 0, none⟩ y).heap[b]? = some (.cells #[y] t (0, 0)) := by
  simp [World.setCell, Array.getElem?_modify, h]

theorem heap_alloc (w : World) (o : Obj) : (w.alloc o).heap = w.heap.push o := rfl
theorem But.refl (b : Nat) (w : World) : But b w w := ⟨rfl, rfl, rfl, Nat.le_refl _, fun _ _ _ => rfl⟩
theorem But.setCell {b : Nat} {w w' : World} (h : But b w w') (y : Value) : But b w (w'.setCell ⟨b, 0, none⟩ y) :=
  ⟨h.os, h.tape, h.output, by simpa [World.setCell] using h.size, fun k hk hne => by rw [Below.heap_setCell w' ⟨b, 0, none⟩ y k hne]; exact h.block k hk hne⟩
theorem But.alloc {b : Nat} {w w' : World} (h : But b w w') (o : Obj) : But b w (w'.alloc o) :=
  ⟨h.os, h.tape, h.output, by have := h.size; rw [heap_alloc, Array.size_push]; omega, fun k hk hne => by
    have := h.size
    rw [← h.block k hk hne]
    rw [heap_alloc, Array.getElem?_push_lt (by omega), Array.getElem?_eq_getElem (by omega)]⟩

theorem try_calls (F : FuncId) (caps : Array Value) (w : World) (R : Int → World → Prop)
    (hF : ∀ w, (callFunc F caps).run Try.prog w = .ok (.enter F caps) w)
    (h : Calls Try.prog F caps (w.alloc (.cells #[.int .i64 0] 94)) (Tries w.heap.size (w.alloc (.cells #[.int .i64 0] 94)) R)) :
    Calls Try.prog 46 #[.func (.func F) #[] caps] w fun e w' => ∃ n w2, e = .returned (.int .i64 n) ∧ R n w2 ∧ But w.heap.size w2 w' := by
  have hmf : ∀ (fn : Fn) (first cap : Array Value) (w : World), (Instr.makeFunc fn first cap).run Try.prog w = .ok (.func fn first cap) w := fun _ _ _ _ => rfl
  have H := Lib.hid h
  clear h
  go_enter_defers Try.func46, Try.ntmps46
  go_wp2_with fail
  refine H.out.mono ?_
  rintro e w2 ⟨hb, h⟩
  have hb : w2.heap[w.heap.size]? = some (.cells #[.int .i64 0] 94 (0, 0)) := by rw [hb, heap_alloc]; simp
  have hc : w2.cell? ⟨w.heap.size, 0, none⟩ = some (.int .i64 0) := by simp [World.cell?, hb]
  have hf : w2.frozen? ⟨w.heap.size, 0, none⟩ = false := by simp [World.frozen?, hb]
  have HB := Lib.hid hb
  clear hb
  rcases h with ⟨v, rfl, hr⟩ | ⟨n, hn, rfl, hr⟩
  · have HR := Lib.hid hr
    clear hr
    simp only
    go_wp2
    refine leaves_cons (f := 69) (args := #[.pointer (some ⟨w.heap.size, 0, none⟩)]) (by simp) (by simp [go_sem]) ?_
    refine (try1_idle _ _).mono ?_
    rintro e u' w'' ⟨rfl, rfl, rfl⟩
    refine ⟨.int .i64 0, ?_, 0, w2, rfl, HR.out, (But.refl _ _).setCell _⟩
    simp [results, Try.results46, go_sem, hc, hf]
  · have HR := Lib.hid hr
    clear hr
    refine leaves_cons (f := 69) (args := #[.pointer (some ⟨w.heap.size, 0, none⟩)]) (by simp) (by simp [go_sem]) ?_
    refine (try1_panic _ n 0 [] _ HB.out).mono ?_
    rintro e u' w'' ⟨rfl, rfl, rfl⟩
    have h1 := heap_setCell_same (y := .int .i64 n) HB.out
    have h2 := lt_of_block HB.out
    refine ⟨.int .i64 n, ?_, n, w2, rfl, HR.out, ((But.refl _ _).setCell _).alloc _⟩
    simp [results, Try.results46, go_sem, hc, hf, h2]
end Go.Proofs.Ytfbmfjmnpfidoaa
namespace Go.Proofs.Ytfbmfjmnpfidoaa
open Go.RowKit

theorem But.below {b B : Nat} {w w' : World} (h : But b w w') (hb : B ≤ b) (hB : B ≤ w.heap.size) : Below B w w' :=
  ⟨h.os, h.tape, h.output, h.size, fun k hk => h.block k (by omega) (by omega)⟩
theorem vw_but {b : Nat} {w w' : World} {M : List Nat} (h : But b w w') (hm : b ∈ M) : (vw w M).le (vw w' M) := fun k o hk => by
  obtain ⟨h1, h2⟩ := vw_eq hk
  exact vw_mk h1 ((h.block k (blk_lt h2) (fun e => h1 (e ▸ hm))).trans h2)
theorem stop_ok (w : World) : Calls Try.prog 55 #[.int .i64 0] w fun e w' => e = .returned (.tuple #[]) ∧ w' = w := by
  go_enter Try.func55, Try.ntmps55
  go_wp2
  go_end0
  exact ⟨rfl, rfl⟩
theorem stop_bad (n : Int) (w : World) (h : n ≠ 0) : Calls Try.prog 55 #[.int .i64 n] w fun e w' => e = .panicked [{ v := stopV n, recovered := false }] ∧ w' = w := by
  have hb : (n != 0) = true := by simpa using h
  clear h
  go_enter Try.func55, Try.ntmps55
  go_wp2
  exact ⟨rfl, rfl, rfl⟩
end Go.Proofs.Ytfbmfjmnpfidoaa
namespace Go.Proofs.Ytfbmfjmnpfidoaa
open Go.RowKit

/-! A struct that lies in a block of the call's own: written whole, handed back. -/
theorem setCells_far (b : Nat) : ∀ (cs : List Value) (o : Nat) (w : World) (k : Nat), k ≠ b → (w.setCells b o cs).heap[k]? = w.heap[k]?
  | [], _, _, _, _ => rfl
  | v :: r, o, w, k, h => by rw [World.setCells, setCells_far b r (o + 1) _ k h]; exact Below.heap_setCell w ⟨b, o, none⟩ v k h
theorem setCells_same (b : Nat) {T : TypeId} {fr : Nat × Nat} : ∀ (cs : List Value) (o : Nat) (w : World) (old : List Value), w.heap[b]? = some (.cells old.toArray T fr) → o + cs.length = old.length →
    (w.setCells b o cs).heap[b]? = some (.cells (old.take o ++ cs).toArray T fr)
  | [], o, w, old, h, hl => by
    rw [World.setCells, h, List.append_nil, List.take_of_length_le (by simp at hl; omega)]
  | v :: r, o, w, old, h, hl => by
    simp only [List.length_cons] at hl
    have h1 : (w.setCell ⟨b, o, none⟩ v).heap[b]? = some (.cells (old.set o v).toArray T fr) := by
      simp [World.setCell, Array.getElem?_modify, h]
    rw [World.setCells, setCells_same b r (o + 1) _ _ h1 (by rw [List.length_set]; omega)]
    congr 3
    rw [List.take_set, List.take_succ_eq_append_getElem (by omega), List.set_append_right _ _ (by simp; omega)]
    simp [List.length_take, show min o old.length = o by omega]
theorem setCells_size (b : Nat) : ∀ (cs : List Value) (o : Nat) (w : World), (w.setCells b o cs).heap.size = w.heap.size
  | [], _, _ => rfl
  | v :: r, o, w => by rw [World.setCells, setCells_size b r (o + 1)]; simp [World.setCell]
theorem setCells_all {w : World} {b : Nat} {T : TypeId} {fr : Nat × Nat} {old cs : List Value} (h : w.heap[b]? = some (.cells old.toArray T fr)) (hl : cs.length = old.length) : (w.setCells b 0 cs).heap[b]? = some (.cells cs.toArray T fr) := by
  have := setCells_same b cs 0 w old h (by omega)
  simpa using this
theorem Below.setCells {B : Nat} {w0 w : World} (h : Below B w0 w) {b : Nat} (hb : B ≤ b) : ∀ (cs : List Value) (o : Nat), Below B w0 (w.setCells b o cs) := by
  intro cs
  induction cs generalizing w with
  | nil => exact fun _ => h
  | cons v r ih => exact fun o => ih (h.setCell hb v) (o + 1)
theorem there_block {w : World} {b : Nat} {T : TypeId} {cs : List Value} (h : w.heap[b]? = some (.cells cs.toArray T (0, 0))) (n : Nat) (hn : n ≤ cs.length) : w.there b 0 n := fun j hj => by
  rw [Nat.zero_add]
  exact ⟨by rw [cell_of_row w b j _ _ _ h]; simp; omega, by simp [World.frozen?, h]⟩
theorem setCells_below {w : World} {b : Nat} (cs : List Value) (o : Nat) {B : Nat} (hb : B ≤ b) : Below B w (w.setCells b o cs) := Below.setCells (Below.refl _ _) hb cs o
section
variable {P : Program} {fn : Func} {R : Ending → World → Prop} {a : Act} {w : World} {p q r : Tmp} {ty T : TypeId} {g : Nat} {cs : List Value} {d : TypeDesc}
theorem ret_row1 (hr : fn.results = #[.cell p ty]) (hp : a.tmps.getD p undef = .pointer (some ⟨g, 0, none⟩)) (hg : w.heap[g]? = some (.cells cs.toArray T (0, 0))) (hu : P.underlying ty = some d) (hd : d.isRow = true)
    (hi : (P.info? ty).map (·.size) = some cs.length) (hdf : a.defers = []) (hR : R (.returned (.agg cs.toArray)) w) : bodyPost P fn R .ret a w := by
  refine bodyPost_ret (v := .agg cs.toArray) ?_ hdf hR
  have h1 := run_loadVar_mid w g 0 ty cs d (range_block hg) hu hd hi
  have hp' : a.tmps[p]?.getD undef = .pointer (some ⟨g, 0, none⟩) := by simpa using hp
  simp [results, hr, hp', asAddr, h1]
theorem ret_row2 (hr : fn.results = #[.cell p ty, .tmp q]) (hp : a.tmps.getD p undef = .pointer (some ⟨g, 0, none⟩)) (hg : w.heap[g]? = some (.cells cs.toArray T (0, 0))) (hu : P.underlying ty = some d) (hd : d.isRow = true)
    (hi : (P.info? ty).map (·.size) = some cs.length) (hdf : a.defers = []) (hR : R (.returned (.tuple #[.agg cs.toArray, a.tmps.getD q undef])) w) : bodyPost P fn R .ret a w := by
  refine bodyPost_ret (v := .tuple #[.agg cs.toArray, a.tmps.getD q undef]) ?_ hdf hR
  have h1 := run_loadVar_mid w g 0 ty cs d (range_block hg) hu hd hi
  have hp' : a.tmps[p]?.getD undef = .pointer (some ⟨g, 0, none⟩) := by simpa using hp
  simp [results, hr, hp', asAddr, h1]
theorem ret_row3 (hr : fn.results = #[.cell p ty, .tmp q, .tmp r]) (hp : a.tmps.getD p undef = .pointer (some ⟨g, 0, none⟩)) (hg : w.heap[g]? = some (.cells cs.toArray T (0, 0))) (hu : P.underlying ty = some d) (hd : d.isRow = true)
    (hi : (P.info? ty).map (·.size) = some cs.length) (hdf : a.defers = []) (hR : R (.returned (.tuple #[.agg cs.toArray, a.tmps.getD q undef, a.tmps.getD r undef])) w) : bodyPost P fn R .ret a w := by
  refine bodyPost_ret (v := .tuple #[.agg cs.toArray, a.tmps.getD q undef, a.tmps.getD r undef]) ?_ hdf hR
  have h1 := run_loadVar_mid w g 0 ty cs d (range_block hg) hu hd hi
  have hp' : a.tmps[p]?.getD undef = .pointer (some ⟨g, 0, none⟩) := by simpa using hp
  simp [results, hr, hp', asAddr, h1]
end
end Go.Proofs.Ytfbmfjmnpfidoaa
namespace Go.Proofs.Ytfbmfjmnpfidoaa
open Go.RowKit

theorem drewN_below (w : World) (n : Nat) : Below w.heap.size w (w.drewN n) := below_drewN (Below.refl _ _) n
theorem alloc_below (w : World) (o : Obj) : Below w.heap.size w (w.alloc o) := (Below.refl _ _).alloc (Nat.le_refl _) o
theorem Below.then {w w1 w2 : World} (h : Below w.heap.size w w1) (k : Below w1.heap.size w1 w2) : Below w.heap.size w w2 := h.trans (k.mono h.size)
theorem Below.thenN {B : Nat} {w w1 w2 : World} (h : Below B w w1) (hB : B ≤ w1.heap.size) (k : Below w1.heap.size w1 w2) : Below B w w2 := h.trans (k.mono hB)
theorem empty_beq (a : ByteArray) : (a.toList.isEmpty) = decide (a = ⟨#[]⟩) := by
  have h1 := Lib.bytes_beq_false_iff a ⟨#[]⟩
  have h0 : (⟨#[]⟩ : ByteArray).toList = [] := by unfold ByteArray.toList ByteArray.toList.loop; rfl
  rw [h0] at h1
  by_cases h : a = ⟨#[]⟩
  · rw [decide_eq_true h, h, h0]; rfl
  · have := h1.2 h
    rw [decide_eq_false h]
    cases he : a.toList with
    | nil => rw [he] at this; cases this
    | cons _ _ => rfl
def getV : List Pair → ByteArray → ByteArray × Bool
  | [], _ => (⟨#[]⟩, false)
  | p :: r, k => if p.key = k then (p.val, true) else getV r k
def zNd : Nd := ⟨⟨#[]⟩, [], [], [], false⟩
def findV : List Nd → ByteArray → Nd × Bool
  | [], _ => (zNd, false)
  | n :: r, k => if n.name = k then (n, true) else findV r k
theorem getV_at {l : List Pair} {j : Nat} (h : j < l.length) (key : ByteArray) : getV (l.drop j) key = if l[j].key = key then (l[j].val, true) else getV (l.drop (j + 1)) key := by
  rw [List.drop_eq_getElem_cons h]; rfl
theorem findV_at {l : List Nd} {j : Nat} (h : j < l.length) (key : ByteArray) : findV (l.drop j) key = if l[j].name = key then (l[j], true) else findV (l.drop (j + 1)) key := by
  rw [List.drop_eq_getElem_cons h]; rfl
theorem blk_all {w : World} {p : Nat} {cs : Array Value} {T : TypeId} (h : w.heap[p]? = some (.cells cs T (0, 0))) : (∀ j, w.cell? ⟨p, j, none⟩ = cs[j]?) ∧ ∀ j, w.frozen? ⟨p, j, none⟩ = false :=
  ⟨fun j => cell_of_row w p j _ _ _ h, fun j => by simp [World.frozen?, h]⟩
theorem blk_set {w : World} {p j : Nat} {cs : Array Value} {T : TypeId} {fr : Nat × Nat} (h : w.heap[p]? = some (.cells cs T fr)) (u : Value) : (w.setCell ⟨p, j, none⟩ u).heap[p]? = some (.cells (cs.setIfInBounds j u) T fr) := by
  simp [World.setCell, Array.getElem?_modify, h]
theorem ret_sb {a : ByteArray} {b : Bool} {r : ByteArray × Bool} (h : (a, b) = r) : Ending.returned (.tuple #[.string a, .bool b]) = .returned (.tuple #[.string r.1, .bool r.2]) := by rw [← h]
def GetDone (l : List Pair) (key : ByteArray) (w : World) (e : Ending) (w' : World) : Prop := e = .returned (.tuple #[.string (getV l key).1, .bool (getV l key).2]) ∧ Below w.heap.size w w'
def FindDone (l : List Nd) (key : ByteArray) (w : World) (e : Ending) (w' : World) : Prop := ∃ cs, e = .returned (.tuple #[.agg cs.toArray, .bool (findV l key).2]) ∧ Kd.node.K (vw w' []) (findV l key).1 cs ∧ Below w.heap.size w w'
set_option maxHeartbeats 1000000 in
theorem Get_calls (v : Value) (l : List Pair) (key : ByteArray) (w : World) (hs : Kd.pair.S (vw w []) v l) :
    Calls Try.prog 51 #[v, .string key] w (GetDone l key w) := by
  obtain ⟨A, cap, rfl, hs⟩ := hs.val
  obtain ⟨_, hcap, hlen⟩ := hs.form
  have HS := Lib.hid hs
  clear hs
  go_enter Try.func51, Try.ntmps51
  go_wp2
  go_loopw [10] (fun i wr => ∃ k : Nat, k ≤ l.length ∧ i = .int .i64 k ∧ Hid (getV (l.drop k) key = getV l key) ∧ Hid (Below w.heap.size w wr)) (fun i _ => l.length - (intOf i).toNat)
  case atStart => exact ⟨0, Nat.zero_le _, rfl, rfl, Below.refl _ _⟩
  case round =>
    obtain ⟨k, hk, rfl, HG, HB⟩ := hrel
    by_cases hlt : k < l.length
    · obtain ⟨b, off, rfl, hc, _⟩ := (HS.out.mono (vw_below HB.out)).elemN k hlt
      have c0 : wr.cell? ⟨b, off + k * 2, none⟩ = some (.string l[k].key) := hc 0 _ rfl
      have c1 : wr.cell? ⟨b, off + k * 2 + 1, none⟩ = some (.string l[k].val) := hc 1 _ rfl
      have hg := HG.out
      rw [getV_at hlt] at hg
      have HG2 := Lib.hid hg
      clear hg hc HG
      by_cases he : l[k].key = key
      · have hb := str_beq he
        have hr := HG2.out
        rw [if_pos he] at hr
        have HR := Lib.hid hr
        clear he hr
        go_wp2
        go_ret2
        exact ⟨ret_sb HR.out, HB.out.alloc HB.out.size _⟩
      · have hb := str_nbeq he
        have hr := HG2.out
        rw [if_neg he] at hr
        have HR := Lib.hid hr
        clear he hr
        go_wp2
        go_roundw
        case rel => exact ⟨k + 1, by omega, by go_num, HR.out, HB.out.alloc HB.out.size _⟩
        case measure => simp [intOf]; omega
    · obtain rfl : k = l.length := by omega
      have hr := HG.out
      rw [List.drop_length] at hr
      have HR := Lib.hid hr
      clear hr
      go_wp2
      go_ret2
      exact ⟨ret_sb HR.out, HB.out⟩
def GetSame (l : List Pair) (key : ByteArray) (w : World) (e : Ending) (w' : World) : Prop := e = .returned (.tuple #[.string (getV l key).1, .bool (getV l key).2]) ∧ w = w'
set_option maxHeartbeats 1000000 in
theorem Label_calls (v : Value) (l : List Pair) (key : ByteArray) (w : World) (hs : Kd.pair.S (vw w []) v l) :
    Calls Try.prog 50 #[v, .string key] w (GetSame l key w) := by
  obtain ⟨A, cap, rfl, hs⟩ := hs.val
  obtain ⟨_, hcap, hlen⟩ := hs.form
  have HS := Lib.hid hs
  clear hs
  go_enter Try.func50, Try.ntmps50
  go_wp2
  go_loop [6] (fun i => ∃ k : Nat, k ≤ l.length ∧ i = .int .i64 k ∧ Hid (getV (l.drop k) key = getV l key)) (fun i => l.length - (intOf i).toNat)
  case atStart => exact ⟨0, Nat.zero_le _, rfl, rfl⟩
  case round =>
    obtain ⟨k, hk, rfl, HG⟩ := hrel
    by_cases hlt : k < l.length
    · obtain ⟨b, off, rfl, hc, _⟩ := HS.out.elemN k hlt
      have c0 : w.cell? ⟨b, off + k * 2, none⟩ = some (.string l[k].key) := hc 0 _ rfl
      have c1 : w.cell? ⟨b, off + k * 2 + 1, none⟩ = some (.string l[k].val) := hc 1 _ rfl
      have hg := HG.out
      rw [getV_at hlt] at hg
      have HG2 := Lib.hid hg
      clear hg hc HG
      by_cases he : l[k].key = key
      · have hb := str_beq he
        have hr := HG2.out
        rw [if_pos he] at hr
        have HR := Lib.hid hr
        clear he hr
        go_wp2
        go_ret2
        exact ⟨ret_sb HR.out, rfl⟩
      · have hb := str_nbeq he
        have hr := HG2.out
        rw [if_neg he] at hr
        have HR := Lib.hid hr
        clear he hr
        go_wp2
        go_round
        case rel => exact ⟨k + 1, by omega, by go_num, HR.out⟩
        case measure => simp [intOf]; omega
    · obtain rfl : k = l.length := by omega
      have hr := HG.out
      rw [List.drop_length] at hr
      have HR := Lib.hid hr
      clear hr
      go_wp2
      go_ret2
      exact ⟨ret_sb HR.out, rfl⟩
theorem K_zNd (h : View) : Kd.node.K h zNd [.string ⟨#[]⟩, .slice none 0 0, .slice none 0 0, .slice none 0 0, .bool false] :=
  ⟨none, 0, none, 0, none, 0, rfl, Nat.zero_le _, Kd.S.nil _ _, Kd.S.nil _ _, Kd.S.nil _ _⟩
set_option maxHeartbeats 1000000 in
set_option maxRecDepth 100000 in
theorem Find_calls (v : Value) (l : List Nd) (key : ByteArray) (w : World) (hs : Kd.node.S (vw w []) v l) :
    Calls Try.prog 70 #[v, .string key] w (FindDone l key w) := by
  obtain ⟨A, cap, rfl, hs⟩ := hs.val
  obtain ⟨_, hcap, hlen⟩ := hs.form
  have HS := Lib.hid hs
  clear hs
  go_enter Try.func70, Try.ntmps70
  go_wp2
  go_loopw [10] (fun i wr => ∃ k : Nat, k ≤ l.length ∧ i = .int .i64 k ∧ Hid (findV (l.drop k) key = findV l key) ∧ Hid (Below w.heap.size w wr) ∧ Hid (wr.heap[w.heap.size]? = some (.cells #[.string ⟨#[]⟩, .slice none 0 0, .slice none 0 0, .slice none 0 0, .bool false] 68 (0, 0)))) (fun i _ => l.length - (intOf i).toNat)
  case atStart => exact ⟨0, Nat.zero_le _, rfl, rfl, alloc_below _ _, blk_last _ _⟩
  case round =>
    obtain ⟨k, hk, rfl, HG, HB, HR0⟩ := hrel
    obtain ⟨z1, z2⟩ := blk_all HR0.out
    have z3 := blk_lt HR0.out
    by_cases hlt : k < l.length
    · obtain ⟨b, off, cs, rfl, hn, hc⟩ := HS.out.both HB.out k hlt
      have HN := Lib.hid hn
      obtain ⟨A1, d1, A2, d2, A3, d3, rfl, -⟩ := hn
      have hg := HG.out
      rw [findV_at hlt] at hg
      have HG2 := Lib.hid hg
      have HC : Hid (wr.rangeAt b (off + k * 5) _) := hc
      clear hg hc HG
      by_cases he : l[k].name = key
      · have hb := str_beq he
        have hr := HG2.out
        rw [if_pos he] at hr
        have HR := Lib.hid hr
        clear he hr
        go_wp2_with (with_reducible refine wpList_load_mid rfl 68 _ rfl b (off + k * 5) rfl _ _ HC.out Try.underlying68 rfl (by kernel_rfl) ?_)
        have hbl := Below.alloc (Below.setCell (Below.setCell (Below.setCell (Below.setCell (Below.setCell HB.out (p := ⟨w.heap.size, 0, none⟩) (Nat.le_refl _) (.string l[k].name)) (p := ⟨w.heap.size, 1, none⟩) (Nat.le_refl _) (.slice A1 l[k].cap.length d1)) (p := ⟨w.heap.size, 2, none⟩) (Nat.le_refl _) (.slice A2 l[k].labels.length d2)) (p := ⟨w.heap.size, 3, none⟩) (Nat.le_refl _) (.slice A3 l[k].taints.length d3)) (p := ⟨w.heap.size, 4, none⟩) (Nat.le_refl _) (.bool l[k].cordon)) (by simp [World.setCell]; omega) (.cells #[.string l[k].name, .slice A1 l[k].cap.length d1, .slice A2 l[k].labels.length d2, .slice A3 l[k].taints.length d3, .bool l[k].cordon] 68)
        have hx := Kd.node.mono (vw_below hbl) HN.out
        refine ret_row2 (cs := [.string l[k].name, .slice A1 l[k].cap.length d1, .slice A2 l[k].labels.length d2, .slice A3 l[k].taints.length d3, .bool l[k].cordon]) rfl rfl
          ((blk_old _ _ (by simpa [World.setCell] using z3)).trans ((blk_set (blk_set (blk_set (blk_set (blk_set HR0.out _) _) _) _) _).trans rfl)) Try.underlying68 rfl (by kernel_rfl) rfl
          ⟨[.string l[k].name, .slice A1 l[k].cap.length d1, .slice A2 l[k].labels.length d2, .slice A3 l[k].taints.length d3, .bool l[k].cordon], ?_, ?_, hbl⟩
        · rw [← HR.out]; rfl
        · rw [← HR.out]; exact hx
      · have hb := str_nbeq he
        have hr := HG2.out
        rw [if_neg he] at hr
        have HR := Lib.hid hr
        clear he hr z1 z2
        go_wp2_with (with_reducible refine wpList_load_mid rfl 68 _ rfl b (off + k * 5) rfl _ _ HC.out Try.underlying68 rfl (by kernel_rfl) ?_)
        go_roundw
        case rel => exact ⟨k + 1, by omega, by go_num, HR.out, HB.out.alloc HB.out.size _, (blk_old _ _ z3).trans HR0.out⟩
        case measure => simp [intOf]; omega
    · obtain rfl : k = l.length := by omega
      have hr := HG.out
      rw [List.drop_length] at hr
      have HR := Lib.hid hr
      clear hr
      go_wp2
      have hbl := Below.setCell (Below.setCell (Below.setCell (Below.setCell (Below.setCell HB.out (p := ⟨w.heap.size, 0, none⟩) (Nat.le_refl _) (.string ⟨#[]⟩)) (p := ⟨w.heap.size, 1, none⟩) (Nat.le_refl _) (.slice none 0 0)) (p := ⟨w.heap.size, 2, none⟩) (Nat.le_refl _) (.slice none 0 0)) (p := ⟨w.heap.size, 3, none⟩) (Nat.le_refl _) (.slice none 0 0)) (p := ⟨w.heap.size, 4, none⟩) (Nat.le_refl _) (.bool false)
      refine ret_row2 (cs := [.string ⟨#[]⟩, .slice none 0 0, .slice none 0 0, .slice none 0 0, .bool false]) rfl rfl
        ((blk_set (blk_set (blk_set (blk_set (blk_set HR0.out _) _) _) _) _).trans rfl) Try.underlying68 rfl (by kernel_rfl) rfl
        ⟨[.string ⟨#[]⟩, .slice none 0 0, .slice none 0 0, .slice none 0 0, .bool false], ?_, ?_, hbl⟩
      · rw [← HR.out]; rfl
      · rw [← HR.out]; exact K_zNd _
end Go.Proofs.Ytfbmfjmnpfidoaa
namespace Go.Proofs.Ytfbmfjmnpfidoaa
open Go.RowKit

/-- A copy of a list, in memory that is new. -/
def OfDone {α : Type} (d : Kd α) (l : List α) (w : World) (e : Ending) (w' : World) : Prop := ∃ A c, e = .returned (.slice A l.length c) ∧ d.S (nx w' w.heap.size none) (.slice A l.length c) l ∧ Below w.heap.size w w'
theorem grown_then {w wr w1 w2 : World} {own : Option Nat} (h : Below w.heap.size w wr) (h1 : Below wr.heap.size wr w1) (hg : w1.grownBy w2 own) (ho : ∀ q, own = some q → w.heap.size ≤ q) : Below w.heap.size w w2 :=
  Below.grown (Below.then h h1) hg (Below.then h h1).size ho

theorem info_Of2 : (Try.prog.info? 128).map (fun i => (i.zero, i.size, i.bytes)) = some (some (.agg #[.string ⟨#[]⟩, .int .i64 0]), 2, 24) := by kernel_rfl
set_option maxHeartbeats 2000000 in
set_option maxRecDepth 100000 in
theorem Of2_calls (v : Value) (l : List Amt) (w : World) (hs : Kd.amt.S (vw w []) v l) (hl : l.length ≤ 1000) : Calls Try.prog 40 #[v] w (OfDone Kd.amt l w) := by
  obtain ⟨i0, hi, hz0, hz1, hz2⟩ := info_parts info_Of2
  obtain ⟨A, cap, rfl, hs⟩ := hs.val
  have HS := Lib.hid hs
  clear hs
  go_enter Try.func40, Try.ntmps40
  go_wp2
  go_loopw [3, 4] (fun o i wr => ∃ k : Nat, k ≤ l.length ∧ i = .int .i64 k ∧ Hid (Kd.amt.Own wr w.heap.size 128 w.heap.size o (l.take k)) ∧ Hid (Below w.heap.size w wr)) (fun _ i _ => l.length - (intOf i).toNat)
  case atStart => exact ⟨0, Nat.zero_le _, rfl, Kd.Own.nil _ _ _ _ _, Below.refl _ _⟩
  case round =>
    obtain ⟨k, hk, rfl, HO, HB⟩ := hrel
    by_cases hlt : k < l.length
    · obtain ⟨b, off, cs, rfl, ⟨-, hp⟩, -⟩ := HS.out.both HB.out k hlt
      have HP := Lib.hid hp
      have HCELL : Hid (∀ w2, Below w.heap.size w w2 → w2.cell? ⟨b, off + k * 2, none⟩ = some (.string l[k].name) ∧ w2.cell? ⟨b, off + k * 2 + 1, none⟩ = some (.int .i64 l[k].n)) := fun w2 h2 => by
        obtain ⟨b', off', hA, hc, -⟩ := (HS.out.mono (vw_below h2)).elemN k hlt
        injection hA with hA
        injection hA with e1 e2
        subst e1 e2
        exact ⟨hc 0 _ rfl, hc 1 _ rfl⟩
      obtain ⟨c0, c1⟩ := HCELL.out wr HB.out
      obtain ⟨css, k1, k2, k3⟩ := HO.out
      rw [show (l.take k).length = k by rw [List.length_take]; omega] at k3
      have HK1 := Lib.hid k1
      have HK2 := Lib.hid k2
      have HK3 := Lib.hid k3
      clear k1 k2 k3 hp
      have hsz := HB.out.size
      have b1 : (0 : Int) ≤ (k : Int) := by omega
      have b2 : (k : Int) < (l.length : Int) := by omega
      go_upto_region 5 with fail
      go_region_held3 (fun w' => w'.cell? ⟨b, off + k * 2, none⟩ = some (.string l[k].name) ∧ w'.cell? ⟨b, off + k * 2 + 1, none⟩ = some (.int .i64 l[k].n)) (first | go_keep | exact HCELL.out _ (by exact HB2.out))
        ((
          refine step_app _ w.heap.size 40 128 i0 (.agg #[.string ⟨#[]⟩, .int .i64 0]) 2 24 Try.underlying40 hi hz0 hz1 hz2 rfl (by decide) _ k css.flatten (by exact own_below HK3.out ⟨rfl, rfl, rfl, by simp, fun k hk => blk_old _ _ hk⟩) (some ⟨wr.heap.size, 0, none⟩) 1 1 [.string l[k].name, .int .i64 l[k].n] rfl (fun e => by cases e) ?_ (by simp [Value.oneCell']) (by simp only [maxLen]; omega) (by omega) (by simp; omega) _ _ (by rfl) (by rfl) (by rfl) (by rfl) ?_
          · rintro ad h
            cases h
            exact World.news_of_block (cs := #[.string l[k].name, .int .i64 l[k].n]) (t := 128) (fr := (0, 0)) (heap_alloc_new wr _)
          intro v2 w2 ho2 hg2 hv2
          have HB1 : Hid (Below wr.heap.size wr (wr.alloc (.cells #[.string l[k].name, .int .i64 l[k].n] 128)).drew) := ⟨rfl, rfl, rfl, by simp, fun k hk => blk_old wr _ hk⟩
          have HB2 : Hid (Below w.heap.size w w2) := grown_then HB.out HB1.out hg2 (fun q hq => (HK3.out.lt q hq).1)
          have HO2 : Hid (Kd.amt.Own w2 w.heap.size 128 w.heap.size v2 (l.take (k + 1))) := by
            show Kd.Own _ _ _ _ _ _ _
            rw [List.take_succ_eq_append_getElem hlt]
            exact Kd.Own.snoc HK1.out HK2.out ⟨rfl, HP.out⟩ HB1.out (by rw [show (l.take k).length = k by rw [List.length_take]; omega]; exact ho2) hg2 hv2
          clear ho2 hg2 hv2))
      all_goals
        go_wp2
        go_roundw
        case rel => exact ⟨k + 1, by omega, by go_num, HO2.out, HB2.out⟩
        case measure => simp [intOf]; omega
    · obtain rfl : k = l.length := by omega
      have ho := HO.out
      rw [List.take_length] at ho
      obtain ⟨A2, c2, rfl, s2⟩ := (ho.S (Nat.le_refl _) (by omega)).val
      have S2 := Lib.hid s2
      clear ho HO s2
      go_wp2
      go_ret
      exact ⟨_, _, rfl, S2.out, HB.out⟩

theorem info_Of4 : (Try.prog.info? 110).map (fun i => (i.zero, i.size, i.bytes)) = some (some (.agg #[.string ⟨#[]⟩, .string ⟨#[]⟩]), 2, 32) := by kernel_rfl
set_option maxHeartbeats 2000000 in
set_option maxRecDepth 100000 in
theorem Of4_calls (v : Value) (l : List Pair) (w : World) (hs : Kd.pair.S (vw w []) v l) (hl : l.length ≤ 1000) : Calls Try.prog 22 #[v] w (OfDone Kd.pair l w) := by
  obtain ⟨i0, hi, hz0, hz1, hz2⟩ := info_parts info_Of4
  obtain ⟨A, cap, rfl, hs⟩ := hs.val
  have HS := Lib.hid hs
  clear hs
  go_enter Try.func22, Try.ntmps22
  go_wp2
  go_loopw [3, 4] (fun o i wr => ∃ k : Nat, k ≤ l.length ∧ i = .int .i64 k ∧ Hid (Kd.pair.Own wr w.heap.size 110 w.heap.size o (l.take k)) ∧ Hid (Below w.heap.size w wr)) (fun _ i _ => l.length - (intOf i).toNat)
  case atStart => exact ⟨0, Nat.zero_le _, rfl, Kd.Own.nil _ _ _ _ _, Below.refl _ _⟩
  case round =>
    obtain ⟨k, hk, rfl, HO, HB⟩ := hrel
    by_cases hlt : k < l.length
    · obtain ⟨b, off, cs, rfl, ⟨-, hp⟩, -⟩ := HS.out.both HB.out k hlt
      have HP := Lib.hid hp
      have HCELL : Hid (∀ w2, Below w.heap.size w w2 → w2.cell? ⟨b, off + k * 2, none⟩ = some (.string l[k].key) ∧ w2.cell? ⟨b, off + k * 2 + 1, none⟩ = some (.string l[k].val)) := fun w2 h2 => by
        obtain ⟨b', off', hA, hc, -⟩ := (HS.out.mono (vw_below h2)).elemN k hlt
        injection hA with hA
        injection hA with e1 e2
        subst e1 e2
        exact ⟨hc 0 _ rfl, hc 1 _ rfl⟩
      obtain ⟨c0, c1⟩ := HCELL.out wr HB.out
      obtain ⟨css, k1, k2, k3⟩ := HO.out
      rw [show (l.take k).length = k by rw [List.length_take]; omega] at k3
      have HK1 := Lib.hid k1
      have HK2 := Lib.hid k2
      have HK3 := Lib.hid k3
      clear k1 k2 k3 hp
      have hsz := HB.out.size
      have b1 : (0 : Int) ≤ (k : Int) := by omega
      have b2 : (k : Int) < (l.length : Int) := by omega
      go_upto_region 5 with fail
      go_region_held3 (fun w' => w'.cell? ⟨b, off + k * 2, none⟩ = some (.string l[k].key) ∧ w'.cell? ⟨b, off + k * 2 + 1, none⟩ = some (.string l[k].val)) (first | go_keep | exact HCELL.out _ (by exact HB2.out))
        ((
          refine step_app _ w.heap.size 41 110 i0 (.agg #[.string ⟨#[]⟩, .string ⟨#[]⟩]) 2 32 Try.underlying41 hi hz0 hz1 hz2 rfl (by decide) _ k css.flatten (by exact own_below HK3.out ⟨rfl, rfl, rfl, by simp, fun k hk => blk_old _ _ hk⟩) (some ⟨wr.heap.size, 0, none⟩) 1 1 [.string l[k].key, .string l[k].val] rfl (fun e => by cases e) ?_ (by simp [Value.oneCell']) (by simp only [maxLen]; omega) (by omega) (by simp; omega) _ _ (by rfl) (by rfl) (by rfl) (by rfl) ?_
          · rintro ad h
            cases h
            exact World.news_of_block (cs := #[.string l[k].key, .string l[k].val]) (t := 110) (fr := (0, 0)) (heap_alloc_new wr _)
          intro v2 w2 ho2 hg2 hv2
          have HB1 : Hid (Below wr.heap.size wr (wr.alloc (.cells #[.string l[k].key, .string l[k].val] 110)).drew) := ⟨rfl, rfl, rfl, by simp, fun k hk => blk_old wr _ hk⟩
          have HB2 : Hid (Below w.heap.size w w2) := grown_then HB.out HB1.out hg2 (fun q hq => (HK3.out.lt q hq).1)
          have HO2 : Hid (Kd.pair.Own w2 w.heap.size 110 w.heap.size v2 (l.take (k + 1))) := by
            show Kd.Own _ _ _ _ _ _ _
            rw [List.take_succ_eq_append_getElem hlt]
            exact Kd.Own.snoc HK1.out HK2.out ⟨rfl, HP.out⟩ HB1.out (by rw [show (l.take k).length = k by rw [List.length_take]; omega]; exact ho2) hg2 hv2
          clear ho2 hg2 hv2))
      all_goals
        go_wp2
        go_roundw
        case rel => exact ⟨k + 1, by omega, by go_num, HO2.out, HB2.out⟩
        case measure => simp [intOf]; omega
    · obtain rfl : k = l.length := by omega
      have ho := HO.out
      rw [List.take_length] at ho
      obtain ⟨A2, c2, rfl, s2⟩ := (ho.S (Nat.le_refl _) (by omega)).val
      have S2 := Lib.hid s2
      clear ho HO s2
      go_wp2
      go_ret
      exact ⟨_, _, rfl, S2.out, HB.out⟩

theorem info_OfSel4 : (Try.prog.info? 129).map (fun i => (i.zero, i.size, i.bytes)) = some (some (.agg #[.int .i64 0, .string ⟨#[]⟩, .string ⟨#[]⟩]), 3, 40) := by kernel_rfl
set_option maxHeartbeats 2000000 in
set_option maxRecDepth 100000 in
theorem OfSel4_calls (v : Value) (l : List Term) (w : World) (hs : Kd.term.S (vw w []) v l) (hl : l.length ≤ 1000) : Calls Try.prog 41 #[v] w (OfDone Kd.term l w) := by
  obtain ⟨i0, hi, hz0, hz1, hz2⟩ := info_parts info_OfSel4
  obtain ⟨A, cap, rfl, hs⟩ := hs.val
  have HS := Lib.hid hs
  clear hs
  go_enter Try.func41, Try.ntmps41
  go_wp2
  go_loopw [3, 4] (fun o i wr => ∃ k : Nat, k ≤ l.length ∧ i = .int .i64 k ∧ Hid (Kd.term.Own wr w.heap.size 129 w.heap.size o (l.take k)) ∧ Hid (Below w.heap.size w wr)) (fun _ i _ => l.length - (intOf i).toNat)
  case atStart => exact ⟨0, Nat.zero_le _, rfl, Kd.Own.nil _ _ _ _ _, Below.refl _ _⟩
  case round =>
    obtain ⟨k, hk, rfl, HO, HB⟩ := hrel
    by_cases hlt : k < l.length
    · obtain ⟨b, off, cs, rfl, ⟨-, hp⟩, -⟩ := HS.out.both HB.out k hlt
      have HP := Lib.hid hp
      have HCELL : Hid (∀ w2, Below w.heap.size w w2 → w2.cell? ⟨b, off + k * 3, none⟩ = some (.int .i64 l[k].op) ∧ w2.cell? ⟨b, off + k * 3 + 1, none⟩ = some (.string l[k].key) ∧ w2.cell? ⟨b, off + k * 3 + 2, none⟩ = some (.string l[k].val)) := fun w2 h2 => by
        obtain ⟨b', off', hA, hc, -⟩ := (HS.out.mono (vw_below h2)).elemN k hlt
        injection hA with hA
        injection hA with e1 e2
        subst e1 e2
        exact ⟨hc 0 _ rfl, hc 1 _ rfl, hc 2 _ rfl⟩
      obtain ⟨c0, c1, c2⟩ := HCELL.out wr HB.out
      obtain ⟨css, k1, k2, k3⟩ := HO.out
      rw [show (l.take k).length = k by rw [List.length_take]; omega] at k3
      have HK1 := Lib.hid k1
      have HK2 := Lib.hid k2
      have HK3 := Lib.hid k3
      clear k1 k2 k3 hp
      have hsz := HB.out.size
      have b1 : (0 : Int) ≤ (k : Int) := by omega
      have b2 : (k : Int) < (l.length : Int) := by omega
      go_upto_region 5 with fail
      go_region_held3 (fun w' => w'.cell? ⟨b, off + k * 3, none⟩ = some (.int .i64 l[k].op) ∧ w'.cell? ⟨b, off + k * 3 + 1, none⟩ = some (.string l[k].key) ∧ w'.cell? ⟨b, off + k * 3 + 2, none⟩ = some (.string l[k].val)) (first | go_keep | exact HCELL.out _ (by exact HB2.out))
        ((
          refine step_app _ w.heap.size 42 129 i0 (.agg #[.int .i64 0, .string ⟨#[]⟩, .string ⟨#[]⟩]) 3 40 Try.underlying42 hi hz0 hz1 hz2 rfl (by decide) _ k css.flatten (by exact own_below HK3.out ⟨rfl, rfl, rfl, by simp, fun k hk => blk_old _ _ hk⟩) (some ⟨wr.heap.size, 0, none⟩) 1 1 [.int .i64 l[k].op, .string l[k].key, .string l[k].val] rfl (fun e => by cases e) ?_ (by simp [Value.oneCell']) (by simp only [maxLen]; omega) (by omega) (by simp; omega) _ _ (by rfl) (by rfl) (by rfl) (by rfl) ?_
          · rintro ad h
            cases h
            exact World.news_of_block (cs := #[.int .i64 l[k].op, .string l[k].key, .string l[k].val]) (t := 129) (fr := (0, 0)) (heap_alloc_new wr _)
          intro v2 w2 ho2 hg2 hv2
          have HB1 : Hid (Below wr.heap.size wr (wr.alloc (.cells #[.int .i64 l[k].op, .string l[k].key, .string l[k].val] 129)).drew) := ⟨rfl, rfl, rfl, by simp, fun k hk => blk_old wr _ hk⟩
          have HB2 : Hid (Below w.heap.size w w2) := grown_then HB.out HB1.out hg2 (fun q hq => (HK3.out.lt q hq).1)
          have HO2 : Hid (Kd.term.Own w2 w.heap.size 129 w.heap.size v2 (l.take (k + 1))) := by
            show Kd.Own _ _ _ _ _ _ _
            rw [List.take_succ_eq_append_getElem hlt]
            exact Kd.Own.snoc HK1.out HK2.out ⟨rfl, HP.out⟩ HB1.out (by rw [show (l.take k).length = k by rw [List.length_take]; omega]; exact ho2) hg2 hv2
          clear ho2 hg2 hv2))
      all_goals
        go_wp2
        go_roundw
        case rel => exact ⟨k + 1, by omega, by go_num, HO2.out, HB2.out⟩
        case measure => simp [intOf]; omega
    · obtain rfl : k = l.length := by omega
      have ho := HO.out
      rw [List.take_length] at ho
      obtain ⟨A2, c2, rfl, s2⟩ := (ho.S (Nat.le_refl _) (by omega)).val
      have S2 := Lib.hid s2
      clear ho HO s2
      go_wp2
      go_ret
      exact ⟨_, _, rfl, S2.out, HB.out⟩

theorem info_Of5 : (Try.prog.info? 171).map (fun i => (i.zero, i.size, i.bytes)) = some (some (.agg #[.string ⟨#[]⟩, .string ⟨#[]⟩, .bool false]), 3, 40) := by kernel_rfl
set_option maxHeartbeats 2000000 in
set_option maxRecDepth 100000 in
theorem Of5_calls (v : Value) (l : List Tnt) (w : World) (hs : Kd.tnt.S (vw w []) v l) (hl : l.length ≤ 1000) : Calls Try.prog 79 #[v] w (OfDone Kd.tnt l w) := by
  obtain ⟨i0, hi, hz0, hz1, hz2⟩ := info_parts info_Of5
  obtain ⟨A, cap, rfl, hs⟩ := hs.val
  have HS := Lib.hid hs
  clear hs
  go_enter Try.func79, Try.ntmps79
  go_wp2
  go_loopw [3, 4] (fun o i wr => ∃ k : Nat, k ≤ l.length ∧ i = .int .i64 k ∧ Hid (Kd.tnt.Own wr w.heap.size 171 w.heap.size o (l.take k)) ∧ Hid (Below w.heap.size w wr)) (fun _ i _ => l.length - (intOf i).toNat)
  case atStart => exact ⟨0, Nat.zero_le _, rfl, Kd.Own.nil _ _ _ _ _, Below.refl _ _⟩
  case round =>
    obtain ⟨k, hk, rfl, HO, HB⟩ := hrel
    by_cases hlt : k < l.length
    · obtain ⟨b, off, cs, rfl, ⟨-, hp⟩, -⟩ := HS.out.both HB.out k hlt
      have HP := Lib.hid hp
      have HCELL : Hid (∀ w2, Below w.heap.size w w2 → w2.cell? ⟨b, off + k * 3, none⟩ = some (.string l[k].key) ∧ w2.cell? ⟨b, off + k * 3 + 1, none⟩ = some (.string l[k].val) ∧ w2.cell? ⟨b, off + k * 3 + 2, none⟩ = some (.bool l[k].b)) := fun w2 h2 => by
        obtain ⟨b', off', hA, hc, -⟩ := (HS.out.mono (vw_below h2)).elemN k hlt
        injection hA with hA
        injection hA with e1 e2
        subst e1 e2
        exact ⟨hc 0 _ rfl, hc 1 _ rfl, hc 2 _ rfl⟩
      obtain ⟨c0, c1, c2⟩ := HCELL.out wr HB.out
      obtain ⟨css, k1, k2, k3⟩ := HO.out
      rw [show (l.take k).length = k by rw [List.length_take]; omega] at k3
      have HK1 := Lib.hid k1
      have HK2 := Lib.hid k2
      have HK3 := Lib.hid k3
      clear k1 k2 k3 hp
      have hsz := HB.out.size
      have b1 : (0 : Int) ≤ (k : Int) := by omega
      have b2 : (k : Int) < (l.length : Int) := by omega
      go_upto_region 5 with fail
      go_region_held3 (fun w' => w'.cell? ⟨b, off + k * 3, none⟩ = some (.string l[k].key) ∧ w'.cell? ⟨b, off + k * 3 + 1, none⟩ = some (.string l[k].val) ∧ w'.cell? ⟨b, off + k * 3 + 2, none⟩ = some (.bool l[k].b)) (first | go_keep | exact HCELL.out _ (by exact HB2.out))
        ((
          refine step_app _ w.heap.size 97 171 i0 (.agg #[.string ⟨#[]⟩, .string ⟨#[]⟩, .bool false]) 3 40 Try.underlying97 hi hz0 hz1 hz2 rfl (by decide) _ k css.flatten (by exact own_below HK3.out ⟨rfl, rfl, rfl, by simp, fun k hk => blk_old _ _ hk⟩) (some ⟨wr.heap.size, 0, none⟩) 1 1 [.string l[k].key, .string l[k].val, .bool l[k].b] rfl (fun e => by cases e) ?_ (by simp [Value.oneCell']) (by simp only [maxLen]; omega) (by omega) (by simp; omega) _ _ (by rfl) (by rfl) (by rfl) (by rfl) ?_
          · rintro ad h
            cases h
            exact World.news_of_block (cs := #[.string l[k].key, .string l[k].val, .bool l[k].b]) (t := 171) (fr := (0, 0)) (heap_alloc_new wr _)
          intro v2 w2 ho2 hg2 hv2
          have HB1 : Hid (Below wr.heap.size wr (wr.alloc (.cells #[.string l[k].key, .string l[k].val, .bool l[k].b] 171)).drew) := ⟨rfl, rfl, rfl, by simp, fun k hk => blk_old wr _ hk⟩
          have HB2 : Hid (Below w.heap.size w w2) := grown_then HB.out HB1.out hg2 (fun q hq => (HK3.out.lt q hq).1)
          have HO2 : Hid (Kd.tnt.Own w2 w.heap.size 171 w.heap.size v2 (l.take (k + 1))) := by
            show Kd.Own _ _ _ _ _ _ _
            rw [List.take_succ_eq_append_getElem hlt]
            exact Kd.Own.snoc HK1.out HK2.out ⟨rfl, HP.out⟩ HB1.out (by rw [show (l.take k).length = k by rw [List.length_take]; omega]; exact ho2) hg2 hv2
          clear ho2 hg2 hv2))
      all_goals
        go_wp2
        go_roundw
        case rel => exact ⟨k + 1, by omega, by go_num, HO2.out, HB2.out⟩
        case measure => simp [intOf]; omega
    · obtain rfl : k = l.length := by omega
      have ho := HO.out
      rw [List.take_length] at ho
      obtain ⟨A2, c2, rfl, s2⟩ := (ho.S (Nat.le_refl _) (by omega)).val
      have S2 := Lib.hid s2
      clear ho HO s2
      go_wp2
      go_ret
      exact ⟨_, _, rfl, S2.out, HB.out⟩

theorem info_OfTols5 : (Try.prog.info? 130).map (fun i => (i.zero, i.size, i.bytes)) = some (some (.agg #[.string ⟨#[]⟩, .string ⟨#[]⟩, .bool false]), 3, 40) := by kernel_rfl
set_option maxHeartbeats 2000000 in
set_option maxRecDepth 100000 in
theorem OfTols5_calls (v : Value) (l : List Tnt) (w : World) (hs : Kd.tnt.S (vw w []) v l) (hl : l.length ≤ 1000) : Calls Try.prog 42 #[v] w (OfDone Kd.tnt l w) := by
  obtain ⟨i0, hi, hz0, hz1, hz2⟩ := info_parts info_OfTols5
  obtain ⟨A, cap, rfl, hs⟩ := hs.val
  have HS := Lib.hid hs
  clear hs
  go_enter Try.func42, Try.ntmps42
  go_wp2
  go_loopw [3, 4] (fun o i wr => ∃ k : Nat, k ≤ l.length ∧ i = .int .i64 k ∧ Hid (Kd.tnt.Own wr w.heap.size 130 w.heap.size o (l.take k)) ∧ Hid (Below w.heap.size w wr)) (fun _ i _ => l.length - (intOf i).toNat)
  case atStart => exact ⟨0, Nat.zero_le _, rfl, Kd.Own.nil _ _ _ _ _, Below.refl _ _⟩
  case round =>
    obtain ⟨k, hk, rfl, HO, HB⟩ := hrel
    by_cases hlt : k < l.length
    · obtain ⟨b, off, cs, rfl, ⟨-, hp⟩, -⟩ := HS.out.both HB.out k hlt
      have HP := Lib.hid hp
      have HCELL : Hid (∀ w2, Below w.heap.size w w2 → w2.cell? ⟨b, off + k * 3, none⟩ = some (.string l[k].key) ∧ w2.cell? ⟨b, off + k * 3 + 1, none⟩ = some (.string l[k].val) ∧ w2.cell? ⟨b, off + k * 3 + 2, none⟩ = some (.bool l[k].b)) := fun w2 h2 => by
        obtain ⟨b', off', hA, hc, -⟩ := (HS.out.mono (vw_below h2)).elemN k hlt
        injection hA with hA
        injection hA with e1 e2
        subst e1 e2
        exact ⟨hc 0 _ rfl, hc 1 _ rfl, hc 2 _ rfl⟩
      obtain ⟨c0, c1, c2⟩ := HCELL.out wr HB.out
      obtain ⟨css, k1, k2, k3⟩ := HO.out
      rw [show (l.take k).length = k by rw [List.length_take]; omega] at k3
      have HK1 := Lib.hid k1
      have HK2 := Lib.hid k2
      have HK3 := Lib.hid k3
      clear k1 k2 k3 hp
      have hsz := HB.out.size
      have b1 : (0 : Int) ≤ (k : Int) := by omega
      have b2 : (k : Int) < (l.length : Int) := by omega
      go_upto_region 5 with fail
      go_region_held3 (fun w' => w'.cell? ⟨b, off + k * 3, none⟩ = some (.string l[k].key) ∧ w'.cell? ⟨b, off + k * 3 + 1, none⟩ = some (.string l[k].val) ∧ w'.cell? ⟨b, off + k * 3 + 2, none⟩ = some (.bool l[k].b)) (first | go_keep | exact HCELL.out _ (by exact HB2.out))
        ((
          refine step_app _ w.heap.size 43 130 i0 (.agg #[.string ⟨#[]⟩, .string ⟨#[]⟩, .bool false]) 3 40 Try.underlying43 hi hz0 hz1 hz2 rfl (by decide) _ k css.flatten (by exact own_below HK3.out ⟨rfl, rfl, rfl, by simp, fun k hk => blk_old _ _ hk⟩) (some ⟨wr.heap.size, 0, none⟩) 1 1 [.string l[k].key, .string l[k].val, .bool l[k].b] rfl (fun e => by cases e) ?_ (by simp [Value.oneCell']) (by simp only [maxLen]; omega) (by omega) (by simp; omega) _ _ (by rfl) (by rfl) (by rfl) (by rfl) ?_
          · rintro ad h
            cases h
            exact World.news_of_block (cs := #[.string l[k].key, .string l[k].val, .bool l[k].b]) (t := 130) (fr := (0, 0)) (heap_alloc_new wr _)
          intro v2 w2 ho2 hg2 hv2
          have HB1 : Hid (Below wr.heap.size wr (wr.alloc (.cells #[.string l[k].key, .string l[k].val, .bool l[k].b] 130)).drew) := ⟨rfl, rfl, rfl, by simp, fun k hk => blk_old wr _ hk⟩
          have HB2 : Hid (Below w.heap.size w w2) := grown_then HB.out HB1.out hg2 (fun q hq => (HK3.out.lt q hq).1)
          have HO2 : Hid (Kd.tnt.Own w2 w.heap.size 130 w.heap.size v2 (l.take (k + 1))) := by
            show Kd.Own _ _ _ _ _ _ _
            rw [List.take_succ_eq_append_getElem hlt]
            exact Kd.Own.snoc HK1.out HK2.out ⟨rfl, HP.out⟩ HB1.out (by rw [show (l.take k).length = k by rw [List.length_take]; omega]; exact ho2) hg2 hv2
          clear ho2 hg2 hv2))
      all_goals
        go_wp2
        go_roundw
        case rel => exact ⟨k + 1, by omega, by go_num, HO2.out, HB2.out⟩
        case measure => simp [intOf]; omega
    · obtain rfl : k = l.length := by omega
      have ho := HO.out
      rw [List.take_length] at ho
      obtain ⟨A2, c2, rfl, s2⟩ := (ho.S (Nat.le_refl _) (by omega)).val
      have S2 := Lib.hid s2
      clear ho HO s2
      go_wp2
      go_ret
      exact ⟨_, _, rfl, S2.out, HB.out⟩

end Go.Proofs.Ytfbmfjmnpfidoaa
namespace Go.Proofs.Ytfbmfjmnpfidoaa
open Go.RowKit

/-- What a test tells: where it is true, this holds. -/
def FewIf (P : Prop) (w : World) (e : Ending) (w' : World) : Prop := ∃ r, e = .returned (.bool r) ∧ (r = true → P) ∧ w = w'
def FewL {α : Type} (l : List α) (p : α → Prop) : Prop := l.length ≤ 20 ∧ ∀ x ∈ l, p x
def Amt.Few (x : Amt) : Prop := x.name.size ≤ 50
def Pair.Few (x : Pair) : Prop := x.key.size ≤ 50 ∧ x.val.size ≤ 50
def Term.Few (x : Term) : Prop := x.key.size ≤ 50 ∧ x.val.size ≤ 50
def Tnt.Few (x : Tnt) : Prop := x.key.size ≤ 50 ∧ x.val.size ≤ 50

set_option maxHeartbeats 1000000 in
theorem Few2_calls (v : Value) (l : List Amt) (w : World) (hs : Kd.amt.S (vw w []) v l) : Calls Try.prog 31 #[v] w (FewIf (FewL l Amt.Few) w) := by
  obtain ⟨A, cap, rfl, hs⟩ := hs.val
  obtain ⟨-, hcap, hlen⟩ := hs.form
  have HS := Lib.hid hs
  clear hs
  go_enter Try.func31, Try.ntmps31
  by_cases h60 : 20 < l.length
  · go_wp2
    go_ret
    exact ⟨_, rfl, (fun h => by cases h), rfl⟩
  · go_wp2
    go_loop [3] (fun i => ∃ k : Nat, k ≤ l.length ∧ i = .int .i64 k ∧ Hid (∀ j, (h : j < l.length) → j < k → (l[j]).Few)) (fun i => l.length - (intOf i).toNat)
    case atStart => exact ⟨0, Nat.zero_le _, rfl, fun _ _ h => by omega⟩
    case round =>
      obtain ⟨k, hk, rfl, HR⟩ := hrel
      by_cases hlt : k < l.length
      · obtain ⟨b, off, rfl, hc, hp⟩ := HS.out.elemN k hlt
        have c0 : w.cell? ⟨b, off + k * 2, none⟩ = some (.string l[k].name) := hc 0 _ rfl
        clear hc
        by_cases h5 : 50 < (l[k].name).size
        · go_wp2
          go_ret
          exact ⟨_, rfl, (fun h => by cases h), rfl⟩
        have HF : Hid ((l[k]).Few) := by show (l[k]).name.size ≤ 50; omega
        go_wp2
        go_round
        case rel => exact ⟨k + 1, by omega, by go_num, fun j h hj => by
          by_cases e : j = k
          · subst e; exact HF.out
          · exact HR.out j h (by omega)⟩
        case measure => simp [intOf]; omega
      · go_wp2
        go_ret
        exact ⟨_, rfl, fun _ => ⟨by omega, fun x hx => by
          obtain ⟨j, hj, rfl⟩ := List.getElem_of_mem hx
          exact HR.out j hj (by omega)⟩, rfl⟩

set_option maxHeartbeats 1000000 in
theorem Few4_calls (v : Value) (l : List Pair) (w : World) (hs : Kd.pair.S (vw w []) v l) : Calls Try.prog 32 #[v] w (FewIf (FewL l Pair.Few) w) := by
  obtain ⟨A, cap, rfl, hs⟩ := hs.val
  obtain ⟨-, hcap, hlen⟩ := hs.form
  have HS := Lib.hid hs
  clear hs
  go_enter Try.func32, Try.ntmps32
  by_cases h60 : 20 < l.length
  · go_wp2
    go_ret
    exact ⟨_, rfl, (fun h => by cases h), rfl⟩
  · go_wp2
    go_loop [3] (fun i => ∃ k : Nat, k ≤ l.length ∧ i = .int .i64 k ∧ Hid (∀ j, (h : j < l.length) → j < k → (l[j]).Few)) (fun i => l.length - (intOf i).toNat)
    case atStart => exact ⟨0, Nat.zero_le _, rfl, fun _ _ h => by omega⟩
    case round =>
      obtain ⟨k, hk, rfl, HR⟩ := hrel
      by_cases hlt : k < l.length
      · obtain ⟨b, off, rfl, hc, hp⟩ := HS.out.elemN k hlt
        have c0 : w.cell? ⟨b, off + k * 2, none⟩ = some (.string l[k].key) := hc 0 _ rfl
        have c1 : w.cell? ⟨b, off + k * 2 + 1, none⟩ = some (.string l[k].val) := hc 1 _ rfl
        clear hc
        by_cases h5 : 50 < (l[k].key).size
        · go_wp2
          go_ret
          exact ⟨_, rfl, (fun h => by cases h), rfl⟩
        by_cases h6 : 50 < (l[k].val).size
        · go_wp2
          go_ret
          exact ⟨_, rfl, (fun h => by cases h), rfl⟩
        have HF : Hid ((l[k]).Few) := ⟨by omega, by omega⟩
        go_wp2
        go_round
        case rel => exact ⟨k + 1, by omega, by go_num, fun j h hj => by
          by_cases e : j = k
          · subst e; exact HF.out
          · exact HR.out j h (by omega)⟩
        case measure => simp [intOf]; omega
      · go_wp2
        go_ret
        exact ⟨_, rfl, fun _ => ⟨by omega, fun x hx => by
          obtain ⟨j, hj, rfl⟩ := List.getElem_of_mem hx
          exact HR.out j hj (by omega)⟩, rfl⟩

set_option maxHeartbeats 1000000 in
theorem FewSel4_calls (v : Value) (l : List Term) (w : World) (hs : Kd.term.S (vw w []) v l) : Calls Try.prog 33 #[v] w (FewIf (FewL l Term.Few) w) := by
  obtain ⟨A, cap, rfl, hs⟩ := hs.val
  obtain ⟨-, hcap, hlen⟩ := hs.form
  have HS := Lib.hid hs
  clear hs
  go_enter Try.func33, Try.ntmps33
  by_cases h60 : 20 < l.length
  · go_wp2
    go_ret
    exact ⟨_, rfl, (fun h => by cases h), rfl⟩
  · go_wp2
    go_loop [3] (fun i => ∃ k : Nat, k ≤ l.length ∧ i = .int .i64 k ∧ Hid (∀ j, (h : j < l.length) → j < k → (l[j]).Few)) (fun i => l.length - (intOf i).toNat)
    case atStart => exact ⟨0, Nat.zero_le _, rfl, fun _ _ h => by omega⟩
    case round =>
      obtain ⟨k, hk, rfl, HR⟩ := hrel
      by_cases hlt : k < l.length
      · obtain ⟨b, off, rfl, hc, hp⟩ := HS.out.elemN k hlt
        have c1 : w.cell? ⟨b, off + k * 3 + 1, none⟩ = some (.string l[k].key) := hc 1 _ rfl
        have c2 : w.cell? ⟨b, off + k * 3 + 2, none⟩ = some (.string l[k].val) := hc 2 _ rfl
        clear hc
        by_cases h5 : 50 < (l[k].key).size
        · go_wp2
          go_ret
          exact ⟨_, rfl, (fun h => by cases h), rfl⟩
        by_cases h6 : 50 < (l[k].val).size
        · go_wp2
          go_ret
          exact ⟨_, rfl, (fun h => by cases h), rfl⟩
        have HF : Hid ((l[k]).Few) := ⟨by omega, by omega⟩
        go_wp2
        go_round
        case rel => exact ⟨k + 1, by omega, by go_num, fun j h hj => by
          by_cases e : j = k
          · subst e; exact HF.out
          · exact HR.out j h (by omega)⟩
        case measure => simp [intOf]; omega
      · go_wp2
        go_ret
        exact ⟨_, rfl, fun _ => ⟨by omega, fun x hx => by
          obtain ⟨j, hj, rfl⟩ := List.getElem_of_mem hx
          exact HR.out j hj (by omega)⟩, rfl⟩

set_option maxHeartbeats 1000000 in
theorem Few5_calls (v : Value) (l : List Tnt) (w : World) (hs : Kd.tnt.S (vw w []) v l) : Calls Try.prog 74 #[v] w (FewIf (FewL l Tnt.Few) w) := by
  obtain ⟨A, cap, rfl, hs⟩ := hs.val
  obtain ⟨-, hcap, hlen⟩ := hs.form
  have HS := Lib.hid hs
  clear hs
  go_enter Try.func74, Try.ntmps74
  by_cases h60 : 20 < l.length
  · go_wp2
    go_ret
    exact ⟨_, rfl, (fun h => by cases h), rfl⟩
  · go_wp2
    go_loop [3] (fun i => ∃ k : Nat, k ≤ l.length ∧ i = .int .i64 k ∧ Hid (∀ j, (h : j < l.length) → j < k → (l[j]).Few)) (fun i => l.length - (intOf i).toNat)
    case atStart => exact ⟨0, Nat.zero_le _, rfl, fun _ _ h => by omega⟩
    case round =>
      obtain ⟨k, hk, rfl, HR⟩ := hrel
      by_cases hlt : k < l.length
      · obtain ⟨b, off, rfl, hc, hp⟩ := HS.out.elemN k hlt
        have c0 : w.cell? ⟨b, off + k * 3, none⟩ = some (.string l[k].key) := hc 0 _ rfl
        have c1 : w.cell? ⟨b, off + k * 3 + 1, none⟩ = some (.string l[k].val) := hc 1 _ rfl
        clear hc
        by_cases h5 : 50 < (l[k].key).size
        · go_wp2
          go_ret
          exact ⟨_, rfl, (fun h => by cases h), rfl⟩
        by_cases h6 : 50 < (l[k].val).size
        · go_wp2
          go_ret
          exact ⟨_, rfl, (fun h => by cases h), rfl⟩
        have HF : Hid ((l[k]).Few) := ⟨by omega, by omega⟩
        go_wp2
        go_round
        case rel => exact ⟨k + 1, by omega, by go_num, fun j h hj => by
          by_cases e : j = k
          · subst e; exact HF.out
          · exact HR.out j h (by omega)⟩
        case measure => simp [intOf]; omega
      · go_wp2
        go_ret
        exact ⟨_, rfl, fun _ => ⟨by omega, fun x hx => by
          obtain ⟨j, hj, rfl⟩ := List.getElem_of_mem hx
          exact HR.out j hj (by omega)⟩, rfl⟩

set_option maxHeartbeats 1000000 in
theorem FewTols5_calls (v : Value) (l : List Tnt) (w : World) (hs : Kd.tnt.S (vw w []) v l) : Calls Try.prog 34 #[v] w (FewIf (FewL l Tnt.Few) w) := by
  obtain ⟨A, cap, rfl, hs⟩ := hs.val
  obtain ⟨-, hcap, hlen⟩ := hs.form
  have HS := Lib.hid hs
  clear hs
  go_enter Try.func34, Try.ntmps34
  by_cases h60 : 20 < l.length
  · go_wp2
    go_ret
    exact ⟨_, rfl, (fun h => by cases h), rfl⟩
  · go_wp2
    go_loop [3] (fun i => ∃ k : Nat, k ≤ l.length ∧ i = .int .i64 k ∧ Hid (∀ j, (h : j < l.length) → j < k → (l[j]).Few)) (fun i => l.length - (intOf i).toNat)
    case atStart => exact ⟨0, Nat.zero_le _, rfl, fun _ _ h => by omega⟩
    case round =>
      obtain ⟨k, hk, rfl, HR⟩ := hrel
      by_cases hlt : k < l.length
      · obtain ⟨b, off, rfl, hc, hp⟩ := HS.out.elemN k hlt
        have c0 : w.cell? ⟨b, off + k * 3, none⟩ = some (.string l[k].key) := hc 0 _ rfl
        have c1 : w.cell? ⟨b, off + k * 3 + 1, none⟩ = some (.string l[k].val) := hc 1 _ rfl
        clear hc
        by_cases h5 : 50 < (l[k].key).size
        · go_wp2
          go_ret
          exact ⟨_, rfl, (fun h => by cases h), rfl⟩
        by_cases h6 : 50 < (l[k].val).size
        · go_wp2
          go_ret
          exact ⟨_, rfl, (fun h => by cases h), rfl⟩
        have HF : Hid ((l[k]).Few) := ⟨by omega, by omega⟩
        go_wp2
        go_round
        case rel => exact ⟨k + 1, by omega, by go_num, fun j h hj => by
          by_cases e : j = k
          · subst e; exact HF.out
          · exact HR.out j h (by omega)⟩
        case measure => simp [intOf]; omega
      · go_wp2
        go_ret
        exact ⟨_, rfl, fun _ => ⟨by omega, fun x hx => by
          obtain ⟨j, hj, rfl⟩ := List.getElem_of_mem hx
          exact HR.out j hj (by omega)⟩, rfl⟩

end Go.Proofs.Ytfbmfjmnpfidoaa
