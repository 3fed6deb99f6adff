import Derived.WalkKit
import Derived.KernelRfl
import Derived.Lib.Hide
import Derived.Below
import Derived.Deep.Draws
import Derived.Deep.Slices
import Derived.ProofKit
import Derived.Lib.SlicesS
namespace Go.Proofs.YtnmhicgbdalniaaGreatDoor
open Go.RowKit Go.ChangeShapes Go.WideShapes

/-! What memory may be looked at, and what values mean there. -/
abbrev View := Nat → Option Obj
def View.le (h k : View) : Prop := ∀ b o, h b = some o → k b = some o
def View.cell? (h : View) (a : Addr) : Option Value :=
  match h a.block with
  | some (.cells c _ _) => if a.spot.isSome then none else c[a.off]?
  | _ => none
/-- All blocks of a world but those of a list. -/
def vw (w : World) (M : List Nat) : View := fun b => if b ∈ M then none else w.heap[b]?

theorem View.le_refl (h : View) : h.le h := fun _ _ x => x
theorem View.le_trans {h k l : View} (a : h.le k) (b : k.le l) : h.le l := fun i o x => b i o (a i o x)
theorem View.cell_mono {h k : View} (hk : h.le k) {a : Addr} {v : Value} (c : h.cell? a = some v) : k.cell? a = some v := by
  unfold View.cell? at *
  cases e : h a.block with
  | none => rw [e] at c; cases c
  | some o => rw [hk _ _ e]; rw [e] at c; exact c
theorem cell_of_vw {w : World} {M : List Nat} {a : Addr} {v : Value} (c : (vw w M).cell? a = some v) : w.cell? a = some v := by
  unfold View.cell? vw at c
  unfold World.cell?
  split at c <;> rename_i h
  · split at h
    · cases h
    · rw [h]; exact c
  · cases c
theorem vw_eq {w : World} {M : List Nat} {b : Nat} {o : Obj} (h : vw w M b = some o) : b ∉ M ∧ w.heap[b]? = some o := by
  unfold vw at h
  split at h
  · cases h
  · exact ⟨by assumption, h⟩
theorem vw_mk {w : World} {M : List Nat} {b : Nat} {o : Obj} (h : b ∉ M) (k : w.heap[b]? = some o) : vw w M b = some o := by
  unfold vw; rw [if_neg h]; exact k
theorem blk_lt {w : World} {b : Nat} {o : Obj} (h : w.heap[b]? = some o) : b < w.heap.size := by
  rcases Nat.lt_or_ge b w.heap.size with k | k
  · exact k
  · simp [Array.getElem?_eq_none k] at h
theorem vw_below {w w' : World} {M : List Nat} (h : Below w.heap.size w w') : (vw w M).le (vw w' M) := fun b o hb => by
  obtain ⟨h1, h2⟩ := vw_eq hb
  exact vw_mk h1 ((h.block b (blk_lt h2)).trans h2)
theorem vw_sub {w : World} {M M' : List Nat} (h : ∀ b, b ∈ M' → b ∈ M) : (vw w M).le (vw w M') := fun b o hb => by
  obtain ⟨h1, h2⟩ := vw_eq hb
  exact vw_mk (fun k => h1 (h b k)) h2
theorem vw_setCell {w : World} {M : List Nat} {a : Addr} (h : a.block ∈ M) (v : Value) : (vw w M).le (vw (w.setCell a v) M) := fun b o hb => by
  obtain ⟨h1, h2⟩ := vw_eq hb
  refine vw_mk h1 ?_
  rw [Below.heap_setCell w a v b (fun e => h1 (e ▸ h))]; exact h2
theorem vw_alloc {w : World} {M : List Nat} (o : Obj) : (vw w M).le (vw (w.alloc o) M) := fun b x hb => by
  obtain ⟨h1, h2⟩ := vw_eq hb
  refine vw_mk h1 ?_
  show (w.heap.push o)[b]? = _
  rw [Array.getElem?_push_lt (blk_lt h2), ← h2, Array.getElem?_eq_getElem (blk_lt h2)]
theorem vw_drewN {w : World} {M : List Nat} (n : Nat) : (vw w M).le (vw (w.drewN n) M) := fun _ _ hb => hb

theorem blk_last (w : World) (o : Obj) : (w.alloc o).heap[w.heap.size]? = some o := by show (w.heap.push o)[_]? = _; simp
theorem blk_old (w : World) (o : Obj) {k : Nat} (h : k < w.heap.size) : (w.alloc o).heap[k]? = w.heap[k]? := Below.heap_alloc w o k h
theorem str_beq {a b : ByteArray} (h : a = b) : (a.toList == b.toList) = true := by subst h; simp
theorem str_nbeq {a b : ByteArray} (h : a ≠ b) : (a.toList == b.toList) = false := (Lib.bytes_beq_false_iff a b).2 h
theorem ret_bool {a b : Bool} (h : a = b) : Ending.returned (.bool a) = .returned (.bool b) := by rw [h]
theorem vw_grow {w w' : World} {M M' : List Nat} (h : Below w.heap.size w w') (hm : ∀ b, b ∈ M' → b ∈ M ∨ w.heap.size ≤ b) : (vw w M).le (vw w' M') := fun k o hk => by
  obtain ⟨h1, h2⟩ := vw_eq hk
  have h3 := blk_lt h2
  refine vw_mk (fun e => ?_) ((h.block k h3).trans h2)
  rcases hm k e with h4 | h4
  · exact h1 h4
  · omega
theorem own_below {w w' : World} {base : Nat} {e : TypeId} {size : Nat} {v : Value} {n : Nat} {xs : List Value} (h : w.ownsRow base e size v n xs) (hb : Below w.heap.size w w') : w'.ownsRow base e size v n xs := by
  refine h.kept (row := none) ⟨hb.os, hb.tape, hb.output, hb.size, fun k hk _ => hb.block k hk⟩ ?_
  cases v.ownBlock with
  | none => exact .inl rfl
  | some x => exact .inr (by simp)
theorem own_congr {w : World} {base : Nat} {e : TypeId} {size : Nat} {v : Value} {n n' : Nat} {xs xs' : List Value} (h : w.ownsRow base e size v n xs) (hn : n = n') (hx : xs = xs') : w.ownsRow base e size v n' xs' := by rw [← hn, ← hx]; exact h
theorem one_new (w : World) (x : Value) (T : TypeId) : ∀ (j : Nat) (u : Value), [x][j]? = some u → (w.alloc (.cells #[x] T)).cell? (Addr.add ⟨w.heap.size, 0, none⟩ j) = some u := by
  intro j u hj
  cases j with
  | zero =>
    have : x = u := by simpa using hj
    subst this
    have h := blk_last w (.cells #[x] T)
    unfold World.cell?
    rw [show (Addr.add ⟨w.heap.size, 0, none⟩ 0) = ⟨w.heap.size, 0, none⟩ from rfl]
    simp only
    rw [h]
    rfl
  | succ j => simp at hj
/-- What the cells of a value of some kind hold. -/
structure Kd (α : Type) where
  sz : Nat
  K : View → α → List Value → Prop
  len : ∀ {h x cs}, K h x cs → cs.length = sz
  mono : ∀ {h k : View} {x cs}, h.le k → K h x cs → K k x cs
namespace Kd
variable {α : Type}
/-- A value reads as a list. -/
def S (d : Kd α) (h : View) (v : Value) (xs : List α) : Prop :=
  ∃ A cap, v = .slice A xs.length cap ∧ xs.length ≤ cap ∧ xs.length ≤ 140737488351232 ∧ (A = none → cap = 0) ∧
    (0 < xs.length → ∃ b off, A = some ⟨b, off, none⟩ ∧ ∀ j x, xs[j]? = some x → ∃ cs, d.K h x cs ∧ ∀ i u, cs[i]? = some u → h.cell? ⟨b, off + j * d.sz + i, none⟩ = some u)
theorem S.mono {d : Kd α} {h k : View} {v : Value} {xs : List α} (hk : h.le k) (s : d.S h v xs) : d.S k v xs := by
  obtain ⟨A, cap, e, h1, h2, h4, h3⟩ := s
  refine ⟨A, cap, e, h1, h2, h4, fun hl => ?_⟩
  obtain ⟨b, off, e, hc⟩ := h3 hl
  refine ⟨b, off, e, fun j x hx => ?_⟩
  obtain ⟨cs, c1, c2⟩ := hc j x hx
  exact ⟨cs, d.mono hk c1, fun i u hu => View.cell_mono hk (c2 i u hu)⟩
theorem S.nil (d : Kd α) (h : View) : d.S h (.slice none 0 0) [] := ⟨none, 0, rfl, Nat.le_refl _, by simp, fun _ => rfl, fun h => by simp at h⟩
theorem S.form {d : Kd α} {h : View} {A : Option Addr} {n cap : Nat} {xs : List α} (s : d.S h (.slice A n cap) xs) : n = xs.length ∧ xs.length ≤ cap ∧ xs.length ≤ 140737488351232 := by
  obtain ⟨A', cap', e, h1, h2, _⟩ := s
  injection e with e1 e2 e3
  subst e2 e3
  exact ⟨rfl, h1, h2⟩
theorem S.cap_none {d : Kd α} {h : View} {n cap : Nat} {xs : List α} (s : d.S h (.slice none n cap) xs) : xs = [] ∧ cap = 0 := by
  obtain ⟨A', cap', e, h1, h2, h4, h3⟩ := s
  injection e with e1 e2 e3
  subst e1 e3
  have := h4 rfl
  exact ⟨by cases xs with | nil => rfl | cons x r => simp at h1; omega, this⟩
theorem S.elem {d : Kd α} {h : View} {A : Option Addr} {n cap : Nat} {xs : List α} (s : d.S h (.slice A n cap) xs) (j : Nat) (hj : j < xs.length) :
    ∃ b off cs, A = some ⟨b, off, none⟩ ∧ d.K h xs[j] cs ∧ ∀ i u, cs[i]? = some u → h.cell? ⟨b, off + j * d.sz + i, none⟩ = some u := by
  obtain ⟨A', cap', e, h1, h2, _, h3⟩ := s
  injection e with e1 e2 e3
  subst e1
  obtain ⟨b, off, e, hc⟩ := h3 (by omega)
  obtain ⟨cs, c1, c2⟩ := hc j xs[j] (List.getElem?_eq_getElem hj)
  exact ⟨b, off, cs, e, c1, c2⟩
theorem S.empty (d : Kd α) (h : View) (A : Option Addr) (cap : Nat) (hA : A = none → cap = 0) : d.S h (.slice A 0 cap) [] := ⟨A, cap, rfl, Nat.zero_le _, by simp, hA, fun h => by simp at h⟩
theorem S.drop {d : Kd α} {h : View} {b off n cap : Nat} {xs : List α} (s : d.S h (.slice (some ⟨b, off, none⟩) n cap) xs) (k : Nat) (hk : k ≤ n) : d.S h (.slice (some ⟨b, off + k * d.sz, none⟩) (n - k) (cap - k)) (xs.drop k) := by
  obtain ⟨rfl, h1, h2⟩ := s.form
  refine ⟨some ⟨b, off + k * d.sz, none⟩, cap - k, by rw [List.length_drop], by rw [List.length_drop]; omega, by rw [List.length_drop]; omega, fun e => (by cases e), fun hl => ⟨b, off + k * d.sz, rfl, fun j x hx => ?_⟩⟩
  rw [List.length_drop] at hl
  rw [List.getElem?_drop] at hx
  obtain ⟨A', cap', e, _, _, _, h3⟩ := s
  obtain ⟨b', off', e', hc⟩ := h3 (by omega)
  injection e with e1
  subst e'
  injection e1 with e1
  injection e1 with e1 e2
  subst e1 e2
  obtain ⟨cs, c1, c2⟩ := hc (k + j) x hx
  refine ⟨cs, c1, fun i u hu => ?_⟩
  rw [← c2 i u hu, Nat.add_mul, ← Nat.add_assoc]
theorem addr_add (b off k : Nat) : Addr.add ⟨b, off, none⟩ k = ⟨b, off + k, none⟩ := by
  unfold Addr.add
  split
  · rename_i h; rw [h, Nat.add_zero]
  · rfl
theorem S.take {d : Kd α} {h : View} {A : Option Addr} {n cap : Nat} {xs : List α} (s : d.S h (.slice A n cap) xs) (k : Nat) (hk : k ≤ n) : d.S h (.slice A k cap) (xs.take k) := by
  obtain ⟨rfl, h1, h2⟩ := s.form
  have hl : (xs.take k).length = k := by rw [List.length_take]; omega
  obtain ⟨A', cap', e, _, _, h4, h3⟩ := s
  injection e with e1 e2 e3
  subst e1 e3
  refine ⟨A, cap, by rw [hl], by rw [hl]; omega, by rw [hl]; omega, h4, fun hp => ?_⟩
  rw [hl] at hp
  obtain ⟨b, off, e, hc⟩ := h3 (by omega)
  refine ⟨b, off, e, fun j x hx => hc j x ?_⟩
  rw [List.getElem?_take] at hx
  split at hx
  · exact hx
  · cases hx
def scalar (f : α → Value) (p : α → Prop) : Kd α where
  sz := 1
  K := fun _ x cs => cs = [f x] ∧ p x
  len := fun h => by rw [h.1]; rfl
  mono := fun _ h => h
def int (k : IntKind) : Kd Int := scalar (Value.int k) (fun n => (Lit.int k n).wf = true)
def str : Kd ByteArray := scalar Value.string (fun s => s.size ≤ 140737488351232)
def bool : Kd Bool := scalar Value.bool (fun _ => True)
/-- One cell an element. -/
theorem S.elem1 {f : α → Value} {p : α → Prop} {w : World} {M : List Nat} {A : Option Addr} {n cap : Nat} {xs : List α} (s : (scalar f p).S (vw w M) (.slice A n cap) xs) (j : Nat) (hj : j < xs.length) :
    ∃ b off, A = some ⟨b, off, none⟩ ∧ w.cell? ⟨b, off + j, none⟩ = some (f xs[j]) ∧ p xs[j] := by
  obtain ⟨b, off, cs, e, h1, h2⟩ := s.elem j hj
  refine ⟨b, off, e, cell_of_vw (M := M) ?_, h1.2⟩
  have := h2 0 (f xs[j]) (by rw [h1.1]; rfl)
  simpa [scalar] using this
/-- A block of one-cell elements. -/
theorem S.of_block {f : α → Value} {p : α → Prop} {w : World} {M : List Nat} {b : Nat} {T : TypeId} {fz : Nat × Nat} {xs : List α} (h : w.heap[b]? = some (.cells (xs.map f).toArray T fz)) (hm : b ∉ M) (hl : xs.length ≤ 140737488351232) (hp : ∀ x ∈ xs, p x) :
    (scalar f p).S (vw w M) (.slice (some ⟨b, 0, none⟩) xs.length xs.length) xs := by
  refine ⟨_, _, rfl, Nat.le_refl _, hl, fun e => (by cases e), fun _ => ⟨b, 0, rfl, fun j x hx => ⟨[f x], ⟨rfl, hp x (List.mem_of_getElem? hx)⟩, fun i u hu => ?_⟩⟩⟩
  obtain ⟨rfl, rfl⟩ : i = 0 ∧ u = f x := by
    cases i with
    | zero => exact ⟨rfl, by simpa using hu.symm⟩
    | succ i => simp at hu
  simp [View.cell?, vw_mk hm h, scalar, List.getElem?_map, hx]
/-- The cells behind a slice of one-cell elements, as append asks for them. -/
theorem S.news {f : α → Value} {p : α → Prop} {w : World} {M : List Nat} {ad : Addr} {n cap : Nat} {xs : List α} (s : (scalar f p).S (vw w M) (.slice (some ad) n cap) xs) :
    ∀ (j : Nat) (u : Value), (xs.map f)[j]? = some u → w.cell? (ad.add j) = some u := by
  intro j u hj
  have hl : j < xs.length := by
    have := (List.getElem?_eq_some_iff.1 hj).1
    simpa using this
  obtain ⟨b, off, e, hc, _⟩ := s.elem1 j hl
  injection e with e
  subst e
  rw [addr_add, hc]
  rw [List.getElem?_map, List.getElem?_eq_getElem hl] at hj
  simpa using hj
/-- A row of the call's own. -/
theorem S.of_own {f : α → Value} {p : α → Prop} {w : World} {base : Nat} {e : TypeId} {v : Value} {n : Nat} {xs : List α} (h : w.ownsRow base e 1 v n (xs.map f)) (hl : xs.length ≤ 140737488351232) (hp : ∀ x ∈ xs, p x) {M : List Nat} (hm : ∀ k, v.ownBlock = some k → k ∉ M) :
    (scalar f p).S (vw w M) v xs := by
  obtain ⟨h1, ⟨rfl, rfl⟩ | ⟨g, cap, cur, rfl, hg, hh, hn, hc, hs, ht⟩⟩ := h
  · have : xs = [] := by simpa using h1
    subst this
    exact S.nil _ _
  · have hn' : n = xs.length := by simpa using h1.symm
    subst hn'
    refine ⟨_, cap, rfl, hn, hl, fun e => (by cases e), fun _ => ⟨g, 0, rfl, fun j x hx => ⟨[f x], ⟨rfl, hp x (List.mem_of_getElem? hx)⟩, fun i u hu => ?_⟩⟩⟩
    obtain ⟨rfl, rfl⟩ : i = 0 ∧ u = f x := by
      cases i with
      | zero => exact ⟨rfl, by simpa using hu.symm⟩
      | succ i => simp at hu
    have hj := (List.getElem?_eq_some_iff.1 hx).1
    have h2 : (cur.toList.take (xs.length * 1))[j]? = some (f x) := by rw [ht, List.getElem?_map, hx]; rfl
    rw [List.getElem?_take, if_pos (by omega)] at h2
    simp [View.cell?, vw_mk (hm g rfl) hh, scalar]
    simpa using h2
def slice (d : Kd α) : Kd (List α) where
  sz := 1
  K := fun h xs cs => ∃ v, cs = [v] ∧ d.S h v xs
  len := by rintro h x cs ⟨v, rfl, _⟩; rfl
  mono := by rintro h k x cs hk ⟨v, rfl, s⟩; exact ⟨v, rfl, s.mono hk⟩
/-- What reads as data of type t, within the form's reach, reads as one of this kind. -/
def Opens (d : Kd α) (P : Program) (t : TypeId) : Prop :=
  P.cellsOf t = d.sz ∧ ∀ {H : Type} {enc : TypeId × Value → H} {w : World} {base : Nat} {sp : Nat → Bool} {held : Bool} {fuel : Nat} {cs : List Value} {x : DataW H × List MemPlace},
    DataW.trod enc P w base sp held fuel t cs = some x → (∀ n ∈ x.1.weights P t, n ≤ reachBytes) → ∃ a, d.K (vw w []) a cs
theorem opens_int {P : Program} {t : TypeId} {k : IntKind} (hs : P.cellsOf t = 1) (h : P.underlying t = some (.int k)) : (int k).Opens P t := by
  refine ⟨hs, fun {H enc w base sp held fuel cs x} hx _ => ?_⟩
  obtain ⟨n, e, rfl, hw⟩ := DataW.trod_int h hx
  exact ⟨n, e, hw⟩
theorem opens_str {P : Program} {t : TypeId} (hs : P.cellsOf t = 1) (h : P.underlying t = some .string) : str.Opens P t := by
  refine ⟨hs, fun {H enc w base sp held fuel cs x} hx hw => ?_⟩
  obtain ⟨n, e, rfl, _⟩ := DataW.trod_string h hx
  have := hw n.data.toList.length (by simp [DataW.weights])
  exact ⟨n, e, by simpa [reachBytes] using this⟩
theorem opens_bool {P : Program} {t : TypeId} (hs : P.cellsOf t = 1) (h : P.underlying t = some .bool) : bool.Opens P t := by
  refine ⟨hs, fun {H enc w base sp held fuel cs x} hx _ => ?_⟩
  obtain ⟨n, e, _⟩ := DataW.trod_bool h hx
  exact ⟨n, e, trivial⟩
theorem weightsAll_mem {P : Program} {H : Type} {e : TypeId} {d : DataW H} : ∀ {l : List (DataW H)}, d ∈ l → ∀ n ∈ d.weights P e, n ∈ DataW.weightsAll P e l
  | [], h, _, _ => by cases h
  | a :: l, h, n, hn => by
    simp only [DataW.weightsAll, List.mem_append]
    rcases List.mem_cons.1 h with rfl | h
    · exact .inl hn
    · exact .inr (weightsAll_mem h n hn)
theorem cells_get {w : World} {base : Nat} {a : Addr} {n : Nat} {cs : List Value} (h : w.cells? base a n = some cs) : ∀ (i : Nat) (u : Value), cs[i]? = some u → w.cell? (a.add i) = some u := by
  intro i u hu
  obtain ⟨_, hl, hc⟩ := World.cells?_some h
  have hi := (List.getElem?_eq_some_iff.1 hu).1
  rw [hc i (by omega), hu]
theorem vw_cell {w : World} {a : Addr} {v : Value} (h : w.cell? a = some v) : (vw w []).cell? a = some v := by
  unfold World.cell? at h
  unfold View.cell?
  split at h
  · rename_i e
    rw [vw_mk (M := []) (by simp) e]; exact h
  · cases h
theorem spot_of_cell {w : World} {a : Addr} {v : Value} (h : w.cell? a = some v) : a.spot = none := by
  unfold World.cell? at h
  split at h
  · cases e : a.spot with
    | none => rfl
    | some x => simp [e] at h
  · cases h
theorem opens_slice {P : Program} {d : Kd α} {t e : TypeId} (hs : P.cellsOf t = 1) (h : P.underlying t = some (.slice e)) (h0 : 0 < d.sz) (hb0 : 0 < P.bytesOf e) (hd : d.Opens P e) : (slice d).Opens P t := by
  refine ⟨hs, fun {H enc w base sp held fuel cs x} hx hw => ?_⟩
  rcases Deep.open_slice h hx with ⟨rfl, _⟩ | ⟨a, len, cap, m, n, D, Pl, rfl, hb, hl, hm, hmm, rfl, hel⟩
  · exact ⟨[], _, rfl, S.nil d _⟩
  · have hlm : len ≤ m := by rw [hmm]; split <;> omega
    have hmax : len ≤ 140737488351232 := by
      have := hw ((len + (m - len)) * P.bytesOf e) (by simp [DataW.weights, h])
      have h2 : len * 1 ≤ (len + (m - len)) * P.bytesOf e := Nat.mul_le_mul (by omega) hb0
      simp only [reachBytes] at this
      omega
    have key : ∀ i, i < len → ∃ y : α × List Value, d.K (vw w []) y.1 y.2 ∧ ∀ j u, y.2[j]? = some u → w.cell? (a.add (i * d.sz + j)) = some u := by
      intro i hi
      obtain ⟨cs', h1, h2⟩ := hel i (by omega)
      obtain ⟨y, hy⟩ := hd.2 h2 (fun n hn => hw n (by
        simp only [DataW.weights, h]
        exact List.mem_cons_of_mem _ (List.mem_append_left _ (weightsAll_mem (List.mem_map.2 ⟨i, List.mem_range.2 hi, rfl⟩) n hn))))
      refine ⟨(y, cs'), hy, fun j u hu => ?_⟩
      have := cells_get h1 j u hu
      rwa [hd.1, Deep.add_add] at this
    rcases Nat.eq_zero_or_pos len with rfl | hpos
    · exact ⟨[], .slice (some a) 0 cap, rfl, some a, cap, rfl, Nat.zero_le _, by simp, fun e => (by cases e), fun h => by simp at h⟩
    · obtain ⟨y0, k0, c0⟩ := key 0 hpos
      have : Inhabited (α × List Value) := ⟨y0⟩
      obtain ⟨Y, hY⟩ := Deep.choose_lt key
      have hlen := d.len (hY 0 hpos).1
      have hsp : a.spot = none := by
        have h1 := (hY 0 hpos).2 0 ((Y 0).2[0]'(by omega)) (List.getElem?_eq_getElem _)
        have h2 := spot_of_cell h1
        unfold Addr.add at h2
        simpa using h2
      obtain ⟨b, off, spot⟩ := a
      simp only at hsp
      subst hsp
      refine ⟨(List.range len).map fun i => (Y i).1, .slice (some ⟨b, off, none⟩) len cap, rfl, some ⟨b, off, none⟩, cap, by simp, by simpa using hl, by simp; omega, fun e => (by cases e), fun _ => ⟨b, off, rfl, fun j x hx => ?_⟩⟩
      have hj : j < len := by
        have := (List.getElem?_eq_some_iff.1 hx).1
        simpa using this
      rw [List.getElem?_map, List.getElem?_range hj] at hx
      simp only [Option.map_some, Option.some.injEq] at hx
      subst hx
      refine ⟨(Y j).2, (hY j hj).1, fun i u hu => vw_cell ?_⟩
      have := (hY j hj).2 i u hu
      have e : Addr.add ⟨b, off, none⟩ (j * d.sz + i) = ⟨b, off + j * d.sz + i, none⟩ := by
        unfold Addr.add
        split
        · rename_i h; rw [show off + j * d.sz + i = off by omega]
        · rw [Nat.add_assoc]
      rwa [e] at this
end Kd
end Go.Proofs.YtnmhicgbdalniaaGreatDoor
