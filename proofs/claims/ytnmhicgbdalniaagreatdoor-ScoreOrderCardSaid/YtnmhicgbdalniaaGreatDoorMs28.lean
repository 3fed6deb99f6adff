import Derived.Test.YtnmhicgbdalniaaGreatDoorProg
import Derived.Test.YtnmhicgbdalniaaGreatDoorMs1
import Derived.Test.YtnmhicgbdalniaaGreatDoorMs24
import Derived.Test.YtnmhicgbdalniaaGreatDoorMs25
import Derived.WalkKit
import Derived.KernelRfl
import Derived.Lib.SliceRun
import Derived.Maps.OwnOps
import Derived.Lib.ItoaNum
import Derived.Laws.IdiomStrings
namespace Go.Proofs.YtnmhicgbdalniaaGreatDoor
open Go.RowKit

/-! qty's sums and differences: the program's side. -/
def bothV (a b : Int) : Int := if a < 0 ∨ b < 0 then 1 else 0
theorem bothV_ok {a b : Int} (h : 0 ≤ a) (k : 0 ≤ b) : bothV a b = 0 := by unfold bothV; rw [if_neg (by omega)]
theorem bothV_bad {a b : Int} (h : a < 0 ∨ b < 0) : bothV a b = 1 := by unfold bothV; rw [if_pos h]

theorem qboth_calls (a b : Int) (w : World) :
    Calls Tryz.prog 304 #[.int .i64 a, .int .i64 b] w fun e w' => e = .returned (.int .i64 (bothV a b)) ∧ w' = w := by
  by_cases h : a < 0
  · rw [bothV_bad (.inl h)]
    go_enter Tryz.func304, Tryz.ntmps304
    go_wp2
    go_ret
    exact ⟨rfl, rfl⟩
  · by_cases k : b < 0
    · rw [bothV_bad (.inr k)]
      go_enter Tryz.func304, Tryz.ntmps304
      go_wp2
      go_ret
      exact ⟨rfl, rfl⟩
    · rw [bothV_ok (by omega) (by omega)]
      go_enter Tryz.func304, Tryz.ntmps304
      go_wp2
      go_ret
      exact ⟨rfl, rfl⟩

def toldV (n : Int) (over : Bool) : Int × Int := if over = true ∨ 9223372036854775807 < n then (0, 5) else (n, 0)

theorem qtold_calls (n : Int) (over : Bool) (w : World) (h0 : over = false → 0 ≤ n) :
    Calls Tryz.prog 305 #[.int .u64 n, .bool over] w fun e w' => e = .returned (.tuple #[.int .i64 (toldV n over).1, .int .i64 (toldV n over).2]) ∧ w' = w := by
  cases over with
  | true =>
    have e : toldV n true = (0, 5) := by simp [toldV]
    rw [e]
    go_enter Tryz.func305, Tryz.ntmps305
    go_wp2
    go_ret2
    exact ⟨rfl, rfl⟩
  | false =>
    replace h0 := h0 rfl
    by_cases h : 9223372036854775807 < n
    · have e : toldV n false = (0, 5) := by simp [toldV, h]
      rw [e]
      go_enter Tryz.func305, Tryz.ntmps305
      go_wp2
      go_ret2
      exact ⟨rfl, rfl⟩
    · have e : toldV n false = (n, 0) := by simp [toldV]; omega
      rw [e]
      go_enter Tryz.func305, Tryz.ntmps305
      go_wp2
      go_ret2
      exact ⟨rfl, rfl⟩
def addV (a b : Int) : Int × Int := if a < 0 ∨ b < 0 then (0, 1) else toldV (a + b) false
def subV (a b : Int) : Int × Int := if a < 0 ∨ b < 0 then (0, 1) else if a < b then (0, 5) else (a - b, 0)

theorem qadd_calls (a b : Int) (w : World) (ha : a ≤ 9223372036854775807) (hb : b ≤ 9223372036854775807) :
    Calls Tryz.prog 308 #[.int .i64 a, .int .i64 b] w fun e w' => e = .returned (.tuple #[.int .i64 (addV a b).1, .int .i64 (addV a b).2]) ∧ w' = w := by
  by_cases h : a < 0 ∨ b < 0
  · have e : addV a b = (0, 1) := by simp [addV, h]
    rw [e]
    have k := bothV_bad h
    clear h e
    go_enter Tryz.func308, Tryz.ntmps308
    go_wp2_with (go_at_call 304; refine (qboth_calls _ _ _).mono ?_; rintro e w' ⟨rfl, rfl⟩)
    go_ret2
    exact ⟨rfl, rfl⟩
  · have e : addV a b = toldV (a + b) false := by simp [addV, h]
    rw [e]
    have h1 : 0 ≤ a := by omega
    have h2 : 0 ≤ b := by omega
    have k := bothV_ok h1 h2
    clear h e
    go_enter Tryz.func308, Tryz.ntmps308
    go_wp2_with (first | (go_at_call 304; refine (qboth_calls _ _ _).mono ?_; rintro e w' ⟨rfl, rfl⟩) | (go_at_call 305; refine (qtold_calls _ _ _ (by omega)).mono ?_; rintro e w' ⟨rfl, rfl⟩))
    go_ret2
    exact ⟨rfl, rfl⟩
theorem qsub_calls (a b : Int) (w : World) (ha : a ≤ 9223372036854775807) (hb : b ≤ 9223372036854775807) :
    Calls Tryz.prog 261 #[.int .i64 a, .int .i64 b] w fun e w' => e = .returned (.tuple #[.int .i64 (subV a b).1, .int .i64 (subV a b).2]) ∧ w' = w := by
  by_cases h : a < 0 ∨ b < 0
  · have e : subV a b = (0, 1) := by simp [subV, h]
    rw [e]
    have k := bothV_bad h
    clear h e
    go_enter Tryz.func261, Tryz.ntmps261
    go_wp2_with (go_at_call 304; refine (qboth_calls _ _ _).mono ?_; rintro e w' ⟨rfl, rfl⟩)
    go_ret2
    exact ⟨rfl, rfl⟩
  · have h1 : 0 ≤ a := by omega
    have h2 : 0 ≤ b := by omega
    have k := bothV_ok h1 h2
    have e : subV a b = toldV (IntKind.u64.wrap (a - b)) (decide (a < b)) := by
      unfold subV toldV
      rw [if_neg h]
      by_cases hlt : a < b
      · simp [hlt]
      · rw [IntKind.wrap_u64, if_neg hlt, if_neg (by simp [hlt]; omega), Int.emod_eq_of_lt (by omega) (by omega)]
    have hw : 0 ≤ IntKind.u64.wrap (a - b) := by rw [IntKind.wrap_u64]; omega
    rw [e]
    clear h e
    go_enter Tryz.func261, Tryz.ntmps261
    go_wp2_with (first | (go_at_call 304; refine (qboth_calls _ _ _).mono ?_; rintro e w' ⟨rfl, rfl⟩) | (go_at_call 305; refine (qtold_calls _ _ _ (fun _ => hw)).mono ?_; rintro e w' ⟨rfl, rfl⟩))
    go_ret2
    exact ⟨rfl, rfl⟩
theorem addV_addN (a b : Int) : addV a b = addN a b := by
  unfold addV addN toldV
  by_cases h1 : a < 0
  · simp [h1]
  · by_cases h2 : b < 0
    · simp [h1, h2]
    · by_cases h3 : 9223372036854775807 - b < a
      · have : 9223372036854775807 < a + b := by omega
        simp [h1, h2, h3, this]
      · have : ¬ 9223372036854775807 < a + b := by omega
        simp [h1, h2, h3, this]
theorem subV_subN (a b : Int) : subV a b = subN a b := by
  unfold subV subN
  by_cases h1 : a < 0
  · simp [h1]
  · by_cases h2 : b < 0
    · simp [h1, h2]
    · simp [h1, h2]
end Go.Proofs.YtnmhicgbdalniaaGreatDoor
namespace Go.Proofs.YtnmhicgbdalniaaGreatDoor
open Go.RowKit Go.Sort

/-! Rows of structs in a block that is written. -/
structure Rw (w : World) (g z : Nat) (css : List (List Value)) : Prop where
  lt : g < w.heap.size
  len : ∀ c ∈ css, c.length = z
  at_ : ∀ (t : Nat) (c : List Value), css[t]? = some c → w.rangeAt g (t * z) c
  free : ∀ x, w.frozen? ⟨g, x, none⟩ = false
theorem Rw.below {w w' : World} {g z : Nat} {css : List (List Value)} (h : Rw w g z css) (hb : Below w.heap.size w w') : Rw w' g z css :=
  ⟨Nat.lt_of_lt_of_le h.lt hb.size, h.len, fun t c hc j v hv => (hb.cell (p := ⟨g, t * z + j, none⟩) h.lt).trans (h.at_ t c hc j v hv), fun x => (hb.frozen (p := ⟨g, x, none⟩) h.lt).trans (h.free x)⟩
theorem Rw.there {w : World} {g z : Nat} {css : List (List Value)} (h : Rw w g z css) {t : Nat} (ht : t < css.length) : w.there g (t * z) z := fun j hj => by
  have hc := h.len css[t] (List.getElem_mem ht)
  have := h.at_ t css[t] (List.getElem?_eq_getElem ht) j (css[t][j]'(by omega)) (List.getElem?_eq_getElem _)
  exact ⟨by rw [this]; rfl, h.free _⟩
theorem apart {s t z j : Nat} (hst : s ≠ t) (hj : j < z) : s * z + j < t * z ∨ t * z + z ≤ s * z + j := by
  rcases Nat.lt_or_gt_of_ne hst with h | h
  · have := Nat.mul_le_mul_right z (show s + 1 ≤ t by omega)
    rw [Nat.add_mul] at this; omega
  · have := Nat.mul_le_mul_right z (show t + 1 ≤ s by omega)
    rw [Nat.add_mul] at this; omega
theorem Rw.set {w : World} {g z : Nat} {css : List (List Value)} (h : Rw w g z css) {t : Nat} (ht : t < css.length) {c : List Value} (hc : c.length = z) : Rw (w.setCells g (t * z) c) g z (css.set t c) := by
  refine ⟨by rw [setCells_size]; exact h.lt, fun d hd => ?_, fun s d hd j v hv => ?_, fun x => by rw [World.frozen?_setCells]; exact h.free x⟩
  · rcases List.mem_or_eq_of_mem_set hd with k | rfl
    · exact h.len d k
    · exact hc
  · rw [List.getElem?_set] at hd
    by_cases e : t = s
    · subst e
      rw [if_pos rfl, if_pos ht] at hd
      injection hd with hd
      subst hd
      have hj := (List.getElem?_eq_some_iff.1 hv).1
      rw [World.cell?_setCells_in g c (t * z) w (fun i hi => (h.there ht i (by omega)).1) j hj, ← hv, List.getElem?_eq_getElem hj]
    · rw [if_neg e] at hd
      have hj := (List.getElem?_eq_some_iff.1 hv).1
      have hl := h.len d (List.mem_of_getElem? hd)
      rw [World.cell?_setCells_out g c (t * z) w ⟨g, s * z + j, none⟩ (fun _ _ => by have := apart (s := s) (t := t) (z := z) (j := j) (Ne.symm e) (by omega); rw [hc]; exact this)]
      exact h.at_ s d hd j v hv
/-- A block of the call's own: its type, and how many cells it has. -/
def Blk (w : World) (g : Nat) (T : TypeId) (n : Nat) : Prop := ∃ cur : Array Value, w.heap[g]? = some (.cells cur T (0, 0)) ∧ cur.size = n
theorem Blk.below {w w' : World} {g : Nat} {T : TypeId} {n : Nat} (h : Blk w g T n) (hb : Below w.heap.size w w') : Blk w' g T n := by
  obtain ⟨cur, h1, h2⟩ := h
  exact ⟨cur, (hb.block _ (blk_lt h1)).trans h1, h2⟩
theorem Blk.setCell {w : World} {g : Nat} {T : TypeId} {n : Nat} (h : Blk w g T n) (b j : Nat) (u : Value) : Blk (w.setCell ⟨b, j, none⟩ u) g T n := by
  obtain ⟨cur, h1, h2⟩ := h
  by_cases e : b = g
  · subst e
    exact ⟨_, blk_set h1 u, by rw [Array.size_setIfInBounds]; exact h2⟩
  · exact ⟨cur, (Below.heap_setCell w ⟨b, j, none⟩ u g (fun k => e k.symm)).trans h1, h2⟩
theorem Blk.setCells {g : Nat} {T : TypeId} {n : Nat} (b : Nat) : ∀ (cs : List Value) (o : Nat) {w : World}, Blk w g T n → Blk (w.setCells b o cs) g T n
  | [], _, _, h => h
  | c :: r, o, _, h => Blk.setCells b r (o + 1) (h.setCell b o c)
theorem Blk.other {w w' : World} {g : Nat} {T : TypeId} {n : Nat} (h : Blk w g T n) (hb : w'.heap[g]? = w.heap[g]?) : Blk w' g T n := by
  obtain ⟨cur, h1, h2⟩ := h
  exact ⟨cur, hb.trans h1, h2⟩
theorem Blk.own {w : World} {base g z n cap : Nat} {T : TypeId} {css : List (List Value)} (h : Blk w g T (cap * z)) (hr : Rw w g z css) (hl : css.length = n) (hb : base ≤ g) (h1 : n ≤ cap) (h2 : cap ≤ maxLen) : w.ownsRow base T z (.slice (some ⟨g, 0, none⟩) n cap) n css.flatten := by
  obtain ⟨cur, k1, k2⟩ := h
  have hfl := flatten_len css hr.len
  rw [hl] at hfl
  refine ⟨hfl, .inr ⟨g, cap, cur, rfl, hb, k1, h1, h2, k2, ?_⟩⟩
  have hnc : n * z ≤ cap * z := Nat.mul_le_mul_right z h1
  refine List.ext_getElem? fun j => ?_
  rcases Nat.lt_or_ge j (n * z) with hj | hj
  · have hz : 0 < z := by
      rcases Nat.eq_zero_or_pos z with h0 | h0
      · subst h0; simp at hj
      · exact h0
    have ht : j / z < css.length := by rw [hl]; exact Nat.div_lt_of_lt_mul (by rw [Nat.mul_comm]; exact hj)
    have hm := Nat.mod_lt j hz
    have hc : css[j / z]? = some css[j / z] := List.getElem?_eq_getElem ht
    have h4 := flatten_get css hr.len (j / z) (j % z) _ hc hm
    have hcl := hr.len _ (List.getElem_mem ht)
    have h5 := hr.at_ _ _ hc (j % z) _ (List.getElem?_eq_getElem (by omega))
    rw [Nat.mul_comm, Nat.div_add_mod] at h4
    rw [cell_of_row w g _ _ _ _ k1, Nat.mul_comm, Nat.div_add_mod] at h5
    rw [h4, List.getElem?_take, if_pos hj, List.getElem?_eq_getElem (by omega : j % z < css[j / z].length), ← h5]
    simp
  · rw [List.getElem?_eq_none (by rw [List.length_take]; omega), List.getElem?_eq_none (by omega)]
/-- 'clear(s)' of wide elements. -/
theorem run_clear_wide {P : Program} (w : World) (t e ty : TypeId) (z : Value) (ht : P.underlying t = some (.slice e)) (hv : ∀ w, (zeroValue e).run P w = .ok z w) (h1 : ∀ v ∈ z.cells.toList, v.oneCell' = true) (hz : 0 < z.cells.size) (b o n c : Nat) (hn : 0 < n)
    (hc : ∀ j, j < n * z.cells.size → (w.cell? ⟨b, o + j, none⟩).isSome = true) (hf : ∀ j, j < n * z.cells.size → w.frozen? ⟨b, o + j, none⟩ = false) :
    (Builtin.clear_ #[t] ty #[.slice (some ⟨b, o, none⟩) n c]).run P w = .ok (.tuple #[]) (w.setCells b o (Builtin.zeroCells z.cells n).toList) := by
  have hl : (Builtin.zeroCells z.cells n).toList.length = n * z.cells.size := by simp [Builtin.zeroCells]
  have hst := run_storeCells_cells (P := P) b o (Builtin.zeroCells z.cells n).toList 0 w (by rw [hl]; simpa using hc) (by rw [hl]; simpa using hf) (by
    intro v hv'
    simp only [Builtin.zeroCells, Array.toList_map, List.mem_map] at hv'
    obtain ⟨i, -, rfl⟩ := hv'
    refine h1 _ ?_
    have : i % z.cells.size < z.cells.size := Nat.mod_lt _ hz
    rw [getElem!_pos z.cells _ this]
    exact Array.mem_toList_iff.2 (Array.getElem_mem _))
  simp only [Nat.add_zero] at hst
  obtain ⟨m, rfl⟩ : ∃ m, n = m + 1 := ⟨n - 1, by omega⟩
  simp [Builtin.clear_, run_underlying ht, hv, hst]
section
variable {P : Program}
theorem wp_clear {o : Oper} {a : Act} {w : World} {K : Act → World → Prop} {Q : Exit → Act → World → Prop} (t e : TypeId) (s : Operand) (ho : o.op = .call { callee := .builtin .clear, args := #[s], argTypes := #[t] }) (z : Value) (ht : P.underlying t = some (.slice e)) (hv : ∀ w, (zeroValue e).run P w = .ok z w)
    (h1 : ∀ v ∈ z.cells.toList, v.oneCell' = true) (hz : 0 < z.cells.size) (b off n c : Nat) (hn : 0 < n) (hs : a.eval s = .slice (some ⟨b, off, none⟩) n c)
    (hc : ∀ j, j < n * z.cells.size → (w.cell? ⟨b, off + j, none⟩).isSome = true) (hf : ∀ j, j < n * z.cells.size → w.frozen? ⟨b, off + j, none⟩ = false)
    (h : K (a.put o.dst (.tuple #[])) (w.setCells b off (Builtin.zeroCells z.cells n).toList)) : o.wp P a w K Q := by
  have hrun := run_clear_wide w t e o.type z ht hv h1 hz b off n c hn hc hf
  unfold Oper.wp execOp
  simp only [ho, resolve, invoke, builtin, Sem.run_bind, Sem.run_pure, Result.andThen_ok, List.map_toArray, List.map_cons, List.map_nil, hs, hrun]
  exact h
theorem wpList_clear {ops : Array Oper} {rest : List Oper} {o : Oper} {a : Act} {w : World} {Q : Exit → Act → World → Prop} (hgd : o.guard = none) (t e : TypeId) (s : Operand) (ho : o.op = .call { callee := .builtin .clear, args := #[s], argTypes := #[t] }) (z : Value) (ht : P.underlying t = some (.slice e)) (hv : ∀ w, (zeroValue e).run P w = .ok z w)
    (h1 : ∀ v ∈ z.cells.toList, v.oneCell' = true) (hz : 0 < z.cells.size) (b off n c : Nat) (hn : 0 < n) (hs : a.eval s = .slice (some ⟨b, off, none⟩) n c)
    (hc : ∀ j, j < n * z.cells.size → (w.cell? ⟨b, off + j, none⟩).isSome = true) (hf : ∀ j, j < n * z.cells.size → w.frozen? ⟨b, off + j, none⟩ = false)
    (h : wpList P ops Q rest (a.put o.dst (.tuple #[])) (w.setCells b off (Builtin.zeroCells z.cells n).toList)) : wpList P ops Q (o :: rest) a w :=
  wpList_plain hgd fun _ hK => wp_clear t e s ho z ht hv h1 hz b off n c hn hs hc hf (hK _ _ h)
end
/-! A cluster without a pod. -/
def isN (name : ByteArray) (p : Pd) : Bool := decide (p.name = name)
set_option maxHeartbeats 1000000 in
theorem drop1_calls (c : List Value) (x : Pd) (name : ByteArray) (nb : Nat) (w : World) (hk : ∃ h, Kd.pod.K h x c) (hn : w.cell? ⟨nb, 0, none⟩ = some (.string name)) (hlt : nb < w.heap.size) :
    Calls Tryz.prog 105 #[.agg c.toArray, .pointer (some ⟨nb, 0, none⟩)] w (BoolDone (isN name x) w) := by
  obtain ⟨h, B1, d1, B2, d2, B3, d3, B4, d4, rfl, -⟩ := hk
  have e1 := eq_beq x.name name
  have HX : Hid (isN name x = decide (x.name = name)) := rfl
  obtain ⟨m, hm⟩ : ∃ m, decide (x.name = name) = m := ⟨_, rfl⟩
  rw [hm] at e1
  have HM := Lib.hid hm
  clear hm
  go_enter Tryz.func105, Tryz.ntmps105
  go_wp2
  go_ret
  exact ⟨ret_bool (by rw [HX.out, HM.out]), alloc_below _ _⟩
def IdxDone (pd : Pd → Bool) (xs : List Pd) (w : World) (e : Ending) (w' : World) : Prop :=
  Below w.heap.size w w' ∧ (((∀ x ∈ xs, pd x = false) ∧ e = .returned (.int .i64 (-1))) ∨ ∃ i : Nat, ∃ h : i < xs.length, pd xs[i] = true ∧ (∀ x ∈ xs.take i, pd x = false) ∧ e = .returned (.int .i64 (i : Int)))
theorem take_none {xs : List Pd} {pd : Pd → Bool} {k : Nat} (hk : k < xs.length) (h : ∀ x ∈ xs.take k, pd x = false) (h2 : pd xs[k] = false) : ∀ x ∈ xs.take (k + 1), pd x = false := fun x hx => by
  rw [List.take_succ_eq_append_getElem hk, List.mem_append] at hx
  rcases hx with hx | hx
  · exact h x hx
  · obtain rfl : x = xs[k] := by simpa using hx
    exact h2
set_option maxHeartbeats 4000000 in
set_option maxRecDepth 100000 in
theorem index_calls (g cap nb : Nat) (name : ByteArray) (xs : List Pd) (css : List (List Value)) (h0 : View) (w : World) (hl : css.length = xs.length) (hk : ∀ (t : Nat) (ht : t < xs.length) (hc : t < css.length), Kd.pod.K h0 xs[t] css[t])
    (hr : Rw w g 11 css) (hn : w.cell? ⟨nb, 0, none⟩ = some (.string name)) (hnb : nb < w.heap.size) (hx : xs.length ≤ 1000) (_ : xs.length ≤ cap) :
    Calls Tryz.prog 183 #[.slice (some ⟨g, 0, none⟩) xs.length cap, .func (.func 105) #[] #[.pointer (some ⟨nb, 0, none⟩)]] w (IdxDone (isN name) xs w) := by
  have HL := Lib.hid hl
  have HK := Lib.hid hk
  have HR := Lib.hid hr
  have HN := Lib.hid hn
  clear hl hk hr hn
  go_enter Tryz.func183, Tryz.ntmps183
  go_wp2
  go_loopw [8] (fun i wr => ∃ k : Nat, k ≤ xs.length ∧ i = .int .i64 k ∧ Hid (∀ x ∈ xs.take k, isN name x = false) ∧ Hid (Below w.heap.size w wr)) (fun i _ => xs.length - (intOf i).toNat)
  case atStart => exact ⟨0, Nat.zero_le _, rfl, fun x hx => by simp at hx, Below.refl _ _⟩
  case round =>
    obtain ⟨k, hk, rfl, HP, HB⟩ := hrel
    by_cases hlt : k < xs.length
    · have hlc : k < css.length := by have := HL.out; omega
      obtain ⟨c, hc⟩ : ∃ c, css[k]'hlc = c := ⟨_, rfl⟩
      have hkc := HK.out k hlt hlc
      rw [hc] at hkc
      have HKC := Lib.hid hkc
      have hcl := (HR.out.len c (hc ▸ List.getElem_mem hlc))
      have HC : Hid (wr.rangeAt g (k * 11) c) := (HR.out.below HB.out).at_ k c (by rw [List.getElem?_eq_getElem hlc, hc])
      have hnc : wr.cell? ⟨nb, 0, none⟩ = some (.string name) := keep_cell HB.out HN.out
      have HNC := Lib.hid hnc
      obtain ⟨m, hm⟩ : ∃ m, isN name xs[k] = m := ⟨_, rfl⟩
      have HM := Lib.hid hm
      have hsz := HB.out.size
      clear hc hkc hnc hm
      obtain ⟨B1, d1, B2, d2, B3, d3, B4, d4, rfl, -⟩ := id HKC.out
      clear hcl
      go_wp2_with (with_reducible refine wpList_load_mid rfl 35 _ rfl g (k * 11) rfl _ _ HC.out Tryz.underlying35 rfl (by kernel_rfl) ?_)
      refine (drop1_calls _ xs[k] name nb _ ⟨_, HKC.out⟩ HNC.out (by omega)).mono ?_
      rintro e w1 ⟨rfl, hb⟩
      rw [HM.out]
      replace HB := Lib.hid (Below.then HB.out hb)
      clear hb
      cases m with
      | true =>
        go_wp2
        go_ret
        exact ⟨HB.out, .inr ⟨k, hlt, HM.out, HP.out, rfl⟩⟩
      | false =>
        have HP2 := Lib.hid (take_none hlt HP.out HM.out)
        go_wp2
        go_roundw
        case rel => exact ⟨k + 1, by omega, by go_num, HP2.out, HB.out⟩
        case measure => simp [intOf]; omega
    · obtain rfl : k = xs.length := by omega
      have hp := HP.out
      rw [List.take_length] at hp
      have HP2 := Lib.hid hp
      clear hp
      go_wp2
      go_ret
      exact ⟨HB.out, .inl ⟨HP2.out, rfl⟩⟩
end Go.Proofs.YtnmhicgbdalniaaGreatDoor
namespace Go.Proofs.YtnmhicgbdalniaaGreatDoor
open Go.RowKit Go.Sort

theorem vw_cellM {w : World} {M : List Nat} {a : Addr} {v : Value} (hm : a.block ∉ M) (c : w.cell? a = some v) : (vw w M).cell? a = some v := by
  unfold View.cell? vw
  rw [if_neg hm]
  exact c
theorem Rw.S {α : Type} {d : Kd α} {w : World} {g cap : Nat} {css : List (List Value)} {ys : List α} {M : List Nat} (hgm : g ∉ M) (h : Rw w g d.sz css) (hm : ys.length ≤ css.length) (hk : ∀ (t : Nat) (ht : t < ys.length), d.K (vw w M) ys[t] (css[t]'(by omega))) (hc : ys.length ≤ cap) (hl : ys.length ≤ 140737488351232) :
    d.S (vw w M) (.slice (some ⟨g, 0, none⟩) ys.length cap) ys := by
  refine ⟨_, cap, rfl, hc, hl, fun e => (by cases e), fun _ => ⟨g, 0, rfl, fun j x hx => ?_⟩⟩
  have hj := (List.getElem?_eq_some_iff.1 hx).1
  obtain rfl : ys[j] = x := by rw [List.getElem?_eq_getElem hj] at hx; injection hx
  refine ⟨css[j]'(by omega), hk j hj, fun i u hu => ?_⟩
  rw [Nat.zero_add]
  exact vw_cellM hgm (h.at_ j _ (List.getElem?_eq_getElem (by omega)) i u hu)
/-- The cells behind a slice, one list for each element. -/
theorem Kd.S.lists {α : Type} {d : Kd α} {w : World} {A : Option Addr} {n cap : Nat} {xs : List α} {M : List Nat} (s : d.S (vw w M) (.slice A n cap) xs) :
    ∃ css : List (List Value), css.length = xs.length ∧ (∀ (t : Nat) (ht : t < xs.length) (hc : t < css.length), d.K (vw w M) xs[t] css[t]) ∧ (A = none → xs.length = 0) ∧ ∀ ad, A = some ad → ∀ j u, css.flatten[j]? = some u → w.cell? (ad.add j) = some u := by
  rcases Nat.eq_zero_or_pos xs.length with h0 | hp
  · exact ⟨[], by simp [h0], fun t ht => by omega, fun _ => h0, fun ad _ j u hu => by simp at hu⟩
  · obtain ⟨b, off, cs0, rfl, k0, -⟩ := s.elem 0 hp
    have key : ∀ i, i < xs.length → ∃ cs : List Value, (∀ h : i < xs.length, d.K (vw w M) xs[i] cs) ∧ ∀ j u, cs[j]? = some u → w.cell? ⟨b, off + i * d.sz + j, none⟩ = some u := fun i hi => by
      obtain ⟨b', off', cs, e, k, c⟩ := s.elem i hi
      injection e with e
      injection e with e1 e2
      subst e1 e2
      exact ⟨cs, fun _ => k, fun j u hu => cell_of_vw (c j u hu)⟩
    obtain ⟨Y, hY⟩ := Deep.choose_lt key
    have hlen : ∀ c ∈ (List.range xs.length).map Y, c.length = d.sz := fun c hc => by
      obtain ⟨i, hi, rfl⟩ := List.mem_map.1 hc
      have hi := List.mem_range.1 hi
      exact d.len ((hY i hi).1 hi)
    refine ⟨(List.range xs.length).map Y, by simp, fun t ht hc => (by simpa using (hY t ht).1 ht), fun e => (by cases e), fun ad e j u hu => ?_⟩
    cases e
    rcases Nat.eq_zero_or_pos d.sz with hz | hz
    · have : ((List.range xs.length).map Y).flatten.length = 0 := by rw [flatten_len _ hlen, hz]; simp
      have := (List.getElem?_eq_some_iff.1 hu).1
      omega
    · have hjl := (List.getElem?_eq_some_iff.1 hu).1
      rw [flatten_len _ hlen] at hjl
      have ht : j / d.sz < xs.length := by
        rw [List.length_map, List.length_range] at hjl
        exact Nat.div_lt_of_lt_mul (by rw [Nat.mul_comm]; exact hjl)
      have hmod := Nat.mod_lt j hz
      have hdm := Nat.div_add_mod j d.sz
      have h4 := flatten_get _ hlen (j / d.sz) (j % d.sz) (Y (j / d.sz)) (by rw [List.getElem?_map, List.getElem?_range ht]; rfl) hmod
      rw [Nat.mul_comm, hdm, hu] at h4
      have := (hY _ ht).2 (j % d.sz) u h4.symm
      rw [Kd.addr_add]
      rw [← this]
      congr 2
      rw [Nat.mul_comm (j / d.sz)]; omega
theorem Rw.of_own {w : World} {base : Nat} {e : TypeId} {z : Nat} {v : Value} {n : Nat} {css : List (List Value)} (h : w.ownsRow base e z v n css.flatten) (hl : css.length = n) (hlen : ∀ c ∈ css, c.length = z) (hn : 0 < n) :
    ∃ g cap, v = .slice (some ⟨g, 0, none⟩) n cap ∧ base ≤ g ∧ n ≤ cap ∧ cap ≤ maxLen ∧ Rw w g z css := by
  rcases h.2 with ⟨-, h0⟩ | ⟨g, cap, cur, rfl, hg, hh, hnc, hcm, hs, ht⟩
  · omega
  · refine ⟨g, cap, rfl, hg, hnc, hcm, blk_lt hh, hlen, fun t c hc j u hu => ?_, fun x => by simp [World.frozen?, hh]⟩
    have hj : j < z := by have := (List.getElem?_eq_some_iff.1 hu).1; rw [hlen c (List.mem_of_getElem? hc)] at this; exact this
    have htl := (List.getElem?_eq_some_iff.1 hc).1
    have h4 := flatten_get css hlen t j c hc hj
    rw [hu, ← ht, List.getElem?_take, if_pos (by
      have := Nat.mul_le_mul_right z (show t + 1 ≤ n by omega)
      rw [Nat.add_mul] at this; omega)] at h4
    rw [cell_of_row w g _ _ _ _ hh]
    simpa using h4
theorem info_pod : (Tryz.prog.info? 35).map (fun i => (i.zero, i.size, i.bytes)) = some (some (.agg #[.string ⟨#[]⟩, .string ⟨#[]⟩, .int .i64 0, .slice none 0 0, .slice none 0 0, .slice none 0 0, .slice none 0 0, .string ⟨#[]⟩, .int .i64 0, .string ⟨#[]⟩, .bool false]), 11, 184) := by kernel_rfl
theorem own_emptyN (w : World) (T : TypeId) (z : Nat) : (w.alloc (.cells #[] T)).ownsRow w.heap.size T z (.slice (some ⟨w.heap.size, 0, none⟩) 0 0) 0 [] :=
  ⟨by simp, .inr ⟨w.heap.size, 0, #[], rfl, Nat.le_refl _, blk_last _ _, Nat.le_refl _, by simp [maxLen], by simp, by simp⟩⟩
theorem Blk.of_own {w : World} {base : Nat} {e : TypeId} {z n cap g : Nat} {xs : List Value} (h : w.ownsRow base e z (.slice (some ⟨g, 0, none⟩) n cap) n xs) : Blk w g e (cap * z) := by
  rcases h.2 with ⟨e1, -⟩ | ⟨g', cap', cur, e1, -, hh, -, -, hs, -⟩
  · cases e1
  · injection e1 with a1 a2 a3
    injection a1 with a1
    injection a1 with a1
    subst a1 a3
    exact ⟨cur, hh, hs⟩
/-- A copy, in memory of the call's own. -/
def CloneNew (M : List Nat) (l : List Pd) (w0 w : World) (e : Ending) (w' : World) : Prop := Below w.heap.size w w' ∧
  ∃ v, ∃ css : List (List Value), e = .returned v ∧ css.length = l.length ∧ (∀ (t : Nat) (ht : t < l.length) (hc : t < css.length), Kd.pod.K (vw w0 M) l[t] css[t]) ∧ w'.ownsRow w.heap.size 35 11 v l.length css.flatten
theorem clonenew_none {M : List Nat} {w0 w w' : World} (h : Below w.heap.size w w') : CloneNew M [] w0 w (.returned (.slice none 0 0)) w' := ⟨h, _, [], rfl, rfl, fun t ht => by simp at ht, World.ownsRow_nil _ _ _ _⟩
set_option maxHeartbeats 4000000 in
set_option maxRecDepth 100000 in
theorem Clone_new (v : Value) (l : List Pd) (w0 w : World) (hb0 : Below w0.heap.size w0 w) {M : List Nat} (hs : Kd.pod.S (vw w0 M) v l) (hl : l.length ≤ 1000) :
    Calls Tryz.prog 104 #[v] w (CloneNew M l w0 w) := by
  obtain ⟨i0, hi, hz0, hz1, hz2⟩ := info_parts info_pod
  obtain ⟨A, cap, rfl, hs⟩ := hs.val
  obtain ⟨css, hcl, hck, hcn, hcc⟩ := hs.lists
  cases A with
  | none =>
    obtain ⟨rfl, rfl⟩ := hs.cap_none
    clear hcc hcn hck hcl hs
    have hn : (binOp .eql 23 (.slice none 0 0) (.slice none 0 0)).run Tryz.prog w = .ok (.bool true) w := Lib.run_eql_slice_nil w 23 35 none 0 0 0 0 Tryz.underlying23
    go_enter Tryz.func104, Tryz.ntmps104
    go_wp2
    go_ret
    exact clonenew_none (Below.refl _ _)
  | some ad =>
    have hlen : ∀ c ∈ css, c.length = 11 := fun c hc => by
      obtain ⟨t, ht, rfl⟩ := List.getElem_of_mem hc
      exact Kd.pod.len (hck t (by omega) ht)
    have hfl := flatten_len css hlen
    have HCC : Hid (∀ j u, css.flatten[j]? = some u → w.cell? (ad.add j) = some u) := fun j u hu => by
      refine (hb0.cell ?_).trans (hcc ad rfl j u hu)
      have := hcc ad rfl j u hu
      unfold World.cell? at this
      split at this
      · rename_i e; exact blk_lt e
      · cases this
    have HCK := Lib.hid hck
    have HCL := Lib.hid hcl
    have HLEN := Lib.hid hlen
    have hfl2 : css.flatten.length = l.length * 11 := by rw [hfl, hcl]
    have HFL := Lib.hid hfl2
    have HONE : Hid (∀ u ∈ css.flatten, u.oneCell' = true) := fun u hu => by
      obtain ⟨c, hc, hu⟩ := List.mem_flatten.1 hu
      obtain ⟨t, ht, rfl⟩ := List.getElem_of_mem hc
      obtain ⟨B1, d1, B2, d2, B3, d3, B4, d4, e, -⟩ := hck t (by omega) ht
      rw [e] at hu
      simp at hu
      rcases hu with rfl | rfl | rfl | rfl | rfl | rfl | rfl | rfl | rfl | rfl | rfl <;> rfl
    have NEWS : Hid (∀ ad2, some ad = some ad2 → ∀ j u, css.flatten[j]? = some u → (w.alloc (.cells #[] 35)).cell? (ad2.add j) = some u) := fun ad2 e j u hu => by
      cases e
      exact Lib.cell?_alloc_some _ (HCC.out j u hu)
    clear hcc hcn hck hcl hs hlen hfl hfl2
    have hn : (binOp .eql 23 (.slice (some ad) l.length cap) (.slice none 0 0)).run Tryz.prog w = .ok (.bool false) w := Lib.run_eql_slice_nil w 23 35 (some ad) l.length cap 0 0 Tryz.underlying23
    go_enter Tryz.func104, Tryz.ntmps104
    go_wp2_with (at_builtin; refine wpList_app _ w.heap.size 23 35 i0 _ 11 184 Tryz.underlying23 hi hz0 hz1 hz2 rfl (by decide) _ 0 [] (own_emptyN w 35 11) (some ad) l.length cap css.flatten HFL.out (fun e => by cases e) NEWS.out HONE.out (by simp only [maxLen]; omega) (by omega) (by simp) _ _ rfl rfl rfl rfl ?_)
    intro v1 w1 ho1 hg1 hv1
    have HB1 := Lib.hid ((alloc_below w (.cells #[] 35)).grown hg1 (by simp) (fun q hq => ((own_emptyN w 35 11).lt q hq).1))
    have HO1 := Lib.hid ho1
    clear ho1 hg1 hv1 hn
    go_wp2
    go_ret
    exact ⟨HB1.out, v1, css, rfl, HCL.out, HCK.out, by simpa using HO1.out⟩
end Go.Proofs.YtnmhicgbdalniaaGreatDoor
namespace Go.Proofs.YtnmhicgbdalniaaGreatDoor
open Go.RowKit Go.ChangeMaps Go.MapKept
open Go.Maps (Keyed)
open Go.WideMaps (keyOf_string_mk)

/-! A map by strings that the call makes, each key laid once: what its block holds. -/
def ents : Nat → List (ByteArray × Value) → List MapEntry
  | _, [] => []
  | n, x :: r => { key := .string x.1, val := x.2, born := n } :: ents (n + 1) r
theorem ents_len : ∀ (n : Nat) (l : List (ByteArray × Value)), (ents n l).length = l.length
  | _, [] => rfl
  | n, _ :: r => by simp [ents, ents_len (n + 1) r]
theorem ents_app : ∀ (n : Nat) (a b : List (ByteArray × Value)), ents n (a ++ b) = ents n a ++ ents (n + a.length) b
  | _, [], _ => rfl
  | n, x :: r, b => by
    show _ :: ents (n + 1) (r ++ b) = _ :: (ents (n + 1) r ++ _)
    rw [ents_app (n + 1) r b, List.length_cons, show n + 1 + r.length = n + (r.length + 1) by omega]
theorem ents_mem : ∀ {n : Nat} {l : List (ByteArray × Value)} {e : MapEntry}, e ∈ ents n l → ∃ x ∈ l, e.key = .string x.1 ∧ e.val = x.2 ∧ e.born < n + l.length
  | n, x :: r, e, h => by
    rcases List.mem_cons.1 h with rfl | h
    · exact ⟨x, List.mem_cons_self .., rfl, rfl, by show n < _; rw [List.length_cons]; omega⟩
    · obtain ⟨y, h1, h2, h3, h4⟩ := ents_mem h
      exact ⟨y, List.mem_cons_of_mem _ h1, h2, h3, by rw [List.length_cons]; omega⟩
theorem mem_ents : ∀ {n : Nat} {l : List (ByteArray × Value)} {x : ByteArray × Value}, x ∈ l → ∃ e ∈ ents n l, e.key = .string x.1 ∧ e.val = x.2
  | n, y :: r, x, h => by
    rcases List.mem_cons.1 h with rfl | h
    · exact ⟨_, List.mem_cons_self .., rfl, rfl⟩
    · obtain ⟨e, h1, h2, h3⟩ := mem_ents (n := n + 1) h
      exact ⟨e, List.mem_cons_of_mem _ h1, h2, h3⟩
def MapAt (w : World) (b : Nat) (l : List (ByteArray × Value)) : Prop := w.heap[b]? = some (.map (ents 0 l).toArray l.length) ∧ ∀ x ∈ l, x.1.size ≤ maxLen
theorem MapAt.keep {w w' : World} {b : Nat} {l : List (ByteArray × Value)} (h : MapAt w b l) (e : w'.heap[b]? = w.heap[b]?) : MapAt w' b l := ⟨e.trans h.1, h.2⟩
theorem one_val : ∀ {l : List (ByteArray × Value)}, (l.map Prod.fst).Nodup → ∀ {k : ByteArray} {a b : Value}, (k, a) ∈ l → (k, b) ∈ l → a = b
  | x :: r, h, k, a, b, ha, hb => by
    rw [List.map_cons, List.nodup_cons] at h
    rcases List.mem_cons.1 ha with ea | ha <;> rcases List.mem_cons.1 hb with eb | hb
    · rw [← ea] at eb; injection eb with _ e; exact e.symm
    · exact absurd (List.mem_map.2 ⟨(k, b), hb, by rw [← ea]⟩) h.1
    · exact absurd (List.mem_map.2 ⟨(k, a), ha, by rw [← eb]⟩) h.1
    · exact one_val h.2 ha hb
theorem ents_keys {P : Program} {S : TypeId} (hS : P.underlying S = some .string) {w : World} {b : Nat} {l : List (ByteArray × Value)} (h : MapAt w b l) : ∀ e ∈ (ents 0 l).toArray.toList, ∃ k, keyOf P S e.key = some k := fun e he => by
  obtain ⟨x, h1, h2, -⟩ := ents_mem (show e ∈ ents 0 l by simpa using he)
  exact ⟨_, by rw [h2]; exact keyOf_string_mk hS (h.2 x h1)⟩
section
variable {P : Program} {T S E : TypeId} (ht : P.underlying T = some (.map S E)) (hS : P.underlying S = some .string)
include ht hS
theorem map_look {w : World} {b : Nat} {l : List (ByteArray × Value)} (h : MapAt w b l) (hnd : (l.map Prod.fst).Nodup) {z : Value} (_hz : (zeroValue E).run P w = .ok z w) {k : ByteArray} {v : Value} (hm : (k, v) ∈ l) :
    (Instr.lookup T (.map (some b)) (.string k) false).run P w = .ok v w := by
  have K := Maps.string_keyed hS
  have hkey := keyOf_string_mk (P := P) hS (h.2 _ hm)
  rcases K.find w hkey _ (ents_keys hS h) with ⟨-, h2⟩ | ⟨j, e0, h1, h2, h3⟩
  · obtain ⟨e, h4, h5, -⟩ := mem_ents (n := 0) hm
    exact absurd h5 (h2 e (by simpa using h4))
  · obtain ⟨x, h4, h5, h6, -⟩ := ents_mem (show e0 ∈ ents 0 l by simpa using List.mem_of_getElem? h2)
    have hx : x.1 = k := by rw [h3] at h5; injection h5 with h5; exact h5.symm
    have hv : e0.val = v := by rw [h6]; exact one_val hnd (by rw [← hx]; exact h4) hm
    rw [← hv]
    simp [Instr.lookup, run_underlying ht, MapKept.run_getObj_map h.1, K.check w _ hkey, h1, Result.andThen]
theorem map_put {w : World} {b : Nat} {l : List (ByteArray × Value)} (h : MapAt w b l) {k : ByteArray} (hk : k.size ≤ maxLen) (hne : ∀ x ∈ l, x.1 ≠ k) (v : Value) :
    ∃ w', (Instr.mapUpdate T (.map (some b)) (.string k) v).run P w = .ok () w' ∧ MapAt w' b (l ++ [(k, v)]) ∧ w.grownBy w' (some b) := by
  have K := Maps.string_keyed hS
  have hkey := keyOf_string_mk (P := P) hS hk
  rcases K.find w hkey _ (ents_keys hS h) with ⟨h1, -⟩ | ⟨j, e0, h1, h2, h3⟩
  · refine ⟨setBlock w b (.map ((ents 0 l).toArray.push ⟨.string k, v, l.length⟩) (l.length + 1)), ?_, ⟨?_, ?_⟩, ⟨rfl, rfl, rfl, by simp [setBlock], fun i _ hi => heap_setBlock_other h.1 _ (fun e => hi (by rw [e]))⟩⟩
    · simp [Instr.mapUpdate, run_underlying ht, MapKept.run_getObj_map h.1, K.check w false hkey, h1, MapKept.run_setObj_map _ h.1, Result.andThen, setBlock]
    · rw [heap_setBlock_same h.1, ents_app]
      simp [ents]
    · intro x hx
      rcases List.mem_append.1 hx with hx | hx
      · exact h.2 x hx
      · obtain rfl : x = (k, v) := by simpa using hx
        exact hk
  · obtain ⟨x, h4, h5, -⟩ := ents_mem (show e0 ∈ ents 0 l by simpa using List.mem_of_getElem? h2)
    rw [h3] at h5
    injection h5 with h5
    exact absurd h5.symm (hne x h4)
theorem map_entry {w : World} {b : Nat} {l : List (ByteArray × Value)} (h : MapAt w b l) {k : ByteArray} (hk : k.size ≤ maxLen) (hne : ∀ x ∈ l, x.1 ≠ k) {z : Value} (hz : (zeroValue E).run P w = .ok z w) :
    ∃ w', (Instr.mapEntry T (.map (some b)) (.string k)).run P w = .ok (.tuple #[z, .int .i64 l.length]) w' ∧ MapAt w' b (l ++ [(k, z)]) ∧ w.grownBy w' (some b) := by
  have K := Maps.string_keyed hS
  have hkey := keyOf_string_mk (P := P) hS hk
  rcases K.find w hkey _ (ents_keys hS h) with ⟨h1, -⟩ | ⟨j, e0, h1, h2, h3⟩
  · refine ⟨setBlock w b (.map ((ents 0 l).toArray.push ⟨.string k, z, l.length⟩) (l.length + 1)), ?_, ⟨?_, ?_⟩, ⟨rfl, rfl, rfl, by simp [setBlock], fun i _ hi => heap_setBlock_other h.1 _ (fun e => hi (by rw [e]))⟩⟩
    · simp [Instr.mapEntry, run_underlying ht, MapKept.run_getObj_map h.1, K.check w false hkey, h1, hz, MapKept.run_setObj_map _ h.1, Result.andThen, setBlock, goInt]
    · rw [heap_setBlock_same h.1, ents_app]
      simp [ents]
    · intro x hx
      rcases List.mem_append.1 hx with hx | hx
      · exact h.2 x hx
      · obtain rfl : x = (k, z) := by simpa using hx
        exact hk
  · obtain ⟨x, h4, h5, -⟩ := ents_mem (show e0 ∈ ents 0 l by simpa using List.mem_of_getElem? h2)
    rw [h3] at h5
    injection h5 with h5
    exact absurd h5.symm (hne x h4)
end
theorem ents_find : ∀ (n : Nat) (l : List (ByteArray × Value)) (e : MapEntry), e.born = n + l.length → (ents n l ++ [e]).findIdx? (fun x => (x.born : Int) == ((n + l.length : Nat) : Int)) = some l.length
  | n, [], e, h => by
    simp only [List.length_nil, Nat.add_zero] at h ⊢
    show List.findIdx? _ [e] = _
    rw [List.findIdx?_cons, if_pos (by simp [h])]
  | n, x :: r, e, h => by
    rw [List.length_cons] at h ⊢
    show List.findIdx? _ (_ :: (ents (n + 1) r ++ [e])) = _
    rw [List.findIdx?_cons, if_neg (by simp; omega)]
    have := ents_find (n + 1) r e (by omega)
    rw [show n + 1 + r.length = n + (r.length + 1) by omega] at this
    rw [this]; rfl
theorem map_set {P : Program} (T : TypeId) {w : World} {b : Nat} {l : List (ByteArray × Value)} {k : ByteArray} {z : Value} (h : MapAt w b (l ++ [(k, z)])) (v : Value) :
    ∃ w', (Instr.entryStore T (.map (some b)) (.int .i64 l.length) v).run P w = .ok () w' ∧ MapAt w' b (l ++ [(k, v)]) ∧ w.grownBy w' (some b) := by
  have hl : (l ++ [(k, z)]).length = l.length + 1 := by simp
  obtain ⟨e0, h0⟩ : ∃ e0 : MapEntry, e0 = { key := .string k, val := z, born := l.length } := ⟨_, rfl⟩
  have he : ents 0 (l ++ [(k, z)]) = ents 0 l ++ [e0] := by rw [ents_app, h0]; simp [ents]
  have hb := h.1
  rw [he, hl] at hb
  have hf := ents_find 0 l e0 (by rw [h0]; simp)
  rw [Nat.zero_add] at hf
  have hfa : (ents 0 l ++ [e0]).toArray.findIdx? (fun x : MapEntry => (x.born : Int) == ((l.length : Nat) : Int)) = some l.length := by
    rw [← hf]; simp
  refine ⟨setBlock w b (.map ((ents 0 l ++ [e0]).toArray.modify l.length fun e => { e with val := v }) (l.length + 1)), ?_, ⟨?_, ?_⟩, ⟨rfl, rfl, rfl, by simp [setBlock], fun i _ hi => heap_setBlock_other hb _ (fun e => hi (by rw [e]))⟩⟩
  · simp only [Instr.entryStore, Sem.run_bind, MapKept.run_getObj_map hb, Result.andThen]
    show Sem.run P (match (ents 0 l ++ [e0]).toArray.findIdx? (fun x : MapEntry => (x.born : Int) == ((l.length : Nat) : Int)) with | some i => setObj b (.map ((ents 0 l ++ [e0]).toArray.modify i fun e => { e with val := v }) (l.length + 1)) | none => unsupported (.noEntry "instr/MapEntry.the entry is gone")) w = _
    rw [hfa]
    exact MapKept.run_setObj_map _ hb
  · rw [heap_setBlock_same hb, ents_app]
    have hm : (ents 0 l ++ [e0]).toArray.modify l.length (fun e => { e with val := v }) = (ents 0 l ++ ents (0 + l.length) [(k, v)]).toArray := by
      apply Array.ext'
      rw [Array.toList_modify]
      simp only [ents, Nat.zero_add]
      refine List.ext_getElem? fun i => ?_
      rw [List.getElem?_modify]
      rcases Nat.lt_trichotomy i l.length with hi | hi | hi
      · rw [List.getElem?_append_left (by rw [ents_len]; exact hi), List.getElem?_append_left (by rw [ents_len]; exact hi)]
        simp [show ¬ l.length = i by omega]
      · subst hi
        rw [List.getElem?_append_right (by rw [ents_len]; exact Nat.le_refl _), List.getElem?_append_right (by rw [ents_len]; exact Nat.le_refl _), ents_len, h0]
        simp
      · rw [List.getElem?_eq_none (by rw [List.length_append, ents_len]; simp; omega), List.getElem?_eq_none (by rw [List.length_append, ents_len]; simp; omega)]
        rfl
    rw [hm]
    simp
  · intro x hx
    rcases List.mem_append.1 hx with hx | hx
    · exact h.2 x (List.mem_append_left _ hx)
    · obtain rfl : x = (k, v) := by simpa using hx
      exact h.2 (k, z) (by simp)
end Go.Proofs.YtnmhicgbdalniaaGreatDoor
namespace Go.Proofs.YtnmhicgbdalniaaGreatDoor
open Go.RowKit

end Go.Proofs.YtnmhicgbdalniaaGreatDoor
