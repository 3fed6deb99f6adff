import Derived.Test.YtnmhicgbdalniaaGreatDoorMi7
import Derived.Test.YtnmhicgbdalniaaGreatDoorMi21
import Derived.Test.YtnmhicgbdalniaaGreatDoorMi26
import Derived.Test.YtnmhicgbdalniaaGreatDoorMi27
import Derived.WalkKit
import Derived.KernelRfl
import Derived.Lib.SliceRun
namespace Go.Proofs.YtnmhicgbdalniaaGreatDoor
open Go.RowKit

/-! qty's sums and differences: the program's side. -/
def bothV (a b : Int) : Int := if a < 0 ∨ b < 0 then 1 else 0
theorem bothV_ok {a b : Int} (h : 0 ≤ a) (k : 0 ≤ b) : bothV a b = 0 := by unfold bothV; rw [if_neg (by omega)]
theorem bothV_bad {a b : Int} (h : a < 0 ∨ b < 0) : bothV a b = 1 := by unfold bothV; rw [if_pos h]

theorem qboth_calls (a b : Int) (w : World) :
    Calls Tryz.prog 304 #[.int .i64 a, .int .i64 b] w fun e w' => e = .returned (.int .i64 (bothV a b)) ∧ w' = w := by
  by_cases h : a < 0
  · rw [bothV_bad (.inl h)]
    go_enter Tryz.func304, Tryz.ntmps304
    go_wp2
    go_ret
    exact ⟨rfl, rfl⟩
  · by_cases k : b < 0
    · rw [bothV_bad (.inr k)]
      go_enter Tryz.func304, Tryz.ntmps304
      go_wp2
      go_ret
      exact ⟨rfl, rfl⟩
    · rw [bothV_ok (by omega) (by omega)]
      go_enter Tryz.func304, Tryz.ntmps304
      go_wp2
      go_ret
      exact ⟨rfl, rfl⟩

def toldV (n : Int) (over : Bool) : Int × Int := if over = true ∨ 9223372036854775807 < n then (0, 5) else (n, 0)

theorem qtold_calls (n : Int) (over : Bool) (w : World) (h0 : over = false → 0 ≤ n) :
    Calls Tryz.prog 305 #[.int .u64 n, .bool over] w fun e w' => e = .returned (.tuple #[.int .i64 (toldV n over).1, .int .i64 (toldV n over).2]) ∧ w' = w := by
  cases over with
  | true =>
    have e : toldV n true = (0, 5) := by simp [toldV]
    rw [e]
    go_enter Tryz.func305, Tryz.ntmps305
    go_wp2
    go_ret2
    exact ⟨rfl, rfl⟩
  | false =>
    replace h0 := h0 rfl
    by_cases h : 9223372036854775807 < n
    · have e : toldV n false = (0, 5) := by simp [toldV, h]
      rw [e]
      go_enter Tryz.func305, Tryz.ntmps305
      go_wp2
      go_ret2
      exact ⟨rfl, rfl⟩
    · have e : toldV n false = (n, 0) := by simp [toldV]; omega
      rw [e]
      go_enter Tryz.func305, Tryz.ntmps305
      go_wp2
      go_ret2
      exact ⟨rfl, rfl⟩
def addV (a b : Int) : Int × Int := if a < 0 ∨ b < 0 then (0, 1) else toldV (a + b) false
def subV (a b : Int) : Int × Int := if a < 0 ∨ b < 0 then (0, 1) else if a < b then (0, 5) else (a - b, 0)

theorem qadd_calls (a b : Int) (w : World) (ha : a ≤ 9223372036854775807) (hb : b ≤ 9223372036854775807) :
    Calls Tryz.prog 308 #[.int .i64 a, .int .i64 b] w fun e w' => e = .returned (.tuple #[.int .i64 (addV a b).1, .int .i64 (addV a b).2]) ∧ w' = w := by
  by_cases h : a < 0 ∨ b < 0
  · have e : addV a b = (0, 1) := by simp [addV, h]
    rw [e]
    have k := bothV_bad h
    clear h e
    go_enter Tryz.func308, Tryz.ntmps308
    go_wp2_with (go_at_call 304; refine (qboth_calls _ _ _).mono ?_; rintro e w' ⟨rfl, rfl⟩)
    go_ret2
    exact ⟨rfl, rfl⟩
  · have e : addV a b = toldV (a + b) false := by simp [addV, h]
    rw [e]
    have h1 : 0 ≤ a := by omega
    have h2 : 0 ≤ b := by omega
    have k := bothV_ok h1 h2
    clear h e
    go_enter Tryz.func308, Tryz.ntmps308
    go_wp2_with (first | (go_at_call 304; refine (qboth_calls _ _ _).mono ?_; rintro e w' ⟨rfl, rfl⟩) | (go_at_call 305; refine (qtold_calls _ _ _ (by omega)).mono ?_; rintro e w' ⟨rfl, rfl⟩))
    go_ret2
    exact ⟨rfl, rfl⟩
theorem qsub_calls (a b : Int) (w : World) (ha : a ≤ 9223372036854775807) (hb : b ≤ 9223372036854775807) :
    Calls Tryz.prog 261 #[.int .i64 a, .int .i64 b] w fun e w' => e = .returned (.tuple #[.int .i64 (subV a b).1, .int .i64 (subV a b).2]) ∧ w' = w := by
  by_cases h : a < 0 ∨ b < 0
  · have e : subV a b = (0, 1) := by simp [subV, h]
    rw [e]
    have k := bothV_bad h
    clear h e
    go_enter Tryz.func261, Tryz.ntmps261
    go_wp2_with (go_at_call 304; refine (qboth_calls _ _ _).mono ?_; rintro e w' ⟨rfl, rfl⟩)
    go_ret2
    exact ⟨rfl, rfl⟩
  · have h1 : 0 ≤ a := by omega
    have h2 : 0 ≤ b := by omega
    have k := bothV_ok h1 h2
    have e : subV a b = toldV (IntKind.u64.wrap (a - b)) (decide (a < b)) := by
      unfold subV toldV
      rw [if_neg h]
      by_cases hlt : a < b
      · simp [hlt]
      · rw [IntKind.wrap_u64, if_neg hlt, if_neg (by simp [hlt]; omega), Int.emod_eq_of_lt (by omega) (by omega)]
    have hw : 0 ≤ IntKind.u64.wrap (a - b) := by rw [IntKind.wrap_u64]; omega
    rw [e]
    clear h e
    go_enter Tryz.func261, Tryz.ntmps261
    go_wp2_with (first | (go_at_call 304; refine (qboth_calls _ _ _).mono ?_; rintro e w' ⟨rfl, rfl⟩) | (go_at_call 305; refine (qtold_calls _ _ _ (fun _ => hw)).mono ?_; rintro e w' ⟨rfl, rfl⟩))
    go_ret2
    exact ⟨rfl, rfl⟩
theorem addV_addN (a b : Int) : addV a b = addN a b := by
  unfold addV addN toldV
  by_cases h1 : a < 0
  · simp [h1]
  · by_cases h2 : b < 0
    · simp [h1, h2]
    · by_cases h3 : 9223372036854775807 - b < a
      · have : 9223372036854775807 < a + b := by omega
        simp [h1, h2, h3, this]
      · have : ¬ 9223372036854775807 < a + b := by omega
        simp [h1, h2, h3, this]
theorem subV_subN (a b : Int) : subV a b = subN a b := by
  unfold subV subN
  by_cases h1 : a < 0
  · simp [h1]
  · by_cases h2 : b < 0
    · simp [h1, h2]
    · simp [h1, h2]
end Go.Proofs.YtnmhicgbdalniaaGreatDoor
namespace Go.Proofs.YtnmhicgbdalniaaGreatDoor
open Go.RowKit Go.Sort

/-! Rows of structs in a block that is written. -/
structure Rw (w : World) (g z : Nat) (css : List (List Value)) : Prop where
  lt : g < w.heap.size
  len : ∀ c ∈ css, c.length = z
  at_ : ∀ (t : Nat) (c : List Value), css[t]? = some c → w.rangeAt g (t * z) c
  free : ∀ x, w.frozen? ⟨g, x, none⟩ = false
theorem Rw.below {w w' : World} {g z : Nat} {css : List (List Value)} (h : Rw w g z css) (hb : Below w.heap.size w w') : Rw w' g z css :=
  ⟨Nat.lt_of_lt_of_le h.lt hb.size, h.len, fun t c hc j v hv => (hb.cell (p := ⟨g, t * z + j, none⟩) h.lt).trans (h.at_ t c hc j v hv), fun x => (hb.frozen (p := ⟨g, x, none⟩) h.lt).trans (h.free x)⟩
theorem Rw.there {w : World} {g z : Nat} {css : List (List Value)} (h : Rw w g z css) {t : Nat} (ht : t < css.length) : w.there g (t * z) z := fun j hj => by
  have hc := h.len css[t] (List.getElem_mem ht)
  have := h.at_ t css[t] (List.getElem?_eq_getElem ht) j (css[t][j]'(by omega)) (List.getElem?_eq_getElem _)
  exact ⟨by rw [this]; rfl, h.free _⟩
theorem apart {s t z j : Nat} (hst : s ≠ t) (hj : j < z) : s * z + j < t * z ∨ t * z + z ≤ s * z + j := by
  rcases Nat.lt_or_gt_of_ne hst with h | h
  · have := Nat.mul_le_mul_right z (show s + 1 ≤ t by omega)
    rw [Nat.add_mul] at this; omega
  · have := Nat.mul_le_mul_right z (show t + 1 ≤ s by omega)
    rw [Nat.add_mul] at this; omega
theorem Rw.set {w : World} {g z : Nat} {css : List (List Value)} (h : Rw w g z css) {t : Nat} (ht : t < css.length) {c : List Value} (hc : c.length = z) : Rw (w.setCells g (t * z) c) g z (css.set t c) := by
  refine ⟨by rw [setCells_size]; exact h.lt, fun d hd => ?_, fun s d hd j v hv => ?_, fun x => by rw [World.frozen?_setCells]; exact h.free x⟩
  · rcases List.mem_or_eq_of_mem_set hd with k | rfl
    · exact h.len d k
    · exact hc
  · rw [List.getElem?_set] at hd
    by_cases e : t = s
    · subst e
      rw [if_pos rfl, if_pos ht] at hd
      injection hd with hd
      subst hd
      have hj := (List.getElem?_eq_some_iff.1 hv).1
      rw [World.cell?_setCells_in g c (t * z) w (fun i hi => (h.there ht i (by omega)).1) j hj, ← hv, List.getElem?_eq_getElem hj]
    · rw [if_neg e] at hd
      have hj := (List.getElem?_eq_some_iff.1 hv).1
      have hl := h.len d (List.mem_of_getElem? hd)
      rw [World.cell?_setCells_out g c (t * z) w ⟨g, s * z + j, none⟩ (fun _ _ => by have := apart (s := s) (t := t) (z := z) (j := j) (Ne.symm e) (by omega); rw [hc]; exact this)]
      exact h.at_ s d hd j v hv
/-- A block of the call's own: its type, and how many cells it has. -/
def Blk (w : World) (g : Nat) (T : TypeId) (n : Nat) : Prop := ∃ cur : Array Value, w.heap[g]? = some (.cells cur T (0, 0)) ∧ cur.size = n
theorem Blk.below {w w' : World} {g : Nat} {T : TypeId} {n : Nat} (h : Blk w g T n) (hb : Below w.heap.size w w') : Blk w' g T n := by
  obtain ⟨cur, h1, h2⟩ := h
  exact ⟨cur, (hb.block _ (blk_lt h1)).trans h1, h2⟩
theorem Blk.setCell {w : World} {g : Nat} {T : TypeId} {n : Nat} (h : Blk w g T n) (b j : Nat) (u : Value) : Blk (w.setCell ⟨b, j, none⟩ u) g T n := by
  obtain ⟨cur, h1, h2⟩ := h
  by_cases e : b = g
  · subst e
    exact ⟨_, blk_set h1 u, by rw [Array.size_setIfInBounds]; exact h2⟩
  · exact ⟨cur, (Below.heap_setCell w ⟨b, j, none⟩ u g (fun k => e k.symm)).trans h1, h2⟩
theorem Blk.setCells {g : Nat} {T : TypeId} {n : Nat} (b : Nat) : ∀ (cs : List Value) (o : Nat) {w : World}, Blk w g T n → Blk (w.setCells b o cs) g T n
  | [], _, _, h => h
  | c :: r, o, _, h => Blk.setCells b r (o + 1) (h.setCell b o c)
theorem Blk.other {w w' : World} {g : Nat} {T : TypeId} {n : Nat} (h : Blk w g T n) (hb : w'.heap[g]? = w.heap[g]?) : Blk w' g T n := by
  obtain ⟨cur, h1, h2⟩ := h
  exact ⟨cur, hb.trans h1, h2⟩
theorem Blk.own {w : World} {base g z n cap : Nat} {T : TypeId} {css : List (List Value)} (h : Blk w g T (cap * z)) (hr : Rw w g z css) (hl : css.length = n) (hb : base ≤ g) (h1 : n ≤ cap) (h2 : cap ≤ maxLen) : w.ownsRow base T z (.slice (some ⟨g, 0, none⟩) n cap) n css.flatten := by
  obtain ⟨cur, k1, k2⟩ := h
  have hfl := flatten_len css hr.len
  rw [hl] at hfl
  refine ⟨hfl, .inr ⟨g, cap, cur, rfl, hb, k1, h1, h2, k2, ?_⟩⟩
  have hnc : n * z ≤ cap * z := Nat.mul_le_mul_right z h1
  refine List.ext_getElem? fun j => ?_
  rcases Nat.lt_or_ge j (n * z) with hj | hj
  · have hz : 0 < z := by
      rcases Nat.eq_zero_or_pos z with h0 | h0
      · subst h0; simp at hj
      · exact h0
    have ht : j / z < css.length := by rw [hl]; exact Nat.div_lt_of_lt_mul (by rw [Nat.mul_comm]; exact hj)
    have hm := Nat.mod_lt j hz
    have hc : css[j / z]? = some css[j / z] := List.getElem?_eq_getElem ht
    have h4 := flatten_get css hr.len (j / z) (j % z) _ hc hm
    have hcl := hr.len _ (List.getElem_mem ht)
    have h5 := hr.at_ _ _ hc (j % z) _ (List.getElem?_eq_getElem (by omega))
    rw [Nat.mul_comm, Nat.div_add_mod] at h4
    rw [cell_of_row w g _ _ _ _ k1, Nat.mul_comm, Nat.div_add_mod] at h5
    rw [h4, List.getElem?_take, if_pos hj, List.getElem?_eq_getElem (by omega : j % z < css[j / z].length), ← h5]
    simp
  · rw [List.getElem?_eq_none (by rw [List.length_take]; omega), List.getElem?_eq_none (by omega)]
/-- 'clear(s)' of wide elements. -/
theorem run_clear_wide {P : Program} (w : World) (t e ty : TypeId) (z : Value) (ht : P.underlying t = some (.slice e)) (hv : ∀ w, (zeroValue e).run P w = .ok z w) (h1 : ∀ v ∈ z.cells.toList, v.oneCell' = true) (hz : 0 < z.cells.size) (b o n c : Nat) (hn : 0 < n)
    (hc : ∀ j, j < n * z.cells.size → (w.cell? ⟨b, o + j, none⟩).isSome = true) (hf : ∀ j, j < n * z.cells.size → w.frozen? ⟨b, o + j, none⟩ = false) :
    (Builtin.clear_ #[t] ty #[.slice (some ⟨b, o, none⟩) n c]).run P w = .ok (.tuple #[]) (w.setCells b o (Builtin.zeroCells z.cells n).toList) := by
  have hl : (Builtin.zeroCells z.cells n).toList.length = n * z.cells.size := by simp [Builtin.zeroCells]
  have hst := run_storeCells_cells (P := P) b o (Builtin.zeroCells z.cells n).toList 0 w (by rw [hl]; simpa using hc) (by rw [hl]; simpa using hf) (by
    intro v hv'
    simp only [Builtin.zeroCells, Array.toList_map, List.mem_map] at hv'
    obtain ⟨i, -, rfl⟩ := hv'
    refine h1 _ ?_
    have : i % z.cells.size < z.cells.size := Nat.mod_lt _ hz
    rw [getElem!_pos z.cells _ this]
    exact Array.mem_toList_iff.2 (Array.getElem_mem _))
  simp only [Nat.add_zero] at hst
  obtain ⟨m, rfl⟩ : ∃ m, n = m + 1 := ⟨n - 1, by omega⟩
  simp [Builtin.clear_, run_underlying ht, hv, hst]
section
variable {P : Program}
theorem wp_clear {o : Oper} {a : Act} {w : World} {K : Act → World → Prop} {Q : Exit → Act → World → Prop} (t e : TypeId) (s : Operand) (ho : o.op = .call { callee := .builtin .clear, args := #[s], argTypes := #[t] }) (z : Value) (ht : P.underlying t = some (.slice e)) (hv : ∀ w, (zeroValue e).run P w = .ok z w)
    (h1 : ∀ v ∈ z.cells.toList, v.oneCell' = true) (hz : 0 < z.cells.size) (b off n c : Nat) (hn : 0 < n) (hs : a.eval s = .slice (some ⟨b, off, none⟩) n c)
    (hc : ∀ j, j < n * z.cells.size → (w.cell? ⟨b, off + j, none⟩).isSome = true) (hf : ∀ j, j < n * z.cells.size → w.frozen? ⟨b, off + j, none⟩ = false)
    (h : K (a.put o.dst (.tuple #[])) (w.setCells b off (Builtin.zeroCells z.cells n).toList)) : o.wp P a w K Q := by
  have hrun := run_clear_wide w t e o.type z ht hv h1 hz b off n c hn hc hf
  unfold Oper.wp execOp
  simp only [ho, resolve, invoke, builtin, Sem.run_bind, Sem.run_pure, Result.andThen_ok, List.map_toArray, List.map_cons, List.map_nil, hs, hrun]
  exact h
theorem wpList_clear {ops : Array Oper} {rest : List Oper} {o : Oper} {a : Act} {w : World} {Q : Exit → Act → World → Prop} (hgd : o.guard = none) (t e : TypeId) (s : Operand) (ho : o.op = .call { callee := .builtin .clear, args := #[s], argTypes := #[t] }) (z : Value) (ht : P.underlying t = some (.slice e)) (hv : ∀ w, (zeroValue e).run P w = .ok z w)
    (h1 : ∀ v ∈ z.cells.toList, v.oneCell' = true) (hz : 0 < z.cells.size) (b off n c : Nat) (hn : 0 < n) (hs : a.eval s = .slice (some ⟨b, off, none⟩) n c)
    (hc : ∀ j, j < n * z.cells.size → (w.cell? ⟨b, off + j, none⟩).isSome = true) (hf : ∀ j, j < n * z.cells.size → w.frozen? ⟨b, off + j, none⟩ = false)
    (h : wpList P ops Q rest (a.put o.dst (.tuple #[])) (w.setCells b off (Builtin.zeroCells z.cells n).toList)) : wpList P ops Q (o :: rest) a w :=
  wpList_plain hgd fun _ hK => wp_clear t e s ho z ht hv h1 hz b off n c hn hs hc hf (hK _ _ h)
end
/-! A cluster without a pod. -/
def isN (name : ByteArray) (p : Pd) : Bool := decide (p.name = name)
set_option maxHeartbeats 1000000 in
theorem drop1_calls (c : List Value) (x : Pd) (name : ByteArray) (nb : Nat) (w : World) (hk : ∃ h, Kd.pod.K h x c) (hn : w.cell? ⟨nb, 0, none⟩ = some (.string name)) (hlt : nb < w.heap.size) :
    Calls Tryz.prog 105 #[.agg c.toArray, .pointer (some ⟨nb, 0, none⟩)] w (BoolDone (isN name x) w) := by
  obtain ⟨h, B1, d1, B2, d2, B3, d3, B4, d4, rfl, -⟩ := hk
  have e1 := eq_beq x.name name
  have HX : Hid (isN name x = decide (x.name = name)) := rfl
  obtain ⟨m, hm⟩ : ∃ m, decide (x.name = name) = m := ⟨_, rfl⟩
  rw [hm] at e1
  have HM := Lib.hid hm
  clear hm
  go_enter Tryz.func105, Tryz.ntmps105
  go_wp2
  go_ret
  exact ⟨ret_bool (by rw [HX.out, HM.out]), alloc_below _ _⟩
def IdxDone (pd : Pd → Bool) (xs : List Pd) (w : World) (e : Ending) (w' : World) : Prop :=
  Below w.heap.size w w' ∧ (((∀ x ∈ xs, pd x = false) ∧ e = .returned (.int .i64 (-1))) ∨ ∃ i : Nat, ∃ h : i < xs.length, pd xs[i] = true ∧ (∀ x ∈ xs.take i, pd x = false) ∧ e = .returned (.int .i64 (i : Int)))
theorem take_none {xs : List Pd} {pd : Pd → Bool} {k : Nat} (hk : k < xs.length) (h : ∀ x ∈ xs.take k, pd x = false) (h2 : pd xs[k] = false) : ∀ x ∈ xs.take (k + 1), pd x = false := fun x hx => by
  rw [List.take_succ_eq_append_getElem hk, List.mem_append] at hx
  rcases hx with hx | hx
  · exact h x hx
  · obtain rfl : x = xs[k] := by simpa using hx
    exact h2
set_option maxHeartbeats 4000000 in
set_option maxRecDepth 100000 in
theorem index_calls (g cap nb : Nat) (name : ByteArray) (xs : List Pd) (css : List (List Value)) (h0 : View) (w : World) (hl : css.length = xs.length) (hk : ∀ (t : Nat) (ht : t < xs.length) (hc : t < css.length), Kd.pod.K h0 xs[t] css[t])
    (hr : Rw w g 11 css) (hn : w.cell? ⟨nb, 0, none⟩ = some (.string name)) (hnb : nb < w.heap.size) (hx : xs.length ≤ 1000) (_ : xs.length ≤ cap) :
    Calls Tryz.prog 183 #[.slice (some ⟨g, 0, none⟩) xs.length cap, .func (.func 105) #[] #[.pointer (some ⟨nb, 0, none⟩)]] w (IdxDone (isN name) xs w) := by
  have HL := Lib.hid hl
  have HK := Lib.hid hk
  have HR := Lib.hid hr
  have HN := Lib.hid hn
  clear hl hk hr hn
  go_enter Tryz.func183, Tryz.ntmps183
  go_wp2
  go_loopw [8] (fun i wr => ∃ k : Nat, k ≤ xs.length ∧ i = .int .i64 k ∧ Hid (∀ x ∈ xs.take k, isN name x = false) ∧ Hid (Below w.heap.size w wr)) (fun i _ => xs.length - (intOf i).toNat)
  case atStart => exact ⟨0, Nat.zero_le _, rfl, fun x hx => by simp at hx, Below.refl _ _⟩
  case round =>
    obtain ⟨k, hk, rfl, HP, HB⟩ := hrel
    by_cases hlt : k < xs.length
    · have hlc : k < css.length := by have := HL.out; omega
      obtain ⟨c, hc⟩ : ∃ c, css[k]'hlc = c := ⟨_, rfl⟩
      have hkc := HK.out k hlt hlc
      rw [hc] at hkc
      have HKC := Lib.hid hkc
      have hcl := (HR.out.len c (hc ▸ List.getElem_mem hlc))
      have HC : Hid (wr.rangeAt g (k * 11) c) := (HR.out.below HB.out).at_ k c (by rw [List.getElem?_eq_getElem hlc, hc])
      have hnc : wr.cell? ⟨nb, 0, none⟩ = some (.string name) := keep_cell HB.out HN.out
      have HNC := Lib.hid hnc
      obtain ⟨m, hm⟩ : ∃ m, isN name xs[k] = m := ⟨_, rfl⟩
      have HM := Lib.hid hm
      have hsz := HB.out.size
      clear hc hkc hnc hm
      obtain ⟨B1, d1, B2, d2, B3, d3, B4, d4, rfl, -⟩ := id HKC.out
      clear hcl
      go_wp2_with (with_reducible refine wpList_load_mid rfl 35 _ rfl g (k * 11) rfl _ _ HC.out Tryz.underlying35 rfl (by kernel_rfl) ?_)
      refine (drop1_calls _ xs[k] name nb _ ⟨_, HKC.out⟩ HNC.out (by omega)).mono ?_
      rintro e w1 ⟨rfl, hb⟩
      rw [HM.out]
      replace HB := Lib.hid (Below.then HB.out hb)
      clear hb
      cases m with
      | true =>
        go_wp2
        go_ret
        exact ⟨HB.out, .inr ⟨k, hlt, HM.out, HP.out, rfl⟩⟩
      | false =>
        have HP2 := Lib.hid (take_none hlt HP.out HM.out)
        go_wp2
        go_roundw
        case rel => exact ⟨k + 1, by omega, by go_num, HP2.out, HB.out⟩
        case measure => simp [intOf]; omega
    · obtain rfl : k = xs.length := by omega
      have hp := HP.out
      rw [List.take_length] at hp
      have HP2 := Lib.hid hp
      clear hp
      go_wp2
      go_ret
      exact ⟨HB.out, .inl ⟨HP2.out, rfl⟩⟩
end Go.Proofs.YtnmhicgbdalniaaGreatDoor
namespace Go.Proofs.YtnmhicgbdalniaaGreatDoor
open Go.RowKit Go.Sort

theorem vw_cellM {w : World} {M : List Nat} {a : Addr} {v : Value} (hm : a.block ∉ M) (c : w.cell? a = some v) : (vw w M).cell? a = some v := by
  unfold View.cell? vw
  rw [if_neg hm]
  exact c
theorem Rw.S {α : Type} {d : Kd α} {w : World} {g cap : Nat} {css : List (List Value)} {ys : List α} {M : List Nat} (hgm : g ∉ M) (h : Rw w g d.sz css) (hm : ys.length ≤ css.length) (hk : ∀ (t : Nat) (ht : t < ys.length), d.K (vw w M) ys[t] (css[t]'(by omega))) (hc : ys.length ≤ cap) (hl : ys.length ≤ 140737488351232) :
    d.S (vw w M) (.slice (some ⟨g, 0, none⟩) ys.length cap) ys := by
  refine ⟨_, cap, rfl, hc, hl, fun e => (by cases e), fun _ => ⟨g, 0, rfl, fun j x hx => ?_⟩⟩
  have hj := (List.getElem?_eq_some_iff.1 hx).1
  obtain rfl : ys[j] = x := by rw [List.getElem?_eq_getElem hj] at hx; injection hx
  refine ⟨css[j]'(by omega), hk j hj, fun i u hu => ?_⟩
  rw [Nat.zero_add]
  exact vw_cellM hgm (h.at_ j _ (List.getElem?_eq_getElem (by omega)) i u hu)
/-- The cells behind a slice, one list for each element. -/
theorem Kd.S.lists {α : Type} {d : Kd α} {w : World} {A : Option Addr} {n cap : Nat} {xs : List α} {M : List Nat} (s : d.S (vw w M) (.slice A n cap) xs) :
    ∃ css : List (List Value), css.length = xs.length ∧ (∀ (t : Nat) (ht : t < xs.length) (hc : t < css.length), d.K (vw w M) xs[t] css[t]) ∧ (A = none → xs.length = 0) ∧ ∀ ad, A = some ad → ∀ j u, css.flatten[j]? = some u → w.cell? (ad.add j) = some u := by
  rcases Nat.eq_zero_or_pos xs.length with h0 | hp
  · exact ⟨[], by simp [h0], fun t ht => by omega, fun _ => h0, fun ad _ j u hu => by simp at hu⟩
  · obtain ⟨b, off, cs0, rfl, k0, -⟩ := s.elem 0 hp
    have key : ∀ i, i < xs.length → ∃ cs : List Value, (∀ h : i < xs.length, d.K (vw w M) xs[i] cs) ∧ ∀ j u, cs[j]? = some u → w.cell? ⟨b, off + i * d.sz + j, none⟩ = some u := fun i hi => by
      obtain ⟨b', off', cs, e, k, c⟩ := s.elem i hi
      injection e with e
      injection e with e1 e2
      subst e1 e2
      exact ⟨cs, fun _ => k, fun j u hu => cell_of_vw (c j u hu)⟩
    obtain ⟨Y, hY⟩ := Deep.choose_lt key
    have hlen : ∀ c ∈ (List.range xs.length).map Y, c.length = d.sz := fun c hc => by
      obtain ⟨i, hi, rfl⟩ := List.mem_map.1 hc
      have hi := List.mem_range.1 hi
      exact d.len ((hY i hi).1 hi)
    refine ⟨(List.range xs.length).map Y, by simp, fun t ht hc => (by simpa using (hY t ht).1 ht), fun e => (by cases e), fun ad e j u hu => ?_⟩
    cases e
    rcases Nat.eq_zero_or_pos d.sz with hz | hz
    · have : ((List.range xs.length).map Y).flatten.length = 0 := by rw [flatten_len _ hlen, hz]; simp
      have := (List.getElem?_eq_some_iff.1 hu).1
      omega
    · have hjl := (List.getElem?_eq_some_iff.1 hu).1
      rw [flatten_len _ hlen] at hjl
      have ht : j / d.sz < xs.length := by
        rw [List.length_map, List.length_range] at hjl
        exact Nat.div_lt_of_lt_mul (by rw [Nat.mul_comm]; exact hjl)
      have hmod := Nat.mod_lt j hz
      have hdm := Nat.div_add_mod j d.sz
      have h4 := flatten_get _ hlen (j / d.sz) (j % d.sz) (Y (j / d.sz)) (by rw [List.getElem?_map, List.getElem?_range ht]; rfl) hmod
      rw [Nat.mul_comm, hdm, hu] at h4
      have := (hY _ ht).2 (j % d.sz) u h4.symm
      rw [Kd.addr_add]
      rw [← this]
      congr 2
      rw [Nat.mul_comm (j / d.sz)]; omega
theorem Rw.of_own {w : World} {base : Nat} {e : TypeId} {z : Nat} {v : Value} {n : Nat} {css : List (List Value)} (h : w.ownsRow base e z v n css.flatten) (hl : css.length = n) (hlen : ∀ c ∈ css, c.length = z) (hn : 0 < n) :
    ∃ g cap, v = .slice (some ⟨g, 0, none⟩) n cap ∧ base ≤ g ∧ n ≤ cap ∧ cap ≤ maxLen ∧ Rw w g z css := by
  rcases h.2 with ⟨-, h0⟩ | ⟨g, cap, cur, rfl, hg, hh, hnc, hcm, hs, ht⟩
  · omega
  · refine ⟨g, cap, rfl, hg, hnc, hcm, blk_lt hh, hlen, fun t c hc j u hu => ?_, fun x => by simp [World.frozen?, hh]⟩
    have hj : j < z := by have := (List.getElem?_eq_some_iff.1 hu).1; rw [hlen c (List.mem_of_getElem? hc)] at this; exact this
    have htl := (List.getElem?_eq_some_iff.1 hc).1
    have h4 := flatten_get css hlen t j c hc hj
    rw [hu, ← ht, List.getElem?_take, if_pos (by
      have := Nat.mul_le_mul_right z (show t + 1 ≤ n by omega)
      rw [Nat.add_mul] at this; omega)] at h4
    rw [cell_of_row w g _ _ _ _ hh]
    simpa using h4
theorem info_pod : (Tryz.prog.info? 35).map (fun i => (i.zero, i.size, i.bytes)) = some (some (.agg #[.string ⟨#[]⟩, .string ⟨#[]⟩, .int .i64 0, .slice none 0 0, .slice none 0 0, .slice none 0 0, .slice none 0 0, .string ⟨#[]⟩, .int .i64 0, .string ⟨#[]⟩, .bool false]), 11, 184) := by kernel_rfl
theorem own_emptyN (w : World) (T : TypeId) (z : Nat) : (w.alloc (.cells #[] T)).ownsRow w.heap.size T z (.slice (some ⟨w.heap.size, 0, none⟩) 0 0) 0 [] :=
  ⟨by simp, .inr ⟨w.heap.size, 0, #[], rfl, Nat.le_refl _, blk_last _ _, Nat.le_refl _, by simp [maxLen], by simp, by simp⟩⟩
def CloneDone (M : List Nat) (l : List Pd) (w0 w : World) (e : Ending) (w' : World) : Prop := Below w.heap.size w w' ∧
  ((l = [] ∧ ∃ A c, (A = none → c = 0) ∧ e = .returned (.slice A 0 c)) ∨ ∃ g cap css, 0 < l.length ∧ e = .returned (.slice (some ⟨g, 0, none⟩) l.length cap) ∧ w.heap.size ≤ g ∧ l.length ≤ cap ∧ cap ≤ maxLen ∧ Rw w' g 11 css ∧ css.length = l.length ∧ ∀ (t : Nat) (ht : t < l.length) (hc : t < css.length), Kd.pod.K (vw w0 M) l[t] css[t])
theorem Blk.of_own {w : World} {base : Nat} {e : TypeId} {z n cap g : Nat} {xs : List Value} (h : w.ownsRow base e z (.slice (some ⟨g, 0, none⟩) n cap) n xs) : Blk w g e (cap * z) := by
  rcases h.2 with ⟨e1, -⟩ | ⟨g', cap', cur, e1, -, hh, -, -, hs, -⟩
  · cases e1
  · injection e1 with a1 a2 a3
    injection a1 with a1
    injection a1 with a1
    subst a1 a3
    exact ⟨cur, hh, hs⟩
/-- A copy, in memory of the call's own. -/
def CloneNew (M : List Nat) (l : List Pd) (w0 w : World) (e : Ending) (w' : World) : Prop := Below w.heap.size w w' ∧
  ∃ v, ∃ css : List (List Value), e = .returned v ∧ css.length = l.length ∧ (∀ (t : Nat) (ht : t < l.length) (hc : t < css.length), Kd.pod.K (vw w0 M) l[t] css[t]) ∧ w'.ownsRow w.heap.size 35 11 v l.length css.flatten
theorem clonenew_none {M : List Nat} {w0 w w' : World} (h : Below w.heap.size w w') : CloneNew M [] w0 w (.returned (.slice none 0 0)) w' := ⟨h, _, [], rfl, rfl, fun t ht => by simp at ht, World.ownsRow_nil _ _ _ _⟩
set_option maxHeartbeats 4000000 in
set_option maxRecDepth 100000 in
theorem Clone_new (v : Value) (l : List Pd) (w0 w : World) (hb0 : Below w0.heap.size w0 w) {M : List Nat} (hs : Kd.pod.S (vw w0 M) v l) (hl : l.length ≤ 1000) :
    Calls Tryz.prog 104 #[v] w (CloneNew M l w0 w) := by
  obtain ⟨i0, hi, hz0, hz1, hz2⟩ := info_parts info_pod
  obtain ⟨A, cap, rfl, hs⟩ := hs.val
  obtain ⟨css, hcl, hck, hcn, hcc⟩ := hs.lists
  cases A with
  | none =>
    obtain ⟨rfl, rfl⟩ := hs.cap_none
    clear hcc hcn hck hcl hs
    have hn : (binOp .eql 23 (.slice none 0 0) (.slice none 0 0)).run Tryz.prog w = .ok (.bool true) w := Lib.run_eql_slice_nil w 23 35 none 0 0 0 0 Tryz.underlying23
    go_enter Tryz.func104, Tryz.ntmps104
    go_wp2
    go_ret
    exact clonenew_none (Below.refl _ _)
  | some ad =>
    have hlen : ∀ c ∈ css, c.length = 11 := fun c hc => by
      obtain ⟨t, ht, rfl⟩ := List.getElem_of_mem hc
      exact Kd.pod.len (hck t (by omega) ht)
    have hfl := flatten_len css hlen
    have HCC : Hid (∀ j u, css.flatten[j]? = some u → w.cell? (ad.add j) = some u) := fun j u hu => by
      refine (hb0.cell ?_).trans (hcc ad rfl j u hu)
      have := hcc ad rfl j u hu
      unfold World.cell? at this
      split at this
      · rename_i e; exact blk_lt e
      · cases this
    have HCK := Lib.hid hck
    have HCL := Lib.hid hcl
    have HLEN := Lib.hid hlen
    have hfl2 : css.flatten.length = l.length * 11 := by rw [hfl, hcl]
    have HFL := Lib.hid hfl2
    have HONE : Hid (∀ u ∈ css.flatten, u.oneCell' = true) := fun u hu => by
      obtain ⟨c, hc, hu⟩ := List.mem_flatten.1 hu
      obtain ⟨t, ht, rfl⟩ := List.getElem_of_mem hc
      obtain ⟨B1, d1, B2, d2, B3, d3, B4, d4, e, -⟩ := hck t (by omega) ht
      rw [e] at hu
      simp at hu
      rcases hu with rfl | rfl | rfl | rfl | rfl | rfl | rfl | rfl | rfl | rfl | rfl <;> rfl
    have NEWS : Hid (∀ ad2, some ad = some ad2 → ∀ j u, css.flatten[j]? = some u → (w.alloc (.cells #[] 35)).cell? (ad2.add j) = some u) := fun ad2 e j u hu => by
      cases e
      exact Lib.cell?_alloc_some _ (HCC.out j u hu)
    clear hcc hcn hck hcl hs hlen hfl hfl2
    have hn : (binOp .eql 23 (.slice (some ad) l.length cap) (.slice none 0 0)).run Tryz.prog w = .ok (.bool false) w := Lib.run_eql_slice_nil w 23 35 (some ad) l.length cap 0 0 Tryz.underlying23
    go_enter Tryz.func104, Tryz.ntmps104
    go_wp2_with (at_builtin; refine wpList_app _ w.heap.size 23 35 i0 _ 11 184 Tryz.underlying23 hi hz0 hz1 hz2 rfl (by decide) _ 0 [] (own_emptyN w 35 11) (some ad) l.length cap css.flatten HFL.out (fun e => by cases e) NEWS.out HONE.out (by simp only [maxLen]; omega) (by omega) (by simp) _ _ rfl rfl rfl rfl ?_)
    intro v1 w1 ho1 hg1 hv1
    have HB1 := Lib.hid ((alloc_below w (.cells #[] 35)).grown hg1 (by simp) (fun q hq => ((own_emptyN w 35 11).lt q hq).1))
    have HO1 := Lib.hid ho1
    clear ho1 hg1 hv1 hn
    go_wp2
    go_ret
    exact ⟨HB1.out, v1, css, rfl, HCL.out, HCK.out, by simpa using HO1.out⟩
theorem Clone_calls (v : Value) (l : List Pd) (w0 w : World) (hb0 : Below w0.heap.size w0 w) {M : List Nat} (hs : Kd.pod.S (vw w0 M) v l) (hl : l.length ≤ 1000) :
    Calls Tryz.prog 104 #[v] w (CloneDone M l w0 w) := by
  refine (Clone_new v l w0 w hb0 hs hl).mono ?_
  rintro e w1 ⟨hb, v1, css, rfl, hcl, hck, ho⟩
  refine ⟨hb, ?_⟩
  have hlen : ∀ c ∈ css, c.length = 11 := fun c hc => by
    obtain ⟨t, ht, rfl⟩ := List.getElem_of_mem hc
    exact Kd.pod.len (hck t (by omega) ht)
  rcases Nat.eq_zero_or_pos l.length with h0 | hp
  · left
    refine ⟨List.eq_nil_of_length_eq_zero h0, ?_⟩
    rcases ho.2 with ⟨e, -⟩ | ⟨g, cp, cur, e, -⟩
    · exact ⟨none, 0, fun _ => rfl, by rw [e]⟩
    · exact ⟨some ⟨g, 0, none⟩, cp, fun e => (by cases e), by rw [e, h0]⟩
  · right
    obtain ⟨g, cp, rfl, h1, h2, h3, h4⟩ := Rw.of_own ho hcl hlen hp
    exact ⟨g, cp, css, hp, rfl, h1, h2, h3, h4, hcl, hck⟩
end Go.Proofs.YtnmhicgbdalniaaGreatDoor
namespace Go.Proofs.YtnmhicgbdalniaaGreatDoor
open Go.RowKit Go.Sort

def keepL (name : ByteArray) (l : List Pd) : List Pd := l.filter fun p => !isN name p
theorem keepL_snoc (name : ByteArray) {l : List Pd} {k : Nat} (h : k < l.length) : keepL name (l.take (k + 1)) = keepL name (l.take k) ++ if isN name l[k] = true then [] else [l[k]] := by
  unfold keepL
  rw [List.take_succ_eq_append_getElem h, List.filter_append]
  congr 1
  cases hb : isN name l[k] <;> simp [hb]
theorem keepL_all (name : ByteArray) {l : List Pd} (h : ∀ x ∈ l, isN name x = false) : keepL name l = l := by
  unfold keepL
  rw [List.filter_eq_self]
  intro x hx
  rw [h x hx]; rfl
theorem pod_zero : ∀ w, (zeroValue 35).run Tryz.prog w = .ok (.agg #[.string ⟨#[]⟩, .string ⟨#[]⟩, .int .i64 0, .slice none 0 0, .slice none 0 0, .slice none 0 0, .slice none 0 0, .string ⟨#[]⟩, .int .i64 0, .string ⟨#[]⟩, .bool false]) w := by
  obtain ⟨i0, hi, hz0, -, -⟩ := info_parts info_pod
  intro w
  simp [zeroValue, typeInfo, hi, hz0]
/-- Where elements lie in a row that was written: those that are kept ahead, those to come as they were. -/
structure Kept (name : ByteArray) (h0 : View) (l : List Pd) (css cur : List (List Value)) (i j : Nat) : Prop where
  len : cur.length = css.length
  ahead : i = (keepL name (l.take j)).length
  kept : ∀ (t : Nat) (ht : t < (keepL name (l.take j)).length) (hc : t < cur.length), Kd.pod.K h0 (keepL name (l.take j))[t] cur[t]
  rest : ∀ t, j ≤ t → cur[t]? = css[t]?
theorem Rw.some {w : World} {g z : Nat} {css : List (List Value)} (h : Rw w g z css) (hz : 0 < z) {x : Nat} (hx : x < css.length * z) : (w.cell? ⟨g, x, none⟩).isSome = true := by
  have ht : x / z < css.length := Nat.div_lt_of_lt_mul (by rw [Nat.mul_comm]; exact hx)
  have hm := Nat.mod_lt x hz
  have := (h.there ht (x % z) hm).1
  rwa [Nat.mul_comm, Nat.div_add_mod] at this
theorem Rw.cut {w : World} {g z : Nat} {css : List (List Value)} (h : Rw w g z css) (k : Nat) : Rw w g z (css.take k) := by
  refine ⟨h.lt, fun c hc => h.len c (List.mem_of_mem_take hc), fun t c hc j v hv => ?_, h.free⟩
  rw [List.getElem?_take] at hc
  split at hc
  · exact h.at_ t c hc j v hv
  · cases hc
theorem Rw.front {w : World} {g z : Nat} {css : List (List Value)} (h : Rw w g z css) (i : Nat) (cs : List Value) : Rw (w.setCells g (i * z) cs) g z (css.take i) := by
  refine ⟨by rw [setCells_size]; exact h.lt, fun c hc => h.len c (List.mem_of_mem_take hc), fun t c hc j v hv => ?_, fun x => by rw [World.frozen?_setCells]; exact h.free x⟩
  rw [List.getElem?_take] at hc
  split at hc
  · rename_i hti
    have hj := (List.getElem?_eq_some_iff.1 hv).1
    have hl := h.len c (List.mem_of_getElem? hc)
    rw [World.cell?_setCells_out g cs (i * z) w ⟨g, t * z + j, none⟩ (fun _ _ => by
      have := Nat.mul_le_mul_right z (show t + 1 ≤ i by omega)
      rw [Nat.add_mul] at this
      left
      show t * z + j < i * z
      omega)]
    exact h.at_ t c hc j v hv
  · cases hc
def DelDone (l : List Pd) (name : ByteArray) (h0 : View) (w0 _ : World) (e : Ending) (w' : World) : Prop := Below w0.heap.size w0 w' ∧
  ∃ g cap cur, w0.heap.size ≤ g ∧ e = .returned (.slice (some ⟨g, 0, none⟩) (keepL name l).length cap) ∧ (keepL name l).length ≤ cap ∧ Rw w' g 11 cur ∧ (keepL name l).length ≤ cur.length ∧ (∀ (t : Nat) (ht : t < (keepL name l).length) (hc : t < cur.length), Kd.pod.K h0 (keepL name l)[t] cur[t]) ∧ Blk w' g 35 (cap * 11) ∧ cap ≤ maxLen
theorem Below.setCells' {w0 w : World} (h : Below w0.heap.size w0 w) {g : Nat} (hg : w0.heap.size ≤ g) (cs : List Value) (o : Nat) : Below w0.heap.size w0 (w.setCells g o cs) := Below.setCells h hg cs o
set_option maxHeartbeats 8000000 in
set_option maxRecDepth 100000 in
theorem Delete_calls (g cap nb : Nat) (name : ByteArray) (l : List Pd) (css : List (List Value)) (h0 : View) (w0 w : World) (hb0 : Below w0.heap.size w0 w) (hg : w0.heap.size ≤ g) (hl : css.length = l.length) (hk : ∀ (t : Nat) (ht : t < l.length) (hc : t < css.length), Kd.pod.K h0 l[t] css[t])
    (hr : Rw w g 11 css) (hn : w0.cell? ⟨nb, 0, none⟩ = some (.string name)) (hx : l.length ≤ 1000) (hcap : l.length ≤ cap) (hcm : cap ≤ maxLen) (hk0 : Blk w g 35 (cap * 11)) :
    Calls Tryz.prog 103 #[.slice (some ⟨g, 0, none⟩) l.length cap, .func (.func 105) #[] #[.pointer (some ⟨nb, 0, none⟩)]] w (DelDone l name h0 w0 w) := by
  have HCM := Lib.hid hcm
  have HBK := Lib.hid hk0
  unfold maxLen at hcm
  have hnlt : nb < w0.heap.size := cell_lt hn
  have HL := Lib.hid hl
  have HK := Lib.hid hk
  have HR := Lib.hid hr
  have HN := Lib.hid hn
  have HB := Lib.hid hb0
  clear hl hk hr hn hb0 hk0
  go_enter Tryz.func103, Tryz.ntmps103
  go_wp2_with fail
  refine (index_calls g cap nb name l css h0 _ HL.out HK.out HR.out (keep_cell HB.out HN.out) (by have := HB.out.size; omega) hx hcap).mono ?_
  rintro e w1 ⟨hb, hor⟩
  replace HR := Lib.hid (HR.out.below hb)
  replace HB := Lib.hid (Below.then HB.out hb)
  replace HBK := Lib.hid (HBK.out.below hb)
  clear hb
  rcases hor with ⟨hall, rfl⟩ | ⟨i, hil, hpi, hbi, rfl⟩
  · have hka := keepL_all name hall
    have HKA := Lib.hid hka
    clear hall hka
    go_wp2
    go_ret
    refine ⟨HB.out, g, cap, css, hg, ?_, ?_, HR.out, ?_, ?_, HBK.out, HCM.out⟩
    · rw [HKA.out]; rfl
    · rw [HKA.out]; exact hcap
    · rw [HKA.out, HL.out]; exact Nat.le_refl _
    · rw [HKA.out]; exact HK.out
  have HST : Hid (Kept name h0 l css css i (i + 1)) := by
    have h1 : keepL name (l.take (i + 1)) = l.take i := by rw [keepL_snoc name hil, hpi, if_pos rfl, List.append_nil, keepL_all name hbi]
    refine ⟨rfl, by rw [h1, List.length_take]; omega, ?_, fun _ _ => rfl⟩
    rw [h1]
    intro t ht hc
    rw [List.getElem_take]
    rw [List.length_take] at ht
    exact HK.out t (by omega) hc
  clear hpi hbi
  have ti : ((i : Int) == -1) = false := beq_false_of_ne (by omega)
  go_wp2
  clear ti
  go_loopw [5, 6] (fun a b wr => ∃ (i j : Nat) (cur : List (List Value)), i < j ∧ j ≤ l.length ∧ a = .int .i64 i ∧ b = .int .i64 j ∧ Hid (Kept name h0 l css cur i j) ∧ Hid (Rw wr g 11 cur) ∧ Hid (Below w0.heap.size w0 wr) ∧ Hid (Blk wr g 35 (cap * 11))) (fun _ b _ => l.length - (intOf b).toNat)
  case atStart => exact ⟨i, i + 1, css, by omega, by omega, by go_num, by go_num, HST.out, HR.out, HB.out, HBK.out⟩
  case round =>
    clear HST HR HB HBK
    obtain ⟨i, j, cur, hij, hj, rfl, rfl, HS, HR, HB, HBK⟩ := hrel
    by_cases hlt : j < l.length
    · have hlc : j < css.length := by have := HL.out; omega
      have hlcur : j < cur.length := by have := HS.out.len; omega
      have hkj := HK.out j hlt hlc
      have hcj : cur[j]? = some css[j] := by rw [HS.out.rest j (Nat.le_refl _), List.getElem?_eq_getElem hlc]
      obtain ⟨c, hc⟩ : ∃ c, css[j]'hlc = c := ⟨_, rfl⟩
      rw [hc] at hkj hcj
      have HKC := Lib.hid hkj
      have HC : Hid (wr.rangeAt g (j * 11) c) := HR.out.at_ j c hcj
      have HNC : Hid (wr.cell? ⟨nb, 0, none⟩ = some (.string name)) := keep_cell HB.out HN.out
      obtain ⟨m, hm⟩ : ∃ m, isN name l[j] = m := ⟨_, rfl⟩
      have HM := Lib.hid hm
      have hsz := HB.out.size
      have hks := keepL_snoc name hlt
      rw [hm] at hks
      have HKS := Lib.hid hks
      have HCJ := Lib.hid hcj
      clear hc hkj hm hks hcj
      obtain ⟨B1, d1, B2, d2, B3, d3, B4, d4, rfl, -⟩ := id HKC.out
      go_upto_region 8 with (with_reducible refine wpList_load_mid rfl 35 _ rfl g (j * 11) rfl _ _ HC.out Tryz.underlying35 rfl (by kernel_rfl) ?_)
      obtain ⟨U, hU⟩ : ∃ U : World, U = wr.alloc (.cells #[.string l[j].name, .string l[j].owner, .int .i64 l[j].prio, .slice B1 l[j].need.length d1, .slice B2 l[j].labels.length d2, .slice B3 l[j].sel.length d3, .slice B4 l[j].tols.length d4, .string l[j].key, .int .i64 l[j].most, .string l[j].node, .bool l[j].hold] 35) := ⟨_, rfl⟩
      rw [← hU]
      have hub : U.heap[wr.heap.size]? = some (.cells #[.string l[j].name, .string l[j].owner, .int .i64 l[j].prio, .slice B1 l[j].need.length d1, .slice B2 l[j].labels.length d2, .slice B3 l[j].sel.length d3, .slice B4 l[j].tols.length d4, .string l[j].key, .int .i64 l[j].most, .string l[j].node, .bool l[j].hold] 35 (0, 0)) := by rw [hU]; exact blk_last _ _
      have hue : Below wr.heap.size wr U := by rw [hU]; exact alloc_below _ _
      replace HB := Lib.hid (Below.then HB.out hue)
      replace HBK := Lib.hid (HBK.out.below hue)
      replace HR := Lib.hid (HR.out.below hue)
      replace HNC := Lib.hid (keep_cell hue HNC.out)
      have hus := hue.size
      have HUB := Lib.hid hub
      obtain ⟨u, uf⟩ := blk_all hub
      clear hU hub hue HC
      go_wp2_with fail
      refine (drop1_calls _ l[j] name nb _ ⟨_, HKC.out⟩ HNC.out (by omega)).mono ?_
      rintro e w2 ⟨rfl, hb⟩
      rw [HM.out]
      replace HB := Lib.hid (Below.then HB.out hb)
      replace HBK := Lib.hid (HBK.out.below hb)
      replace HR := Lib.hid (HR.out.below hb)
      replace HUB := Lib.hid ((hb.block _ (blk_lt HUB.out)).trans HUB.out)
      clear hb u uf HNC
      obtain ⟨u, uf⟩ := blk_all HUB.out
      cases m with
      | true =>
        have HS2 : Hid (Kept name h0 l css cur i (j + 1)) := by
          have h1 : keepL name (l.take (j + 1)) = keepL name (l.take j) := by rw [HKS.out, if_pos rfl, List.append_nil]
          refine ⟨HS.out.len, by rw [h1]; exact HS.out.ahead, ?_, fun t ht => HS.out.rest t (by omega)⟩
          rw [h1]; exact HS.out.kept
        go_wp2
        go_roundw
        case rel => exact ⟨i, j + 1, cur, by omega, by omega, by go_num, by go_num, HS2.out, HR.out, HB.out, HBK.out⟩
        case measure => simp [intOf]; omega
      | false =>
        have hic : i < cur.length := by omega
        have HTH := Lib.hid (HR.out.there hic)
        have HR2 := Lib.hid (HR.out.set (c := [.string l[j].name, .string l[j].owner, .int .i64 l[j].prio, .slice B1 l[j].need.length d1, .slice B2 l[j].labels.length d2, .slice B3 l[j].sel.length d3, .slice B4 l[j].tols.length d4, .string l[j].key, .int .i64 l[j].most, .string l[j].node, .bool l[j].hold]) hic rfl)
        have HB2 := Lib.hid (Below.setCells' HB.out hg [.string l[j].name, .string l[j].owner, .int .i64 l[j].prio, .slice B1 l[j].need.length d1, .slice B2 l[j].labels.length d2, .slice B3 l[j].sel.length d3, .slice B4 l[j].tols.length d4, .string l[j].key, .int .i64 l[j].most, .string l[j].node, .bool l[j].hold] (i * 11))
        have HS2 : Hid (Kept name h0 l css (cur.set i [.string l[j].name, .string l[j].owner, .int .i64 l[j].prio, .slice B1 l[j].need.length d1, .slice B2 l[j].labels.length d2, .slice B3 l[j].sel.length d3, .slice B4 l[j].tols.length d4, .string l[j].key, .int .i64 l[j].most, .string l[j].node, .bool l[j].hold]) (i + 1) (j + 1)) := by
          have h1 : keepL name (l.take (j + 1)) = keepL name (l.take j) ++ [l[j]] := by rw [HKS.out, if_neg (by decide)]
          refine ⟨by rw [List.length_set]; exact HS.out.len, by rw [h1, List.length_append, ← HS.out.ahead]; rfl, ?_, fun t ht => by rw [List.getElem?_set_ne (by omega)]; exact HS.out.rest t (by omega)⟩
          rw [h1]
          intro t ht hc
          rw [List.length_append, ← HS.out.ahead, List.length_singleton] at ht
          by_cases e : t = i
          · subst e
            rw [List.getElem_set_self, List.getElem_append_right (by rw [← HS.out.ahead]; exact Nat.le_refl _)]
            simpa using HKC.out
          · rw [List.getElem_set_ne (Ne.symm e), List.getElem_append_left (by rw [← HS.out.ahead]; omega)]
            exact HS.out.kept t (by rw [← HS.out.ahead]; omega) (by rw [List.length_set] at hc; exact hc)
        have HONE : Hid ((#[.string l[j].name, .string l[j].owner, .int .i64 l[j].prio, .slice B1 l[j].need.length d1, .slice B2 l[j].labels.length d2, .slice B3 l[j].sel.length d3, .slice B4 l[j].tols.length d4, .string l[j].key, .int .i64 l[j].most, .string l[j].node, .bool l[j].hold] : Array Value).all (·.oneCell') = true) := by show _ = true; simp [Value.oneCell']
        have HTH2 : Hid (w2.there g (i * 11) (#[.string l[j].name, .string l[j].owner, .int .i64 l[j].prio, .slice B1 l[j].need.length d1, .slice B2 l[j].labels.length d2, .slice B3 l[j].sel.length d3, .slice B4 l[j].tols.length d4, .string l[j].key, .int .i64 l[j].most, .string l[j].node, .bool l[j].hold] : Array Value).size) := HTH.out
        go_wp2_with (with_reducible refine wpList_store_mid rfl 35 _ _ rfl g (i * 11) _ rfl rfl HTH2.out (by kernel_rfl) HONE.out ?_)
        go_roundw
        case rel => exact ⟨i + 1, j + 1, _, by omega, by omega, by go_num, by go_num, HS2.out, HR2.out, HB2.out, HBK.out.setCells _ _ _⟩
        case measure => simp [intOf]; omega
    · obtain rfl : j = l.length := by omega
      have hcl : cur.length = l.length := by rw [HS.out.len, HL.out]
      have hia := HS.out.ahead
      rw [List.take_length] at hia
      have hkk := HS.out.kept
      rw [List.take_length] at hkk
      have hcap2 : i ≤ cap := by omega
      have hci : ¬ cap = i := by omega
      have HIA := Lib.hid hia
      have HKK := Lib.hid hkk
      have HS1 : Hid (∀ x, x < (l.length - i) * (Value.agg #[.string ⟨#[]⟩, .string ⟨#[]⟩, .int .i64 0, .slice none 0 0, .slice none 0 0, .slice none 0 0, .slice none 0 0, .string ⟨#[]⟩, .int .i64 0, .string ⟨#[]⟩, .bool false]).cells.size → (wr.cell? ⟨g, i * 11 + x, none⟩).isSome = true) := fun x hx => HR.out.some (by decide) (by
        have hx' : x < (l.length - i) * 11 := hx
        rw [hcl]; omega)
      have HS2 : Hid (∀ x, x < (l.length - i) * (Value.agg #[.string ⟨#[]⟩, .string ⟨#[]⟩, .int .i64 0, .slice none 0 0, .slice none 0 0, .slice none 0 0, .slice none 0 0, .string ⟨#[]⟩, .int .i64 0, .string ⟨#[]⟩, .bool false]).cells.size → wr.frozen? ⟨g, i * 11 + x, none⟩ = false) := fun x hx => HR.out.free _
      have HS3 : Hid (∀ v ∈ (Value.agg #[.string ⟨#[]⟩, .string ⟨#[]⟩, .int .i64 0, .slice none 0 0, .slice none 0 0, .slice none 0 0, .slice none 0 0, .string ⟨#[]⟩, .int .i64 0, .string ⟨#[]⟩, .bool false]).cells.toList, v.oneCell' = true) := by
        show ∀ v ∈ ([.string ⟨#[]⟩, .string ⟨#[]⟩, .int .i64 0, .slice none 0 0, .slice none 0 0, .slice none 0 0, .slice none 0 0, .string ⟨#[]⟩, .int .i64 0, .string ⟨#[]⟩, .bool false] : List Value), _
        simp [Value.oneCell']
      have hpos : 0 < l.length - i := by omega
      have HF := Lib.hid (HR.out.front i (Builtin.zeroCells (Value.agg #[.string ⟨#[]⟩, .string ⟨#[]⟩, .int .i64 0, .slice none 0 0, .slice none 0 0, .slice none 0 0, .slice none 0 0, .string ⟨#[]⟩, .int .i64 0, .string ⟨#[]⟩, .bool false]).cells (l.length - i)).toList)
      have HB2 := Lib.hid (Below.setCells' HB.out hg (Builtin.zeroCells (Value.agg #[.string ⟨#[]⟩, .string ⟨#[]⟩, .int .i64 0, .slice none 0 0, .slice none 0 0, .slice none 0 0, .slice none 0 0, .string ⟨#[]⟩, .int .i64 0, .string ⟨#[]⟩, .bool false]).cells (l.length - i)).toList (i * 11))
      clear hia hkk
      go_wp2_with (with_reducible refine wpList_clear rfl 23 35 _ rfl _ Tryz.underlying23 pod_zero HS3.out (by decide) g (i * 11) (l.length - i) _ hpos rfl HS1.out HS2.out ?_)
      go_ret
      refine ⟨HB2.out, g, cap, cur.take i, hg, ?_, ?_, HF.out, ?_, ?_, HBK.out.setCells _ _ _, HCM.out⟩
      · rw [← HIA.out]; rfl
      · rw [← HIA.out]; exact hcap2
      · rw [← HIA.out, List.length_take]; omega
      · intro t ht hc
        rw [List.getElem_take]
        exact HKK.out t ht (by rw [List.length_take] at hc; omega)
end Go.Proofs.YtnmhicgbdalniaaGreatDoor
namespace Go.Proofs.YtnmhicgbdalniaaGreatDoor
open Go.RowKit Go.Sort

/-! Rows of a call's own, whose elements were there ahead. -/
theorem own_setCells {base : Nat} {e : TypeId} {size : Nat} {v : Value} {n : Nat} {xs : List Value} {b : Nat} (hb : b < base) : ∀ (cs : List Value) (o : Nat) {w : World}, w.ownsRow base e size v n xs → (w.setCells b o cs).ownsRow base e size v n xs
  | [], _, _, h => h
  | c :: r, o, _, h => own_setCells hb r (o + 1) (ownsRow_setCell_below h (a := ⟨b, o, none⟩) hb c)
theorem vw_all (w : World) (M : List Nat) : (vw w M).le (vw w []) := fun b o hb => vw_mk (by simp) (vw_eq hb).2
theorem View.leT {a b c : View} (h : a.le b) (k : b.le c) : a.le c := fun x o hx => k x o (h x o hx)
namespace Kd
variable {α : Type}
theorem S.bothM {d : Kd α} {w wr : World} {M : List Nat} {A : Option Addr} {m cap : Nat} {xs : List α} (s : d.S (vw w M) (.slice A m cap) xs) (hb : Below w.heap.size w wr) (j : Nat) (hj : j < xs.length) :
    ∃ b off cs, A = some ⟨b, off, none⟩ ∧ d.K (vw w M) xs[j] cs ∧ wr.rangeAt b (off + j * d.sz) cs := by
  obtain ⟨b, off, cs, e, h1, h2⟩ := s.elem j hj
  exact ⟨b, off, cs, e, h1, range_of_view fun i u hu => View.cell_mono (vw_below hb) (h2 i u hu)⟩
/-- A row of a call's own, whose elements were there ahead. -/
def Row0 (d : Kd α) (w0 : World) (M : List Nat) (w : World) (base : Nat) (e : TypeId) (v : Value) (xs : List α) : Prop :=
  ∃ css : List (List Value), css.length = xs.length ∧ (∀ (j : Nat) (x : α), xs[j]? = some x → ∃ cs, css[j]? = some cs ∧ d.K (vw w0 M) x cs) ∧ w.ownsRow base e d.sz v xs.length css.flatten
theorem Row0.nil (d : Kd α) (w0 : World) (M : List Nat) (w : World) (base : Nat) (e : TypeId) : d.Row0 w0 M w base e (.slice none 0 0) [] := ⟨[], rfl, fun j x h => by simp at h, World.ownsRow_nil _ _ _ _⟩
theorem Row0.own {d : Kd α} {w0 w : World} {M : List Nat} {base : Nat} {e : TypeId} {v : Value} {xs : List α} (h : d.Row0 w0 M w base e v xs) (hb : Below w0.heap.size w0 w) (hl : w0.heap.size ≤ base) : d.Own w base e 0 v xs := by
  obtain ⟨css, h1, h2, h3⟩ := h
  exact ⟨css, h1, fun j x hx => by obtain ⟨cs, a, b⟩ := h2 j x hx; exact ⟨cs, a, d.mono (View.leT (vw_all w0 M) (vw_own hb fun q hq => Nat.le_trans hl (h3.lt q hq).1)) b⟩, h3⟩
theorem Row0.below {d : Kd α} {w0 w w' : World} {M : List Nat} {base : Nat} {e : TypeId} {v : Value} {xs : List α} (h : d.Row0 w0 M w base e v xs) (hb : Below w.heap.size w w') : d.Row0 w0 M w' base e v xs := by
  obtain ⟨css, h1, h2, h3⟩ := h
  exact ⟨css, h1, h2, own_below h3 hb⟩
theorem Row0.setCell {d : Kd α} {w0 w : World} {M : List Nat} {base : Nat} {e : TypeId} {v : Value} {xs : List α} (h : d.Row0 w0 M w base e v xs) {p : Addr} (hp : p.block < base) (u : Value) : d.Row0 w0 M (w.setCell p u) base e v xs := by
  obtain ⟨css, h1, h2, h3⟩ := h
  exact ⟨css, h1, h2, ownsRow_setCell_below h3 hp u⟩
theorem own_none {w : World} {base : Nat} {e : TypeId} {size : Nat} {n : Nat} {A : Option Addr} {c : Nat} {xs : List Value} (h : w.ownsRow base e size (.slice A n c) n xs) : A = none → c = 0 := fun hA => by
  rcases h.2 with ⟨h1, h0⟩ | ⟨g, cap, cur, h1, _⟩
  · injection h1
  · injection h1 with a1; rw [hA] at a1; cases a1
theorem row_form0 {w : World} {base : Nat} {e : TypeId} {size : Nat} {v : Value} {n : Nat} {xs : List Value} (h : w.ownsRow base e size v n xs) : ∃ A c, v = .slice A n c := by
  rcases h.2 with ⟨rfl, h0⟩ | ⟨g, cap, cur, rfl, _⟩
  · exact ⟨none, 0, by rw [h0]⟩
  · exact ⟨_, _, rfl⟩
theorem Row0.S {d : Kd α} {w0 w : World} {M : List Nat} {base : Nat} {e : TypeId} {v : Value} {xs : List α} (h : d.Row0 w0 M w base e v xs) (hb : Below w0.heap.size w0 w) (_ : w0.heap.size ≤ base) (hM : ∀ b ∈ M, b < base) (hx : xs.length ≤ 140737488351232) : d.S (vw w M) v xs := by
  obtain ⟨css, h1, h2, h3⟩ := h
  rcases Nat.eq_zero_or_pos xs.length with h0 | hp
  · obtain ⟨A, c, rfl⟩ := row_form0 h3
    have hn := own_none h3
    have he := List.eq_nil_of_length_eq_zero h0
    subst he
    exact Kd.S.empty _ _ _ _ hn
  · have hlen : ∀ c ∈ css, c.length = d.sz := fun c hc => by
      obtain ⟨j, hj, rfl⟩ := List.getElem_of_mem hc
      obtain ⟨cs, a, b⟩ := h2 j xs[j] (List.getElem?_eq_getElem (by omega))
      rw [List.getElem?_eq_getElem hj] at a
      cases a
      exact d.len b
    obtain ⟨g, cap, rfl, hg, hc1, hc2, hr⟩ := Rw.of_own h3 h1 hlen hp
    refine Rw.S (d := d) (fun hm => by have := hM _ hm; omega) hr (by omega) (fun t ht => ?_) hc1 hx
    obtain ⟨cs, a, b⟩ := h2 t xs[t] (List.getElem?_eq_getElem ht)
    rw [List.getElem?_eq_getElem (by omega)] at a
    cases a
    exact d.mono (vw_below hb) b
end Kd
section
variable {α : Type} {d : Kd α} {P : Program} (w w0 : World) (M : List Nat) (base : Nat) (t e : TypeId) (i : TypeInfo) (z : Value) (bytes : Nat) (ht : P.underlying t = some (.slice e)) (hi : P.info? e = some i) (hz : i.zero = some z)
  (hsize : i.size = d.sz) (hby : i.bytes = bytes) (hzs : z.cells.size = d.sz) (hsz : 0 < d.sz) (v : Value) (xs : List α) (x : α) (cs : List Value) (hown : d.Row0 w0 M w base e v xs) (hk : d.K (vw w0 M) x cs)
  (g c : Nat) (T : TypeId) (hg : w.heap[g]? = some (.cells cs.toArray T (0, 0))) (h1 : ∀ u ∈ cs, u.oneCell' = true) (h63 : xs.length + 1 ≤ maxLen) (hbytes : (xs.length + 1) * bytes ≤ 140737488355328) (hbase : base ≤ w.heap.size)
  {o : Oper} {a : Act} {Q : Exit → Act → World → Prop} (s y : Operand) (ho : o.op = .call { callee := .builtin .append, args := #[s, y], argTypes := #[t, t] }) (hs : a.eval s = v) (hx : a.eval y = .slice (some ⟨g, 0, none⟩) 1 c) (hgd : o.guard = none)
include ht hi hz hsize hby hzs hsz hown hk hg h1 h63 hbytes hbase ho hs hx hgd
end
end Go.Proofs.YtnmhicgbdalniaaGreatDoor
namespace Go.Proofs.YtnmhicgbdalniaaGreatDoor
open Go.RowKit Go.Sort

set_option maxHeartbeats 1000000 in
theorem index_none (A : Option Addr) (c nb : Nat) (w : World) :
    Calls Tryz.prog 183 #[.slice A 0 c, .func (.func 105) #[] #[.pointer (some ⟨nb, 0, none⟩)]] w (SameDone (.int .i64 (-1)) w) := by
  go_enter Tryz.func183, Tryz.ntmps183
  go_wp2
  go_loop [8] (fun i => i = .int .i64 0) (fun _ => 0)
  case atStart => rfl
  case round =>
    subst hrel
    go_wp2
    go_ret
    exact ⟨rfl, rfl⟩
set_option maxHeartbeats 1000000 in
theorem delete_none (A : Option Addr) (c nb : Nat) (w : World) :
    Calls Tryz.prog 103 #[.slice A 0 c, .func (.func 105) #[] #[.pointer (some ⟨nb, 0, none⟩)]] w (SameDone (.slice A 0 c) w) := by
  go_enter Tryz.func103, Tryz.ntmps103
  go_wp2_with fail
  refine (index_none A c nb _).mono ?_
  rintro e w' ⟨rfl, rfl⟩
  go_wp2
  go_ret
  exact ⟨rfl, rfl⟩
def DropDone (M : List Nat) (s : St) (name : ByteArray) (w : World) (e : Ending) (w' : World) : Prop := ∃ cs : List Value, e = .returned (.agg cs.toArray) ∧ Kd.state.V (vw w' M) (.agg cs.toArray) (dropS s name) ∧ Below w.heap.size w w'
theorem Rw.other {w w' : World} {g z : Nat} {css : List (List Value)} (h : Rw w g z css) (hb : w'.heap[g]? = w.heap[g]?) (hs : w.heap.size ≤ w'.heap.size) : Rw w' g z css :=
  ⟨Nat.lt_of_lt_of_le h.lt hs, h.len, fun t c hc j v hv => by rw [show w'.cell? ⟨g, t * z + j, none⟩ = w.cell? ⟨g, t * z + j, none⟩ by simp only [World.cell?, hb]]; exact h.at_ t c hc j v hv, fun x => by rw [show w'.frozen? ⟨g, x, none⟩ = w.frozen? ⟨g, x, none⟩ by simp only [World.frozen?, hb]]; exact h.free x⟩
/-- A cluster without a pod, its row of pods in memory of the call's own. -/
def DropNew (M : List Nat) (s : St) (name : ByteArray) (w : World) (e : Ending) (w' : World) : Prop :=
  ∃ A1 c1 v A3 c3, e = .returned (.agg #[.slice A1 s.nodes.length c1, v, .slice A3 s.budgets.length c3]) ∧ Kd.node.S (vw w M) (.slice A1 s.nodes.length c1) s.nodes ∧ Kd.budget.S (vw w M) (.slice A3 s.budgets.length c3) s.budgets ∧ Kd.pod.Row0 w M w' w.heap.size 35 v (dropS s name).pods ∧ Below w.heap.size w w'
set_option maxHeartbeats 4000000 in
set_option maxRecDepth 100000 in
theorem Drop_new (v : Value) (s : St) (name : ByteArray) (w : World) {M : List Nat} (hv : Kd.state.V (vw w M) v s) (hl : s.pods.length ≤ 1000) :
    Calls Tryz.prog 33 #[v, .string name] w (DropNew M s name w) := by
  have hmf : ∀ (fn : Fn) (first cap : Array Value) (w : World), (Instr.makeFunc fn first cap).run Tryz.prog w = .ok (.func fn first cap) w := fun _ _ _ _ => rfl
  obtain ⟨cs, rfl, A1, c1, A2, c2, A3, c3, rfl, s1, s2, s3⟩ := hv
  have S1 := Lib.hid s1
  have S2 := Lib.hid s2
  have S3 := Lib.hid s3
  clear s1 s2 s3
  go_enter Tryz.func33, Tryz.ntmps33
  go_upto_region 1 with fail
  obtain ⟨W, hW⟩ : ∃ W : World, W = (((w.alloc (.cells #[.slice A1 s.nodes.length c1, .slice A2 s.pods.length c2, .slice A3 s.budgets.length c3] 26)).alloc (.cells #[.string name] 9)).alloc (.cells #[.slice none 0 0, .slice none 0 0, .slice none 0 0] 26)) := ⟨_, rfl⟩
  rw [← hW]
  have HB : Hid (Below w.heap.size w W) := by rw [hW]; exact Below.then (Below.then (alloc_below _ _) (alloc_below _ _)) (alloc_below _ _)
  have k1 : W.heap[w.heap.size]? = some (.cells #[.slice A1 s.nodes.length c1, .slice A2 s.pods.length c2, .slice A3 s.budgets.length c3] 26 (0, 0)) := by
    rw [hW]; exact (blk_old _ _ (by simp; omega)).trans ((blk_old _ _ (by simp)).trans (blk_last _ _))
  have k2 : W.heap[w.heap.size + 1]? = some (.cells #[.string name] 9 (0, 0)) := by
    rw [hW]; exact (blk_old _ _ (by simp)).trans ((show _ = w.heap.size + 1 by simp : (w.alloc (.cells #[.slice A1 s.nodes.length c1, .slice A2 s.pods.length c2, .slice A3 s.budgets.length c3] 26)).heap.size = w.heap.size + 1) ▸ blk_last _ _)
  have k3 : W.heap[w.heap.size + 2]? = some (.cells #[.slice none 0 0, .slice none 0 0, .slice none 0 0] 26 (0, 0)) := by
    rw [hW]
    have := blk_last ((w.alloc (.cells #[.slice A1 s.nodes.length c1, .slice A2 s.pods.length c2, .slice A3 s.budgets.length c3] 26)).alloc (.cells #[.string name] 9)) (.cells #[.slice none 0 0, .slice none 0 0, .slice none 0 0] 26)
    simpa using this
  have hNC : Hid (W.cell? ⟨w.heap.size + 1, 0, none⟩ = some (.string name)) := (blk_all k2).1 0
  have HQ := Lib.hid k1
  have HZ := Lib.hid k3
  have hsz : w.heap.size + 3 ≤ W.heap.size := by have := blk_lt k3; omega
  obtain ⟨z, zf⟩ := blk_all k1
  clear hW k1 k2 k3
  go_wp2_with fail
  refine (Clone_new _ s.pods w _ HB.out S2.out hl).mono ?_
  rintro e w1 ⟨hb, v1, css, rfl, hcl, hck, ho⟩
  have q1 := (hb.block _ (blk_lt HQ.out)).trans HQ.out
  have q3 := (hb.block _ (blk_lt HZ.out)).trans HZ.out
  clear z zf
  have hlen : ∀ c ∈ css, c.length = 11 := fun c hc => by
    obtain ⟨t, ht, rfl⟩ := List.getElem_of_mem hc
    exact Kd.pod.len (hck t (by omega) ht)
  rcases Nat.eq_zero_or_pos s.pods.length with h0 | hp
  · obtain ⟨A, c, rfl⟩ := Kd.row_form0 ho
    have he := List.eq_nil_of_length_eq_zero h0
    have hcs : css = [] := List.eq_nil_of_length_eq_zero (by omega)
    rw [hcs, h0] at ho
    rw [h0]
    have HE := Lib.hid he
    have HO := Lib.hid ho
    have HB2 := Lib.hid (Below.then HB.out hb)
    have HZ2 := Lib.hid q3
    obtain ⟨z, zf⟩ := blk_all q1
    obtain ⟨y, yf⟩ := blk_all q3
    have hl1 := blk_lt q1
    clear hb h0 q1 q3 ho hck hcl hlen he hcs
    go_wp2_with fail
    refine (delete_none A c (w.heap.size + 1) _).mono ?_
    rintro e w2 ⟨rfl, rfl⟩
    clear hmf
    go_wp2
    clear z zf y yf
    have hz3 : (w1.setCell ⟨w.heap.size, 1, none⟩ (.slice A 0 c)).heap[w.heap.size + 1 + 1]? = some (.cells [Value.slice none 0 0, .slice none 0 0, .slice none 0 0].toArray 26 (0, 0)) := (Below.heap_setCell w1 ⟨w.heap.size, 1, none⟩ _ _ (by show w.heap.size + 1 + 1 ≠ w.heap.size; omega)).trans HZ2.out
    have hset := setCells_all (cs := [.slice A1 s.nodes.length c1, .slice A 0 c, .slice A3 s.budgets.length c3]) hz3 rfl
    have hbel := Below.setCells (Below.setCell HB2.out (p := ⟨w.heap.size, 1, none⟩) (Nat.le_refl _) (.slice A 0 c)) (show w.heap.size ≤ w.heap.size + 1 + 1 by omega) [.slice A1 s.nodes.length c1, .slice A 0 c, .slice A3 s.budgets.length c3] 0
    have hpe : (dropS s name).pods = [] := by show List.filter _ s.pods = []; rw [HE.out]; rfl
    have ho2 := own_setCells (b := w.heap.size + 1 + 1) (by omega) [.slice A1 s.nodes.length c1, .slice A 0 c, .slice A3 s.budgets.length c3] 0 (ownsRow_setCell_below HO.out (a := ⟨w.heap.size, 1, none⟩) (by show w.heap.size < W.heap.size; omega) (.slice A 0 c))
    refine ret_row1 (cs := [.slice A1 s.nodes.length c1, .slice A 0 c, .slice A3 s.budgets.length c3]) rfl rfl hset Tryz.underlying26 rfl (by kernel_rfl) rfl ⟨A1, c1, _, A3, c3, rfl, S1.out, S3.out, ?_, hbel⟩
    rw [hpe]
    exact ⟨[], rfl, fun j x h => by simp at h, own_base ho2 (by omega)⟩
  · obtain ⟨g, cap, rfl, hg, hc1, hc2, hr⟩ := Rw.of_own ho hcl hlen hp
    have hbk := Blk.of_own ho
    have HB2 := Lib.hid (Below.then HB.out hb)
    have HQ2 := Lib.hid q1
    have HZ2 := Lib.hid q3
    have HR := Lib.hid hr
    have HCL := Lib.hid hcl
    have HCK := Lib.hid hck
    have hbW := Lib.hid hb
    have HBK := Lib.hid hbk
    clear hb q1 q3 hr hcl hck ho hlen hbk
    go_wp2_with fail
    refine (Delete_calls g cap (w.heap.size + 1) name s.pods css (vw w M) W _ hbW.out hg HCL.out HCK.out HR.out hNC.out hl hc1 hc2 HBK.out).mono ?_
    rintro e w2 ⟨hb, g2, cap2, cur, hg2, rfl, hle, hrw, hlc, hkk, hbk2, hcm2⟩
    have q1 := (hb.block _ (blk_lt HQ.out)).trans HQ.out
    have q3 := (hb.block _ (blk_lt HZ.out)).trans HZ.out
    have HB3 := Lib.hid (Below.then HB.out hb)
    have HZ3 := Lib.hid q3
    have HRW := Lib.hid hrw
    have HKK := Lib.hid hkk
    have HBK2 := Lib.hid (And.intro hbk2 hcm2)
    obtain ⟨z, zf⟩ := blk_all q1
    obtain ⟨y, yf⟩ := blk_all q3
    have hl1 := blk_lt q1
    clear hb q1 q3 hrw hkk hmf HB2 HQ2 HZ2 HR hbk2 hcm2
    obtain ⟨n, hn⟩ : ∃ n, (keepL name s.pods).length = n := ⟨_, rfl⟩
    have HN := Lib.hid hn
    rw [hn] at hle hlc
    rw [hn]
    clear hn
    go_wp2
    clear z zf y yf
    have hz3 : (w2.setCell ⟨w.heap.size, 1, none⟩ (.slice (some ⟨g2, 0, none⟩) n cap2)).heap[w.heap.size + 1 + 1]? = some (.cells [Value.slice none 0 0, .slice none 0 0, .slice none 0 0].toArray 26 (0, 0)) := (Below.heap_setCell w2 ⟨w.heap.size, 1, none⟩ _ _ (by show w.heap.size + 1 + 1 ≠ w.heap.size; omega)).trans HZ3.out
    have hset := setCells_all (cs := [.slice A1 s.nodes.length c1, .slice (some ⟨g2, 0, none⟩) n cap2, .slice A3 s.budgets.length c3]) hz3 rfl
    have hbel := Below.setCells (Below.setCell HB3.out (p := ⟨w.heap.size, 1, none⟩) (Nat.le_refl _) (.slice (some ⟨g2, 0, none⟩) n cap2)) (show w.heap.size ≤ w.heap.size + 1 + 1 by omega) [.slice A1 s.nodes.length c1, .slice (some ⟨g2, 0, none⟩) n cap2, .slice A3 s.budgets.length c3] 0
    have hoth := HRW.out.other (w' := (w2.setCell ⟨w.heap.size, 1, none⟩ (.slice (some ⟨g2, 0, none⟩) n cap2)).setCells (w.heap.size + 1 + 1) 0 [.slice A1 s.nodes.length c1, .slice (some ⟨g2, 0, none⟩) n cap2, .slice A3 s.budgets.length c3])
      ((setCells_far _ _ _ _ _ (by omega)).trans (Below.heap_setCell w2 ⟨w.heap.size, 1, none⟩ _ _ (by show g2 ≠ w.heap.size; omega))) (by rw [setCells_size]; simp [World.setCell])
    have hbk3 := HBK2.out.1.other (w' := (w2.setCell ⟨w.heap.size, 1, none⟩ (.slice (some ⟨g2, 0, none⟩) n cap2)).setCells (w.heap.size + 1 + 1) 0 [.slice A1 s.nodes.length c1, .slice (some ⟨g2, 0, none⟩) n cap2, .slice A3 s.budgets.length c3])
      ((setCells_far _ _ _ _ _ (by omega)).trans (Below.heap_setCell w2 ⟨w.heap.size, 1, none⟩ _ _ (by show g2 ≠ w.heap.size; omega)))
    have hkl : (dropS s name).pods = keepL name s.pods := rfl
    have htk := hoth.cut n
    have hown := hbk3.own (base := w.heap.size) (n := n) htk (by rw [List.length_take]; omega) (by omega) hle HBK2.out.2
    refine ret_row1 (cs := [.slice A1 s.nodes.length c1, .slice (some ⟨g2, 0, none⟩) n cap2, .slice A3 s.budgets.length c3]) rfl rfl hset Tryz.underlying26 rfl (by kernel_rfl) rfl ⟨A1, c1, _, A3, c3, rfl, S1.out, S3.out, ⟨cur.take n, ?_, fun j x hx => ?_, ?_⟩, hbel⟩
    · rw [hkl, HN.out, List.length_take]; omega
    · rw [hkl] at hx
      obtain ⟨hj, rfl⟩ := List.getElem?_eq_some_iff.1 hx
      have hjn : j < n := by rw [← HN.out]; exact hj
      exact ⟨cur[j]'(by omega), by rw [List.getElem?_take, if_pos hjn, List.getElem?_eq_getElem (by omega)], HKK.out j hj (by omega)⟩
    · rw [hkl, HN.out]; exact hown
theorem Drop_calls (v : Value) (s : St) (name : ByteArray) (w : World) {M : List Nat} (hv : Kd.state.V (vw w M) v s) (hl : s.pods.length ≤ 1000) (hM : ∀ b ∈ M, b < w.heap.size := by simp) :
    Calls Tryz.prog 33 #[v, .string name] w (DropDone M s name w) := by
  refine (Drop_new v s name w hv hl).mono ?_
  rintro e w' ⟨A1, c1, v2, A3, c3, rfl, s1, s3, ho, hb⟩
  have hlk : (dropS s name).pods.length ≤ s.pods.length := List.length_filter_le _ _
  have hs := ho.S hb (Nat.le_refl _) hM (by omega)
  obtain ⟨A2, c2, rfl, hs⟩ := hs.val
  exact ⟨_, rfl, ⟨_, rfl, A1, c1, A2, c2, A3, c3, rfl, s1.mono (vw_below hb), hs, s3.mono (vw_below hb)⟩, hb⟩
end Go.Proofs.YtnmhicgbdalniaaGreatDoor
namespace Go.Proofs.YtnmhicgbdalniaaGreatDoor
open Go.RowKit Go.Sort

/-! One that comes into a row: what the copies do, in cells. -/
theorem flat_take {z : Nat} {css : List (List Value)} (hl : ∀ c ∈ css, c.length = z) {i : Nat} (hi : i ≤ css.length) : (css.take i).flatten = css.flatten.take (i * z) := by
  have h1 : (css.take i).flatten.length = i * z := by rw [flatten_len _ (fun c hc => hl c (List.mem_of_mem_take hc)), List.length_take]; congr 1; omega
  have h2 : css.flatten = (css.take i).flatten ++ (css.drop i).flatten := by rw [← List.flatten_append, List.take_append_drop]
  rw [h2, List.take_left' h1]
theorem flat_drop {z : Nat} {css : List (List Value)} (hl : ∀ c ∈ css, c.length = z) {i : Nat} (hi : i ≤ css.length) : (css.drop i).flatten = css.flatten.drop (i * z) := by
  have h1 : (css.take i).flatten.length = i * z := by rw [flatten_len _ (fun c hc => hl c (List.mem_of_mem_take hc)), List.length_take]; congr 1; omega
  have h2 : css.flatten = (css.take i).flatten ++ (css.drop i).flatten := by rw [← List.flatten_append, List.take_append_drop]
  rw [h2, List.drop_left' h1]
theorem Blk.ownF {w : World} {base g z n cap : Nat} {T : TypeId} {xs : List Value} (h : Blk w g T (cap * z)) (hl : xs.length = n * z) (hc : ∀ j u, xs[j]? = some u → w.cell? ⟨g, j, none⟩ = some u) (hb : base ≤ g) (h1 : n ≤ cap) (h2 : cap ≤ maxLen) : w.ownsRow base T z (.slice (some ⟨g, 0, none⟩) n cap) n xs := by
  obtain ⟨cur, k1, k2⟩ := h
  refine ⟨hl, .inr ⟨g, cap, cur, rfl, hb, k1, h1, h2, k2, ?_⟩⟩
  have hnc : n * z ≤ cap * z := Nat.mul_le_mul_right z h1
  refine List.ext_getElem? fun j => ?_
  rcases Nat.lt_or_ge j (n * z) with hj | hj
  · have h5 := hc j _ (List.getElem?_eq_getElem (by omega))
    rw [cell_of_row w g _ _ _ _ k1] at h5
    rw [List.getElem?_take, if_pos hj, List.getElem?_eq_getElem (by omega : j < xs.length), ← h5]
    simp
  · rw [List.getElem?_eq_none (by rw [List.length_take]; omega), List.getElem?_eq_none (by omega)]
theorem own_flat {w : World} {base g z n cap : Nat} {T : TypeId} {xs : List Value} (h : w.ownsRow base T z (.slice (some ⟨g, 0, none⟩) n cap) n xs) : Blk w g T (cap * z) ∧ base ≤ g ∧ n ≤ cap ∧ cap ≤ maxLen ∧ xs.length = n * z ∧ ∀ j u, xs[j]? = some u → w.cell? ⟨g, j, none⟩ = some u := by
  obtain ⟨h1, ⟨e1, -⟩ | ⟨g', cap', cur, e1, hb, hh, hnc, hcm, hs, ht⟩⟩ := h
  · cases e1
  · injection e1 with a1 a2 a3
    injection a1 with a1
    injection a1 with a1
    subst a1 a3
    refine ⟨⟨cur, hh, hs⟩, hb, hnc, hcm, h1, fun j u hu => ?_⟩
    have hj := (List.getElem?_eq_some_iff.1 hu).1
    rw [← ht, List.getElem?_take] at hu
    split at hu
    · rw [cell_of_row w g _ _ _ _ hh]
      simpa using hu
    · cases hu
theorem Blk.some {w : World} {g n : Nat} {T : TypeId} (h : Blk w g T n) {j : Nat} (hj : j < n) : (w.cell? ⟨g, j, none⟩).isSome = true := by
  obtain ⟨cur, h1, h2⟩ := h
  rw [cell_of_row w g _ _ _ _ h1, Array.getElem?_eq_getElem (by omega)]; rfl
theorem Blk.free {w : World} {g n : Nat} {T : TypeId} (h : Blk w g T n) (j : Nat) : w.frozen? ⟨g, j, none⟩ = false := by
  obtain ⟨cur, h1, h2⟩ := h
  simp [World.frozen?, h1]
/-- What lies in a row behind two copies: the end put on by one, then the new one put in; or the other way round. -/
theorem ins_cells {w : World} {g a m : Nat} {xs cx : List Value} {T : TypeId} {N : Nat} (hb : Blk w g T N) (ha : a ≤ xs.length) (hN : xs.length + cx.length ≤ N)
    (hc : ∀ j u, (xs.take a)[j]? = some u → w.cell? ⟨g, j, none⟩ = some u) (hm : m = a + cx.length) :
    (∀ j u, (xs.take a ++ cx ++ xs.drop a)[j]? = some u → ((w.setCells g m (xs.drop a)).setCells g a cx).cell? ⟨g, j, none⟩ = some u) ∧
    (∀ j u, (xs.take a ++ cx ++ xs.drop a)[j]? = some u → ((w.setCells g a cx).setCells g m (xs.drop a)).cell? ⟨g, j, none⟩ = some u) := by
  subst hm
  have hta : (xs.take a).length = a := by rw [List.length_take]; omega
  have hda : (xs.drop a).length = xs.length - a := List.length_drop
  have b1 : ∀ cs o, Blk (w.setCells g o cs) g T N := fun cs o => Blk.setCells g cs o hb
  have key : ∀ j u, (xs.take a ++ cx ++ xs.drop a)[j]? = some u → (j < a ∧ (xs.take a)[j]? = some u) ∨ (∃ i, ∃ h : i < cx.length, j = a + i ∧ u = cx[i]) ∨ ∃ i, ∃ h : i < (xs.drop a).length, j = a + cx.length + i ∧ u = (xs.drop a)[i] := fun j u hu => by
    rcases Nat.lt_or_ge j (a + cx.length) with h | h
    · rw [List.getElem?_append_left (by rw [List.length_append, hta]; exact h)] at hu
      rcases Nat.lt_or_ge j a with h2 | h2
      · rw [List.getElem?_append_left (by rw [hta]; exact h2)] at hu
        exact .inl ⟨h2, hu⟩
      · rw [List.getElem?_append_right (by rw [hta]; exact h2), hta] at hu
        obtain ⟨h3, h4⟩ := List.getElem?_eq_some_iff.1 hu
        exact .inr (.inl ⟨j - a, h3, by omega, h4.symm⟩)
    · rw [List.getElem?_append_right (by rw [List.length_append, hta]; exact h), List.length_append, hta] at hu
      obtain ⟨h3, h4⟩ := List.getElem?_eq_some_iff.1 hu
      exact .inr (.inr ⟨j - (a + cx.length), h3, by omega, h4.symm⟩)
  constructor
  · intro j u hu
    rcases key j u hu with ⟨h1, h2⟩ | ⟨i, h, rfl, rfl⟩ | ⟨i, h, rfl, rfl⟩
    · rw [World.cell?_setCells_out g cx a _ _ (fun _ _ => .inl h1), World.cell?_setCells_out g _ _ _ _ (fun _ _ => .inl (by show j < a + cx.length; omega))]
      exact hc j u h2
    · exact World.cell?_setCells_in g cx a _ (fun t ht => (b1 _ _).some (by omega)) i h
    · rw [World.cell?_setCells_out g cx a _ _ (fun _ _ => .inr (by show a + cx.length ≤ a + cx.length + i; omega))]
      exact World.cell?_setCells_in g _ _ w (fun t ht => hb.some (by omega)) i h
  · intro j u hu
    rcases key j u hu with ⟨h1, h2⟩ | ⟨i, h, rfl, rfl⟩ | ⟨i, h, rfl, rfl⟩
    · rw [World.cell?_setCells_out g _ _ _ _ (fun _ _ => .inl (by show j < a + cx.length; omega)), World.cell?_setCells_out g cx a _ _ (fun _ _ => .inl h1)]
      exact hc j u h2
    · rw [World.cell?_setCells_out g _ _ _ _ (fun _ _ => .inl (by show a + i < a + cx.length; omega))]
      exact World.cell?_setCells_in g cx a _ (fun t ht => hb.some (by omega)) i h
    · exact World.cell?_setCells_in g _ _ _ (fun t ht => (b1 _ _).some (by omega)) i h
/-- 'copy' of wide elements. -/
theorem run_copy_wide {P : Program} (w : World) (dT sT ty elem : TypeId) (z : Nat) (b o dLen dCap : Nat) (a : Addr) (sLen sCap : Nat) (cs : List Value)
    (hu : P.underlying dT = some (.slice elem)) (hs : (P.info? elem).map (·.size) = some z) (hn : cs.length = Nat.min sLen dLen * z)
    (hsrc : ∀ j v, cs[j]? = some v → w.cell? (a.add j) = some v) (hc : ∀ j, j < cs.length → (w.cell? ⟨b, o + j, none⟩).isSome = true) (hf : ∀ j, j < cs.length → w.frozen? ⟨b, o + j, none⟩ = false) (h1 : ∀ v ∈ cs, v.oneCell' = true) :
    (Builtin.copy_ #[dT, sT] ty #[.slice (some ⟨b, o, none⟩) dLen dCap, .slice (some a) sLen sCap]).run P w = .ok (goInt (Nat.min sLen dLen)) (w.setCells b o cs) := by
  have hl := run_loadCells_list (P := P) w a cs hsrc
  have hst := run_storeCells_cells (P := P) b o cs 0 w (by simpa using hc) (by simpa using hf) h1
  cases hq : P.info? elem with
  | none => simp [hq] at hs
  | some i =>
    have hi : i.size = z := by simpa [hq] using hs
    simp [Builtin.copy_, run_underlying hu, Builtin.lenOf, Builtin.firstCells, sizeOf, typeInfo, hq, hi, ← hn, hl, hst]
end Go.Proofs.YtnmhicgbdalniaaGreatDoor
namespace Go.Proofs.YtnmhicgbdalniaaGreatDoor
open Go.RowKit Go.Sort

/-! A piece of a row: its elements' cells lie there; append of a piece onto a row of the call's own. -/
namespace Kd
variable {α : Type}
def Piece (d : Kd α) (w0 : World) (M : List Nat) (w : World) (A : Option Addr) (m : Nat) (ys : List α) : Prop :=
  ys.length = m ∧ (A = none → m = 0) ∧ ∃ css : List (List Value), css.length = ys.length ∧ (∀ (j : Nat) (x : α), ys[j]? = some x → ∃ cs, css[j]? = some cs ∧ d.K (vw w0 M) x cs) ∧ ∀ ad, A = some ad → ∀ j u, css.flatten[j]? = some u → w.cell? (ad.add j) = some u
theorem Piece.below {d : Kd α} {w0 w w' : World} {M : List Nat} {A : Option Addr} {m : Nat} {ys : List α} (h : d.Piece w0 M w A m ys) (hb : Below w.heap.size w w') : d.Piece w0 M w' A m ys := by
  obtain ⟨h1, h2, css, h3, h4, h5⟩ := h
  exact ⟨h1, h2, css, h3, h4, fun ad had j u hu => keep_cell hb (h5 ad had j u hu)⟩
theorem Piece.nil (d : Kd α) (w0 : World) (M : List Nat) (w : World) (A : Option Addr) : d.Piece w0 M w A 0 [] := ⟨rfl, fun _ => rfl, [], rfl, fun j x h => by simp at h, fun ad _ j u hu => by simp at hu⟩
theorem Piece.len_lists {d : Kd α} {w0 : World} {M : List Nat} {ys : List α} {css : List (List Value)} (h1 : css.length = ys.length) (h2 : ∀ (j : Nat) (x : α), ys[j]? = some x → ∃ cs, css[j]? = some cs ∧ d.K (vw w0 M) x cs) : ∀ c ∈ css, c.length = d.sz := fun c hc => by
  obtain ⟨j, hj, rfl⟩ := List.getElem_of_mem hc
  obtain ⟨cs, a, b⟩ := h2 j ys[j] (List.getElem?_eq_getElem (by omega))
  rw [List.getElem?_eq_getElem hj] at a
  cases a
  exact d.len b
/-- The rows' form: nothing, or a block of the call's own with as much room as is told. -/
theorem Row0.form {d : Kd α} {w0 w : World} {M : List Nat} {base : Nat} {e : TypeId} {v : Value} {xs : List α} (h : d.Row0 w0 M w base e v xs) :
    (v = .slice none 0 0 ∧ xs = []) ∨ ∃ g cap css, v = .slice (some ⟨g, 0, none⟩) xs.length cap ∧ base ≤ g ∧ xs.length ≤ cap ∧ cap ≤ maxLen ∧ css.length = xs.length ∧ Rw w g d.sz css ∧ ∀ (j : Nat) (x : α), xs[j]? = some x → ∃ cs, css[j]? = some cs ∧ d.K (vw w0 M) x cs := by
  obtain ⟨css, h1, h2, h3⟩ := h
  rcases h3.2 with ⟨e1, e2⟩ | ⟨g, cap, cur, e1, hg, hh, hnc, hcm, hs, ht⟩
  · exact .inl ⟨e1, List.eq_nil_of_length_eq_zero e2⟩
  · refine .inr ⟨g, cap, css, e1, hg, hnc, hcm, h1, ?_, h2⟩
    have hlen := Piece.len_lists h1 h2
    refine ⟨blk_lt hh, hlen, fun t c hc j u hu => ?_, fun x => by simp [World.frozen?, hh]⟩
    have hj : j < d.sz := by have := (List.getElem?_eq_some_iff.1 hu).1; rw [hlen c (List.mem_of_getElem? hc)] at this; exact this
    have htl := (List.getElem?_eq_some_iff.1 hc).1
    have h4 := flatten_get css hlen t j c hc hj
    rw [hu, ← ht, List.getElem?_take, if_pos (by
      have := Nat.mul_le_mul_right d.sz (show t + 1 ≤ xs.length by omega)
      rw [Nat.add_mul] at this; omega)] at h4
    rw [cell_of_row w g _ _ _ _ hh]
    simpa using h4
theorem Rw_flat {w : World} {g z : Nat} {css : List (List Value)} (h : Rw w g z css) (hz : 0 < z) (k : Nat) : ∀ j u, (css.drop k).flatten[j]? = some u → w.cell? ⟨g, k * z + j, none⟩ = some u := fun j u hu => by
  have hlen : ∀ c ∈ css.drop k, c.length = z := fun c hc => h.len c (List.mem_of_mem_drop hc)
  have hjl := (List.getElem?_eq_some_iff.1 hu).1
  rw [flatten_len _ hlen, List.length_drop] at hjl
  have ht : j / z < css.length - k := Nat.div_lt_of_lt_mul (by rw [Nat.mul_comm]; exact hjl)
  have hmod := Nat.mod_lt j hz
  have hdm := Nat.div_add_mod j z
  obtain ⟨q, hq⟩ : ∃ q, j / z = q := ⟨_, rfl⟩
  obtain ⟨r, hr⟩ : ∃ r, j % z = r := ⟨_, rfl⟩
  rw [hq] at ht hdm
  rw [hr] at hmod hdm
  have hkq : k + q < css.length := by omega
  have hc : (css.drop k)[q]? = some css[k + q] := by rw [List.getElem?_drop, List.getElem?_eq_getElem hkq]
  have h4 := flatten_get _ hlen q r _ hc hmod
  rw [Nat.mul_comm, hdm, hu] at h4
  have := h.at_ (k + q) _ (List.getElem?_eq_getElem hkq) r u h4.symm
  rw [← this, Nat.add_mul, Nat.mul_comm q, Nat.add_assoc, hdm]
/-- A row's front. -/
theorem Piece.take {d : Kd α} {w0 w : World} {M : List Nat} {g : Nat} {css : List (List Value)} {xs : List α} (hz : 0 < d.sz) (hr : Rw w g d.sz css) (hl : css.length = xs.length) (hk : ∀ (j : Nat) (x : α), xs[j]? = some x → ∃ cs, css[j]? = some cs ∧ d.K (vw w0 M) x cs) {k : Nat} (hkl : k ≤ xs.length) :
    d.Piece w0 M w (some ⟨g, 0, none⟩) k (xs.take k) := by
  refine ⟨by rw [List.length_take]; omega, (fun e => by cases e), css.take k, by simp [hl], fun j x hx => ?_, fun ad had j u hu => ?_⟩
  · rw [List.getElem?_take] at hx ⊢
    split at hx
    · rename_i hj
      obtain ⟨cs, a, b⟩ := hk j x hx
      exact ⟨cs, by rw [if_pos hj]; exact a, b⟩
    · cases hx
  · cases had
    have := Rw_flat (hr.cut k) hz 0 j u (by simpa using hu)
    rw [Kd.addr_add]
    simpa using this
/-- A row's end. -/
theorem Piece.drop {d : Kd α} {w0 w : World} {M : List Nat} {g : Nat} {css : List (List Value)} {xs : List α} (hz : 0 < d.sz) (hr : Rw w g d.sz css) (hl : css.length = xs.length) (hk : ∀ (j : Nat) (x : α), xs[j]? = some x → ∃ cs, css[j]? = some cs ∧ d.K (vw w0 M) x cs) (k : Nat) {o : Nat} (ho : o = k * d.sz) :
    d.Piece w0 M w (some ⟨g, o, none⟩) (xs.length - k) (xs.drop k) := by
  subst ho
  refine ⟨by rw [List.length_drop], (fun e => by cases e), css.drop k, by simp [hl], fun j x hx => ?_, fun ad had j u hu => ?_⟩
  · rw [List.getElem?_drop] at hx ⊢
    exact hk _ x hx
  · cases had
    rw [Kd.addr_add]
    exact Rw_flat hr hz k j u hu
/-- One that lies in a block of its own. -/
theorem Piece.one {d : Kd α} {w0 w : World} {M : List Nat} {g : Nat} {T : TypeId} {x : α} {cs : List Value} (hg : w.heap[g]? = some (.cells cs.toArray T (0, 0))) (hk : d.K (vw w0 M) x cs) : d.Piece w0 M w (some ⟨g, 0, none⟩) 1 [x] :=
  ⟨rfl, (fun e => by cases e), [cs], rfl, fun j y hy => by
    obtain ⟨hj, rfl⟩ := List.getElem?_eq_some_iff.1 hy
    obtain rfl : j = 0 := by simpa using hj
    exact ⟨cs, rfl, hk⟩, fun ad had j u hu => by
    cases had
    have := World.news_of_block hg j u
    exact this (by simpa using hu)⟩
section
variable {d : Kd α} {P : Program} (w w0 : World) (M : List Nat) (base : Nat) (t e : TypeId) (i : TypeInfo) (z : Value) (bytes : Nat) (ht : P.underlying t = some (.slice e)) (hi : P.info? e = some i) (hz : i.zero = some z)
  (hsize : i.size = d.sz) (hby : i.bytes = bytes) (hzs : z.cells.size = d.sz) (hsz : 0 < d.sz) (v : Value) (xs : List α) (hown : d.Row0 w0 M w base e v xs) (A : Option Addr) (m c : Nat) (ys : List α) (hp : d.Piece w0 M w A m ys)
  (h1 : ∀ h x cs, d.K h x cs → ∀ u ∈ cs, u.oneCell' = true) (h63 : xs.length + m ≤ maxLen) (hbytes : (xs.length + m) * bytes ≤ 140737488355328) (hbase : base ≤ w.heap.size)
  {o : Oper} {a : Act} {Q : Exit → Act → World → Prop} (s y : Operand) (ho : o.op = .call { callee := .builtin .append, args := #[s, y], argTypes := #[t, t] }) (hs : a.eval s = v) (hx : a.eval y = .slice A m c)
include ht hi hz hsize hby hzs hsz hown hp h1 h63 hbytes hbase ho hs hx
end
theorem Row0.kept {d : Kd α} {w0 w w' : World} {M : List Nat} {base : Nat} {e : TypeId} {v : Value} {xs : List α} {row : Option Nat} (h : d.Row0 w0 M w base e v xs) (hg : w.grownBy w' row) (hn : v.ownBlock = none ∨ v.ownBlock ≠ row) : d.Row0 w0 M w' base e v xs := by
  obtain ⟨css, h1, h2, h3⟩ := h
  exact ⟨css, h1, h2, h3.kept hg hn⟩
theorem Row0.lt {d : Kd α} {w0 w : World} {M : List Nat} {base : Nat} {e : TypeId} {v : Value} {xs : List α} (h : d.Row0 w0 M w base e v xs) : ∀ q, v.ownBlock = some q → base ≤ q ∧ q < w.heap.size := by
  obtain ⟨css, h1, h2, h3⟩ := h
  exact h3.lt
theorem Row0.empty {d : Kd α} {w0 : World} {M : List Nat} (w : World) (e : TypeId) : d.Row0 w0 M (w.alloc (.cells #[] e)) w.heap.size e (.slice (some ⟨w.heap.size, 0, none⟩) 0 0) [] :=
  ⟨[], rfl, fun j x h => by simp at h, own_emptyN w e d.sz⟩
/-! 'append(append([]T{}, l[:k]...), x)': what holds as its operations come in any order. l0: the empty row is made; l4: the front is put on; l6: the block of one is made; l7: it is put on. -/
def InsJ (d : Kd α) (w0 : World) (M : List Nat) (w : World) (T : TypeId) (fr : List α) (x : α) (cx : List Value) (l0 l4 l6 l7 : Bool) (v0 v4 v6 v7 : Value) (W : World) : Prop :=
  Below w.heap.size w W ∧ (l4 = true → l0 = true) ∧ (l7 = true → l4 = true ∧ l6 = true) ∧
  (l0 = true → l4 = false → d.Row0 w0 M W w.heap.size T v0 []) ∧ (l4 = true → l7 = false → d.Row0 w0 M W w.heap.size T v4 fr) ∧
  (l6 = true → l7 = false → ∃ g, v6 = .slice (some ⟨g, 0, none⟩) 1 1 ∧ W.heap[g]? = some (.cells cx.toArray T (0, 0)) ∧ (l0 = true → l4 = false → v0.ownBlock ≠ some g)) ∧
  (l7 = true → d.Row0 w0 M W w.heap.size T v7 (fr ++ [x]))
section
variable {d : Kd α} {w0 : World} {M : List Nat} {w : World} {T : TypeId} {fr : List α} {x : α} {cx : List Value} {l0 l4 l6 l7 : Bool} {v0 v4 v6 v7 : Value} {W W' : World}
theorem InsJ.start (h : Below w.heap.size w W) : InsJ d w0 M w T fr x cx false false false false v0 v4 v6 v7 W :=
  ⟨h, (fun e => by cases e), (fun e => by cases e), (fun e => by cases e), (fun e => by cases e), (fun e => by cases e), (fun e => by cases e)⟩
theorem InsJ.alloc1 (h : InsJ d w0 M w T fr x cx l0 l4 false l7 v0 v4 v6 v7 W) : InsJ d w0 M w T fr x cx l0 l4 true l7 v0 v4 (.slice (some ⟨W.heap.size, 0, none⟩) 1 1) v7 (W.alloc (.cells cx.toArray T)) := by
  obtain ⟨h1, h2, h3, h4, h5, h6, h7⟩ := h
  have e7 : l7 = false := by cases l7 with | false => rfl | true => cases (h3 rfl).2
  subst e7
  refine ⟨Below.then h1 (alloc_below _ _), h2, (fun e => by cases e), fun e k => (h4 e k).below (alloc_below _ _), fun e k => (h5 e k).below (alloc_below _ _), fun _ _ => ⟨_, rfl, blk_last _ _, fun e k hv => ?_⟩, (fun e => by cases e)⟩
  have := ((h4 e k).lt _ hv).2
  omega
theorem InsJ.one (h : InsJ d w0 M w T fr x cx l0 l4 l6 false v0 v4 v6 v7 W) (k6 : l6 = true) : ∃ g, v6 = .slice (some ⟨g, 0, none⟩) 1 1 ∧ W.heap[g]? = some (.cells cx.toArray T (0, 0)) := by
  obtain ⟨g, k1, k2, -⟩ := h.2.2.2.2.2.1 k6 rfl
  exact ⟨g, k1, k2⟩
theorem InsJ.done (h : InsJ d w0 M w T fr x cx l0 l4 l6 true v0 v4 v6 v7 W) : Below w.heap.size w W ∧ d.Row0 w0 M W w.heap.size T v7 (fr ++ [x]) := ⟨h.1, h.2.2.2.2.2.2 rfl⟩
end
end Kd
end Go.Proofs.YtnmhicgbdalniaaGreatDoor
