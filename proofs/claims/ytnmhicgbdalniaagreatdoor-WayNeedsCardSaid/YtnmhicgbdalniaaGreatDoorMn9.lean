import Derived.Test.YtnmhicgbdalniaaGreatDoorMn5
import Derived.Test.YtnmhicgbdalniaaGreatDoorMn7
import Derived.Test.YtnmhicgbdalniaaGreatDoorMn8
namespace Go.Proofs.YtnmhicgbdalniaaGreatDoor
open Go.RowKit Go.Sort

/-! known of the ways' laws: the plain part. -/
def k15 : St := ⟨[ndN (tx [97]) 10, ndN (tx [98]) 10], [pdH 0 4 (tx [97]), pdH 1 5 (tx [97]), pdH 2 8 (tx [98]), pdP (tx [120]) 9 ⟨#[]⟩], []⟩
def w15 : Wy := ⟨tx [120], tx [98], [tx [104, 111, 108, 100, 50]]⟩
theorem wy_eq {a b : Wy} (h1 : a.pod = b.pod) (h2 : a.to_ = b.to_) (h3 : a.holds = b.holds) : a = b := by
  cases a; cases b; simp_all
theorem k15_for2 : (forW fitQ k15 (pdP (tx [120]) 9 ⟨#[]⟩)).2 = true := by decide +kernel
theorem k15_for1 : (forW fitQ k15 (pdP (tx [120]) 9 ⟨#[]⟩)).1 = w15 := wy_eq (by decide +kernel) (by decide +kernel) (by decide +kernel)
theorem k15_for : forW fitQ k15 (pdP (tx [120]) 9 ⟨#[]⟩) = (w15, true) := Prod.ext k15_for1 k15_for2
theorem k15_next : nextW fitQ k15 = (w15, true) := Prod.ext (wy_eq (by decide +kernel) (by decide +kernel) (by decide +kernel)) (by decide +kernel)
theorem k15_no : forW fitQ k15 (pdP (tx [121]) 11 ⟨#[]⟩) = (zWy, false) := Prod.ext (wy_eq (by decide +kernel) (by decide +kernel) (by decide +kernel)) (by decide +kernel)
theorem k15_hold : forW fitQ k15 (pdH 9 1 ⟨#[]⟩) = (zWy, false) := Prod.ext (wy_eq (by decide +kernel) (by decide +kernel) (by decide +kernel)) (by decide +kernel)
theorem k15_len : (doW k15 w15).pods.length = 3 := by decide +kernel
theorem k15_at : ∃ h : 2 < (doW k15 w15).pods.length, (doW k15 w15).pods[2].node = tx [98] := ⟨by rw [k15_len]; decide, by decide +kernel⟩
theorem k15_apart : Apart k15.pods := by unfold Apart k15; decide +kernel
end Go.Proofs.YtnmhicgbdalniaaGreatDoor
namespace Go.Proofs.YtnmhicgbdalniaaGreatDoor
open Go.RowKit Go.Sort

/-! Small laws for what the laws' own functions make. -/
theorem Kd.S.cells {α : Type} {d : Kd α} {h : View} {b : Nat} {T : TypeId} {css : List (List Value)} {xs : List α} (hb : h b = some (.cells css.flatten.toArray T (0, 0))) (hl : css.length = xs.length)
    (hk : ∀ (j : Nat) (x : α), xs[j]? = some x → ∃ cs, css[j]? = some cs ∧ d.K h x cs) (hx : xs.length ≤ 140737488351232) : d.S h (.slice (some ⟨b, 0, none⟩) xs.length xs.length) xs := by
  have hlen : ∀ c ∈ css, c.length = d.sz := fun c hc => by
    obtain ⟨j, hj, rfl⟩ := List.getElem_of_mem hc
    obtain ⟨cs, a, b⟩ := hk j xs[j] (List.getElem?_eq_getElem (by omega))
    rw [List.getElem?_eq_getElem hj] at a
    injection a with a
    rw [a]; exact d.len b
  refine ⟨_, _, rfl, Nat.le_refl _, hx, fun e => (by cases e), fun _ => ⟨b, 0, rfl, fun j x hj => ?_⟩⟩
  obtain ⟨cs, a, k⟩ := hk j x hj
  refine ⟨cs, k, fun i u hu => ?_⟩
  have hi : i < d.sz := by have := (List.getElem?_eq_some_iff.1 hu).1; rw [d.len k] at this; exact this
  have h4 := flatten_get css hlen j i cs a hi
  rw [hu] at h4
  simp [View.cell?, hb]
  simpa using h4
theorem sok_small {l : List UInt8} (h : l.length ≤ 50) : sok (tx l) := by
  show (tx l).size ≤ _
  have : (tx l).size = l.length := rfl
  omega
theorem strs_two {w : World} {b : Nat} {a c : ByteArray} {T : TypeId} (h : w.heap[b]? = some (.cells #[.string a, .string c] T (0, 0))) (ha : sok a := by (unfold sok; decide)) (hc : sok c := by (unfold sok; decide)) : Kd.str.S (vw w []) (.slice (some ⟨b, 0, none⟩) 2 2) [a, c] :=
  Kd.S.of_block (f := Value.string) (xs := [a, c]) h (by simp) (by simp) (fun x hx => by
    rcases List.mem_cons.1 hx with rfl | hx
    · exact ha
    · obtain rfl : x = c := by simpa using hx
      exact hc)
theorem Names_same (va vb : Value) (a : List ByteArray) (w : World) (ha : Kd.str.S (vw w []) va a) (hb : Kd.str.S (vw w []) vb a) : Calls Tryz.prog 54 #[va, vb] w (BoolDone true w) :=
  (Names_calls va vb a a w ha hb).mono fun _ _ h => ⟨h.1.trans (by simp), h.2⟩
theorem strs_single {w : World} {b : Nat} {a : ByteArray} {T : TypeId} (h : w.heap[b]? = some (.cells #[.string a] T (0, 0))) (ha : sok a) : Kd.str.S (vw w []) (.slice (some ⟨b, 0, none⟩) 1 1) [a] :=
  Kd.S.of_block (f := Value.string) (xs := [a]) h (by simp) (by simp) (fun x hx => by
    obtain rfl : x = a := by simpa using hx
    exact ha)
theorem list_of2 {α : Type} {l : List α} (h : l.length = 2) : ∃ x0 x1, l = [x0, x1] := by
  obtain _ | ⟨x0, l⟩ := l
  · simp at h
  obtain _ | ⟨x1, l⟩ := l
  · simp at h
  obtain rfl : l = [] := List.eq_nil_of_length_eq_zero (by simpa using h)
  exact ⟨x0, x1, rfl⟩
theorem list_of3 {α : Type} {l : List α} (h : l.length = 3) : ∃ x0 x1 x2, l = [x0, x1, x2] := by
  obtain _ | ⟨x0, l⟩ := l
  · simp at h
  obtain _ | ⟨x1, l⟩ := l
  · simp at h
  obtain _ | ⟨x2, l⟩ := l
  · simp at h
  obtain rfl : l = [] := List.eq_nil_of_length_eq_zero (by simpa using h)
  exact ⟨x0, x1, x2, rfl⟩
theorem list_of4 {α : Type} {l : List α} (h : l.length = 4) : ∃ x0 x1 x2 x3, l = [x0, x1, x2, x3] := by
  obtain _ | ⟨x0, l⟩ := l
  · simp at h
  obtain _ | ⟨x1, l⟩ := l
  · simp at h
  obtain _ | ⟨x2, l⟩ := l
  · simp at h
  obtain _ | ⟨x3, l⟩ := l
  · simp at h
  obtain rfl : l = [] := List.eq_nil_of_length_eq_zero (by simpa using h)
  exact ⟨x0, x1, x2, x3, rfl⟩
theorem list_of5 {α : Type} {l : List α} (h : l.length = 5) : ∃ x0 x1 x2 x3 x4, l = [x0, x1, x2, x3, x4] := by
  obtain _ | ⟨x0, l⟩ := l
  · simp at h
  obtain _ | ⟨x1, l⟩ := l
  · simp at h
  obtain _ | ⟨x2, l⟩ := l
  · simp at h
  obtain _ | ⟨x3, l⟩ := l
  · simp at h
  obtain _ | ⟨x4, l⟩ := l
  · simp at h
  obtain rfl : l = [] := List.eq_nil_of_length_eq_zero (by simpa using h)
  exact ⟨x0, x1, x2, x3, x4, rfl⟩
theorem list_of6 {α : Type} {l : List α} (h : l.length = 6) : ∃ x0 x1 x2 x3 x4 x5, l = [x0, x1, x2, x3, x4, x5] := by
  obtain _ | ⟨x0, l⟩ := l
  · simp at h
  obtain _ | ⟨x1, l⟩ := l
  · simp at h
  obtain _ | ⟨x2, l⟩ := l
  · simp at h
  obtain _ | ⟨x3, l⟩ := l
  · simp at h
  obtain _ | ⟨x4, l⟩ := l
  · simp at h
  obtain _ | ⟨x5, l⟩ := l
  · simp at h
  obtain rfl : l = [] := List.eq_nil_of_length_eq_zero (by simpa using h)
  exact ⟨x0, x1, x2, x3, x4, x5, rfl⟩
theorem list_of7 {α : Type} {l : List α} (h : l.length = 7) : ∃ x0 x1 x2 x3 x4 x5 x6, l = [x0, x1, x2, x3, x4, x5, x6] := by
  obtain _ | ⟨x0, l⟩ := l
  · simp at h
  obtain _ | ⟨x1, l⟩ := l
  · simp at h
  obtain _ | ⟨x2, l⟩ := l
  · simp at h
  obtain _ | ⟨x3, l⟩ := l
  · simp at h
  obtain _ | ⟨x4, l⟩ := l
  · simp at h
  obtain _ | ⟨x5, l⟩ := l
  · simp at h
  obtain _ | ⟨x6, l⟩ := l
  · simp at h
  obtain rfl : l = [] := List.eq_nil_of_length_eq_zero (by simpa using h)
  exact ⟨x0, x1, x2, x3, x4, x5, x6, rfl⟩
theorem list_of8 {α : Type} {l : List α} (h : l.length = 8) : ∃ x0 x1 x2 x3 x4 x5 x6 x7, l = [x0, x1, x2, x3, x4, x5, x6, x7] := by
  obtain _ | ⟨x0, l⟩ := l
  · simp at h
  obtain _ | ⟨x1, l⟩ := l
  · simp at h
  obtain _ | ⟨x2, l⟩ := l
  · simp at h
  obtain _ | ⟨x3, l⟩ := l
  · simp at h
  obtain _ | ⟨x4, l⟩ := l
  · simp at h
  obtain _ | ⟨x5, l⟩ := l
  · simp at h
  obtain _ | ⟨x6, l⟩ := l
  · simp at h
  obtain _ | ⟨x7, l⟩ := l
  · simp at h
  obtain rfl : l = [] := List.eq_nil_of_length_eq_zero (by simpa using h)
  exact ⟨x0, x1, x2, x3, x4, x5, x6, x7, rfl⟩
theorem list_of9 {α : Type} {l : List α} (h : l.length = 9) : ∃ x0 x1 x2 x3 x4 x5 x6 x7 x8, l = [x0, x1, x2, x3, x4, x5, x6, x7, x8] := by
  obtain _ | ⟨x0, l⟩ := l
  · simp at h
  obtain _ | ⟨x1, l⟩ := l
  · simp at h
  obtain _ | ⟨x2, l⟩ := l
  · simp at h
  obtain _ | ⟨x3, l⟩ := l
  · simp at h
  obtain _ | ⟨x4, l⟩ := l
  · simp at h
  obtain _ | ⟨x5, l⟩ := l
  · simp at h
  obtain _ | ⟨x6, l⟩ := l
  · simp at h
  obtain _ | ⟨x7, l⟩ := l
  · simp at h
  obtain _ | ⟨x8, l⟩ := l
  · simp at h
  obtain rfl : l = [] := List.eq_nil_of_length_eq_zero (by simpa using h)
  exact ⟨x0, x1, x2, x3, x4, x5, x6, x7, x8, rfl⟩
theorem list_of10 {α : Type} {l : List α} (h : l.length = 10) : ∃ x0 x1 x2 x3 x4 x5 x6 x7 x8 x9, l = [x0, x1, x2, x3, x4, x5, x6, x7, x8, x9] := by
  obtain _ | ⟨x0, l⟩ := l
  · simp at h
  obtain _ | ⟨x1, l⟩ := l
  · simp at h
  obtain _ | ⟨x2, l⟩ := l
  · simp at h
  obtain _ | ⟨x3, l⟩ := l
  · simp at h
  obtain _ | ⟨x4, l⟩ := l
  · simp at h
  obtain _ | ⟨x5, l⟩ := l
  · simp at h
  obtain _ | ⟨x6, l⟩ := l
  · simp at h
  obtain _ | ⟨x7, l⟩ := l
  · simp at h
  obtain _ | ⟨x8, l⟩ := l
  · simp at h
  obtain _ | ⟨x9, l⟩ := l
  · simp at h
  obtain rfl : l = [] := List.eq_nil_of_length_eq_zero (by simpa using h)
  exact ⟨x0, x1, x2, x3, x4, x5, x6, x7, x8, x9, rfl⟩
theorem list_of11 {α : Type} {l : List α} (h : l.length = 11) : ∃ x0 x1 x2 x3 x4 x5 x6 x7 x8 x9 x10, l = [x0, x1, x2, x3, x4, x5, x6, x7, x8, x9, x10] := by
  obtain _ | ⟨x0, l⟩ := l
  · simp at h
  obtain _ | ⟨x1, l⟩ := l
  · simp at h
  obtain _ | ⟨x2, l⟩ := l
  · simp at h
  obtain _ | ⟨x3, l⟩ := l
  · simp at h
  obtain _ | ⟨x4, l⟩ := l
  · simp at h
  obtain _ | ⟨x5, l⟩ := l
  · simp at h
  obtain _ | ⟨x6, l⟩ := l
  · simp at h
  obtain _ | ⟨x7, l⟩ := l
  · simp at h
  obtain _ | ⟨x8, l⟩ := l
  · simp at h
  obtain _ | ⟨x9, l⟩ := l
  · simp at h
  obtain _ | ⟨x10, l⟩ := l
  · simp at h
  obtain rfl : l = [] := List.eq_nil_of_length_eq_zero (by simpa using h)
  exact ⟨x0, x1, x2, x3, x4, x5, x6, x7, x8, x9, x10, rfl⟩
theorem list_of12 {α : Type} {l : List α} (h : l.length = 12) : ∃ x0 x1 x2 x3 x4 x5 x6 x7 x8 x9 x10 x11, l = [x0, x1, x2, x3, x4, x5, x6, x7, x8, x9, x10, x11] := by
  obtain _ | ⟨x0, l⟩ := l
  · simp at h
  obtain _ | ⟨x1, l⟩ := l
  · simp at h
  obtain _ | ⟨x2, l⟩ := l
  · simp at h
  obtain _ | ⟨x3, l⟩ := l
  · simp at h
  obtain _ | ⟨x4, l⟩ := l
  · simp at h
  obtain _ | ⟨x5, l⟩ := l
  · simp at h
  obtain _ | ⟨x6, l⟩ := l
  · simp at h
  obtain _ | ⟨x7, l⟩ := l
  · simp at h
  obtain _ | ⟨x8, l⟩ := l
  · simp at h
  obtain _ | ⟨x9, l⟩ := l
  · simp at h
  obtain _ | ⟨x10, l⟩ := l
  · simp at h
  obtain _ | ⟨x11, l⟩ := l
  · simp at h
  obtain rfl : l = [] := List.eq_nil_of_length_eq_zero (by simpa using h)
  exact ⟨x0, x1, x2, x3, x4, x5, x6, x7, x8, x9, x10, x11, rfl⟩
end Go.Proofs.YtnmhicgbdalniaaGreatDoor
namespace Go.Proofs.YtnmhicgbdalniaaGreatDoor
open Go.RowKit Go.Sort

structure K15 (ss ps : Nat) (sc pc : Array Value) (cx : List Value) (W : World) : Prop where
  qs : W.heap[ss]? = some (.cells sc 26 (0, 0))
  qp : W.heap[ps]? = some (.cells pc 35 (0, 0))
  hv : Kd.state.V (vw W []) (.agg sc) k15
  hx : Kd.pod.V (vw W []) (.agg cx.toArray) (pdP (tx [120]) 9 ⟨#[]⟩)
theorem K15.below {ss ps : Nat} {sc pc : Array Value} {cx : List Value} {W W' : World} (h : K15 ss ps sc pc cx W) (hb : Below W.heap.size W W') : K15 ss ps sc pc cx W' :=
  ⟨(hb.block _ (blk_lt h.qs)).trans h.qs, (hb.block _ (blk_lt h.qp)).trans h.qp, h.hv.mono (vw_below hb), h.hx.mono (vw_below hb)⟩
set_option maxHeartbeats 16000000 in
set_option maxRecDepth 100000 in
theorem known_calls (w : World) : Calls Tryz.prog 15 #[] w (BoolDone true w) := by
  go_enter Tryz.func15, Tryz.ntmps15
  go_wp2_with fail
  refine (N_calls (tx [97]) 10 _ (sok_small (by decide)) ⟨by decide, by decide⟩).mono ?_
  rintro e w1 ⟨cs, rfl, hk, hb⟩
  have HB1 := Lib.hid (hb)
  have HKF := Lib.hid (Kd.node.mono (nx_vw (M := []) (by simp)) hk)
  obtain ⟨F1, F1', F2, F2', F3, F3', rfl, -⟩ := hk
  change Hid (Kd.node.K _ _ [.string (tx [97]), .slice F1 1 F1', .slice F2 0 F2', .slice F3 0 F3', .bool false]) at HKF
  clear hb
  go_wp2_with fail
  refine (N_calls (tx [98]) 10 _ (sok_small (by decide)) ⟨by decide, by decide⟩).mono ?_
  rintro e w2 ⟨cs, rfl, hk, hb⟩
  have HB2 := Lib.hid (Below.then HB1.out hb)
  replace HKF := Lib.hid (Kd.node.mono (vw_below hb) HKF.out)
  have HKG := Lib.hid (Kd.node.mono (nx_vw (M := []) (by simp)) hk)
  obtain ⟨G1, G1', G2, G2', G3, G3', rfl, -⟩ := hk
  change Hid (Kd.node.K _ _ [.string (tx [98]), .slice G1 1 G1', .slice G2 0 G2', .slice G3 0 G3', .bool false]) at HKG
  clear hb HB1
  go_wp2_with fail
  refine (Held_calls 0 4 (tx [97]) _ (by omega) ⟨by decide, by decide⟩ (sok_small (by decide))).mono ?_
  rintro e w3 ⟨cs, rfl, hk, hb⟩
  have HB3 := Lib.hid (Below.then (alloc_then HB2.out _) hb)
  have HN := Lib.hid ((hb.block w2.heap.size (by simp)).trans (blk_last w2 _))
  replace HKF := Lib.hid (Kd.node.mono (vw_below (Below.then (alloc_below _ _) hb)) HKF.out)
  replace HKG := Lib.hid (Kd.node.mono (vw_below (Below.then (alloc_below _ _) hb)) HKG.out)
  have HKB := Lib.hid (Kd.pod.mono (nx_vw (M := []) (by simp)) hk)
  obtain ⟨B1, B1', B2, B2', B3, B3', B4, B4', rfl, -⟩ := hk
  change Hid (Kd.pod.K _ _ [.string (hnm 0), .string ⟨#[]⟩, .int .i64 (-1), .slice B1 1 B1', .slice B2 0 B2', .slice B3 0 B3', .slice B4 0 B4', .string ⟨#[]⟩, .int .i64 0, .string (tx [97]), .bool true]) at HKB
  clear hb HB2
  go_wp2_with fail
  refine (Held_calls 1 5 (tx [97]) _ (by omega) ⟨by decide, by decide⟩ (sok_small (by decide))).mono ?_
  rintro e w4 ⟨cs, rfl, hk, hb⟩
  have HB4 := Lib.hid (Below.then HB3.out hb)
  replace HN := Lib.hid ((hb.block _ (blk_lt HN.out)).trans HN.out)
  replace HKF := Lib.hid (Kd.node.mono (vw_below hb) HKF.out)
  replace HKG := Lib.hid (Kd.node.mono (vw_below hb) HKG.out)
  replace HKB := Lib.hid (Kd.pod.mono (vw_below hb) HKB.out)
  have HKC := Lib.hid (Kd.pod.mono (nx_vw (M := []) (by simp)) hk)
  obtain ⟨C1, C1', C2, C2', C3, C3', C4, C4', rfl, -⟩ := hk
  change Hid (Kd.pod.K _ _ [.string (hnm 1), .string ⟨#[]⟩, .int .i64 (-1), .slice C1 1 C1', .slice C2 0 C2', .slice C3 0 C3', .slice C4 0 C4', .string ⟨#[]⟩, .int .i64 0, .string (tx [97]), .bool true]) at HKC
  clear hb HB3
  go_wp2_with fail
  refine (Held_calls 2 8 (tx [98]) _ (by omega) ⟨by decide, by decide⟩ (sok_small (by decide))).mono ?_
  rintro e w5 ⟨cs, rfl, hk, hb⟩
  have HB5 := Lib.hid (Below.then HB4.out hb)
  replace HN := Lib.hid ((hb.block _ (blk_lt HN.out)).trans HN.out)
  replace HKF := Lib.hid (Kd.node.mono (vw_below hb) HKF.out)
  replace HKG := Lib.hid (Kd.node.mono (vw_below hb) HKG.out)
  replace HKB := Lib.hid (Kd.pod.mono (vw_below hb) HKB.out)
  replace HKC := Lib.hid (Kd.pod.mono (vw_below hb) HKC.out)
  have HKD := Lib.hid (Kd.pod.mono (nx_vw (M := []) (by simp)) hk)
  obtain ⟨D1, D1', D2, D2', D3, D3', D4, D4', rfl, -⟩ := hk
  change Hid (Kd.pod.K _ _ [.string (hnm 2), .string ⟨#[]⟩, .int .i64 (-1), .slice D1 1 D1', .slice D2 0 D2', .slice D3 0 D3', .slice D4 0 D4', .string ⟨#[]⟩, .int .i64 0, .string (tx [98]), .bool true]) at HKD
  clear hb HB4
  go_wp2_with fail
  refine (P_calls (tx [120]) 9 ⟨#[]⟩ _ (sok_small (by decide)) ⟨by decide, by decide⟩ sok_none).mono ?_
  rintro e w6 ⟨cs, rfl, hk, hb⟩
  have HB6 := Lib.hid (Below.then HB5.out hb)
  replace HN := Lib.hid ((hb.block _ (blk_lt HN.out)).trans HN.out)
  replace HKF := Lib.hid (Kd.node.mono (vw_below hb) HKF.out)
  replace HKG := Lib.hid (Kd.node.mono (vw_below hb) HKG.out)
  replace HKB := Lib.hid (Kd.pod.mono (vw_below hb) HKB.out)
  replace HKC := Lib.hid (Kd.pod.mono (vw_below hb) HKC.out)
  replace HKD := Lib.hid (Kd.pod.mono (vw_below hb) HKD.out)
  have HKE := Lib.hid (Kd.pod.mono (nx_vw (M := []) (by simp)) hk)
  obtain ⟨E1, E1', E2, E2', E3, E3', E4, E4', rfl, -⟩ := hk
  change Hid (Kd.pod.K _ _ [.string (tx [120]), .string ⟨#[]⟩, .int .i64 0, .slice E1 1 E1', .slice E2 0 E2', .slice E3 0 E3', .slice E4 0 E4', .string ⟨#[]⟩, .int .i64 0, .string ⟨#[]⟩, .bool false]) at HKE
  clear hb HB5
  go_upto_region 2 with fail
  obtain ⟨U, hU, hbU, qp, qs, hUs⟩ := al2 w6 (.cells #[.string (hnm 0), .string ⟨#[]⟩, .int .i64 (-1), .slice B1 1 B1', .slice B2 0 B2', .slice B3 0 B3', .slice B4 0 B4', .string ⟨#[]⟩, .int .i64 0, .string (tx [97]), .bool true, .string (hnm 1), .string ⟨#[]⟩, .int .i64 (-1), .slice C1 1 C1', .slice C2 0 C2', .slice C3 0 C3', .slice C4 0 C4', .string ⟨#[]⟩, .int .i64 0, .string (tx [97]), .bool true, .string (hnm 2), .string ⟨#[]⟩, .int .i64 (-1), .slice D1 1 D1', .slice D2 0 D2', .slice D3 0 D3', .slice D4 0 D4', .string ⟨#[]⟩, .int .i64 0, .string (tx [98]), .bool true, .string (tx [120]), .string ⟨#[]⟩, .int .i64 0, .slice E1 1 E1', .slice E2 0 E2', .slice E3 0 E3', .slice E4 0 E4', .string ⟨#[]⟩, .int .i64 0, .string ⟨#[]⟩, .bool false] 35) (.cells #[.slice (some ⟨w2.heap.size, 0, none⟩) 2 2, .slice (some ⟨w6.heap.size, 0, none⟩) 4 4, .slice none 0 0] 26)
  change Code.wp _ _ _ _ ((w6.alloc (.cells #[.string (hnm 0), .string ⟨#[]⟩, .int .i64 (-1), .slice B1 1 B1', .slice B2 0 B2', .slice B3 0 B3', .slice B4 0 B4', .string ⟨#[]⟩, .int .i64 0, .string (tx [97]), .bool true, .string (hnm 1), .string ⟨#[]⟩, .int .i64 (-1), .slice C1 1 C1', .slice C2 0 C2', .slice C3 0 C3', .slice C4 0 C4', .string ⟨#[]⟩, .int .i64 0, .string (tx [97]), .bool true, .string (hnm 2), .string ⟨#[]⟩, .int .i64 (-1), .slice D1 1 D1', .slice D2 0 D2', .slice D3 0 D3', .slice D4 0 D4', .string ⟨#[]⟩, .int .i64 0, .string (tx [98]), .bool true, .string (tx [120]), .string ⟨#[]⟩, .int .i64 0, .slice E1 1 E1', .slice E2 0 E2', .slice E3 0 E3', .slice E4 0 E4', .string ⟨#[]⟩, .int .i64 0, .string ⟨#[]⟩, .bool false] 35)).alloc (.cells #[.slice (some ⟨w2.heap.size, 0, none⟩) 2 2, .slice (some ⟨w6.heap.size, 0, none⟩) 4 4, .slice none 0 0] 26))
  rw [← hU]
  have qn := (hbU.block _ (blk_lt HN.out)).trans HN.out
  have hv : Kd.state.V (vw U []) (.agg #[.slice (some ⟨w2.heap.size, 0, none⟩) 2 2, .slice (some ⟨w6.heap.size, 0, none⟩) 4 4, .slice none 0 0]) k15 := by
    refine ⟨_, rfl, _, _, _, _, _, _, rfl, ?_, ?_, Kd.S.nil _ _⟩
    · refine Kd.S.cells (d := Kd.node) (css := [[.string (tx [97]), .slice F1 1 F1', .slice F2 0 F2', .slice F3 0 F3', .bool false], [.string (tx [98]), .slice G1 1 G1', .slice G2 0 G2', .slice G3 0 G3', .bool false]]) (vw_mk (by simp) qn) rfl (fun j x hj => ?_) (by decide)
      rcases j with _ | _ | j
      · cases hj; exact ⟨_, rfl, Kd.node.mono (vw_below hbU) HKF.out⟩
      · cases hj; exact ⟨_, rfl, Kd.node.mono (vw_below hbU) HKG.out⟩
      · simp [k15] at hj
    · refine Kd.S.cells (d := Kd.pod) (css := [[.string (hnm 0), .string ⟨#[]⟩, .int .i64 (-1), .slice B1 1 B1', .slice B2 0 B2', .slice B3 0 B3', .slice B4 0 B4', .string ⟨#[]⟩, .int .i64 0, .string (tx [97]), .bool true], [.string (hnm 1), .string ⟨#[]⟩, .int .i64 (-1), .slice C1 1 C1', .slice C2 0 C2', .slice C3 0 C3', .slice C4 0 C4', .string ⟨#[]⟩, .int .i64 0, .string (tx [97]), .bool true], [.string (hnm 2), .string ⟨#[]⟩, .int .i64 (-1), .slice D1 1 D1', .slice D2 0 D2', .slice D3 0 D3', .slice D4 0 D4', .string ⟨#[]⟩, .int .i64 0, .string (tx [98]), .bool true], [.string (tx [120]), .string ⟨#[]⟩, .int .i64 0, .slice E1 1 E1', .slice E2 0 E2', .slice E3 0 E3', .slice E4 0 E4', .string ⟨#[]⟩, .int .i64 0, .string ⟨#[]⟩, .bool false]]) (vw_mk (by simp) qp) rfl (fun j x hj => ?_) (by decide)
      rcases j with _ | _ | _ | _ | j
      · cases hj; exact ⟨_, rfl, Kd.pod.mono (vw_below hbU) HKB.out⟩
      · cases hj; exact ⟨_, rfl, Kd.pod.mono (vw_below hbU) HKC.out⟩
      · cases hj; exact ⟨_, rfl, Kd.pod.mono (vw_below hbU) HKD.out⟩
      · cases hj; exact ⟨_, rfl, Kd.pod.mono (vw_below hbU) HKE.out⟩
      · simp [k15] at hj
  have HK : Hid (K15 (w6.heap.size + 1) w6.heap.size #[.slice (some ⟨w2.heap.size, 0, none⟩) 2 2, .slice (some ⟨w6.heap.size, 0, none⟩) 4 4, .slice none 0 0] #[.string (hnm 0), .string ⟨#[]⟩, .int .i64 (-1), .slice B1 1 B1', .slice B2 0 B2', .slice B3 0 B3', .slice B4 0 B4', .string ⟨#[]⟩, .int .i64 0, .string (tx [97]), .bool true, .string (hnm 1), .string ⟨#[]⟩, .int .i64 (-1), .slice C1 1 C1', .slice C2 0 C2', .slice C3 0 C3', .slice C4 0 C4', .string ⟨#[]⟩, .int .i64 0, .string (tx [97]), .bool true, .string (hnm 2), .string ⟨#[]⟩, .int .i64 (-1), .slice D1 1 D1', .slice D2 0 D2', .slice D3 0 D3', .slice D4 0 D4', .string ⟨#[]⟩, .int .i64 0, .string (tx [98]), .bool true, .string (tx [120]), .string ⟨#[]⟩, .int .i64 0, .slice E1 1 E1', .slice E2 0 E2', .slice E3 0 E3', .slice E4 0 E4', .string ⟨#[]⟩, .int .i64 0, .string ⟨#[]⟩, .bool false] [.string (tx [120]), .string ⟨#[]⟩, .int .i64 0, .slice E1 1 E1', .slice E2 0 E2', .slice E3 0 E3', .slice E4 0 E4', .string ⟨#[]⟩, .int .i64 0, .string ⟨#[]⟩, .bool false] U) := ⟨qs, qp, hv, ⟨_, rfl, Kd.pod.mono (vw_below hbU) HKE.out⟩⟩
  have HB := Lib.hid (Below.then HB6.out hbU)
  clear hU hbU qs qp qn hv HB6 HN HKB HKC HKD HKE HKF HKG
  refine wp_region_slots [21, 22, 23, 24, 25, 26, 20, 27, 28, 2, 3] (fun L vs W' => ∃ (s21 s22 s23 s24 s25 s26 s20 s27 s28 s2 s3 v u : Value), vs = [s21, s22, s23, s24, s25, s26, s20, s27, s28, s2, s3] ∧ (L 0 = true → s21 = .agg #[.slice (some ⟨w2.heap.size, 0, none⟩) 2 2, .slice (some ⟨w6.heap.size, 0, none⟩) 4 4, .slice none 0 0]) ∧ (L 1 = true → s22 = .pointer (some ⟨w6.heap.size + 1, 1, none⟩)) ∧ (L 2 = true → s23 = .slice (some ⟨w6.heap.size, 0, none⟩) 4 4) ∧ (L 3 = true → s24 = .pointer (some ⟨w6.heap.size, 33, none⟩)) ∧ (L 4 = true → s25 = .agg #[.string (tx [120]), .string ⟨#[]⟩, .int .i64 0, .slice E1 1 E1', .slice E2 0 E2', .slice E3 0 E3', .slice E4 0 E4', .string ⟨#[]⟩, .int .i64 0, .string ⟨#[]⟩, .bool false]) ∧ (L 5 = true → s26 = .tuple #[v, .bool true]) ∧ (L 6 = true → L 5 = true ∧ s20 = .tuple #[v, .bool true]) ∧ (L 7 = true → L 5 = true ∧ s27 = v) ∧ (L 8 = true → s28 = .bool true) ∧ (L 11 = true → s3 = .bool true) ∧ (L 10 = true → L 5 = true ∧ L 9 = true) ∧ PairJ Kd.way w15 55 Kd.unit () 55 U (L 5) false (L 9) false (L 10) false v u s2 undef W') (by kernel_rfl) (by kernel_rfl) ?start (And.intro ?o0 (And.intro ?o1 (And.intro ?o2 (And.intro ?o3 (And.intro ?o4 (And.intro ?o5 (And.intro ?o6 (And.intro ?o7 (And.intro ?o8 (And.intro ?o9 (And.intro ?o10 (And.intro ?o11 trivial)))))))))))) ?rest
  case start =>
    intro L vs hL hlen
    obtain ⟨s21, s22, s23, s24, s25, s26, s20, s27, s28, s2, s3, rfl⟩ := list_of11 hlen
    have h0 := hL 0 (by simp)
    have h1 := hL 1 (by simp)
    have h2 := hL 2 (by simp)
    have h3 := hL 3 (by simp)
    have h4 := hL 4 (by simp)
    have h5 := hL 5 (by simp)
    have h6 := hL 6 (by simp)
    have h7 := hL 7 (by simp)
    have h8 := hL 8 (by simp)
    have h9 := hL 9 (by simp)
    have h10 := hL 10 (by simp)
    have h11 := hL 11 (by simp)
    refine ⟨s21, s22, s23, s24, s25, s26, s20, s27, s28, s2, s3, undef, undef, rfl, (fun h => by rw [h0] at h; cases h), (fun h => by rw [h1] at h; cases h), (fun h => by rw [h2] at h; cases h), (fun h => by rw [h3] at h; cases h), (fun h => by rw [h4] at h; cases h), (fun h => by rw [h5] at h; cases h), (fun h => by rw [h6] at h; cases h), (fun h => by rw [h7] at h; cases h), (fun h => by rw [h8] at h; cases h), (fun h => by rw [h11] at h; cases h), (fun h => by rw [h10] at h; cases h), ?_⟩
    rw [h5, h9, h10]; exact PairJ.start (drew_below _)
  case o0 =>
    rintro L a' W' K ⟨vs, rfl, s21, s22, s23, s24, s25, s26, s20, s27, s28, s2, s3, v, u, rfl, f0, f1, f2, f3, f4, f5, f6, f7, f8, f11, dS, hJ⟩ hL hd hK
    simp only [putAll, Act.put, List.setIfInBounds_toArray, List.set_cons_zero, List.set_cons_succ]
    have zz : ∀ j, W'.cell? ⟨w6.heap.size + 1, j, none⟩ = #[.slice (some ⟨w2.heap.size, 0, none⟩) 2 2, .slice (some ⟨w6.heap.size, 0, none⟩) 4 4, .slice none 0 0][j]? := fun j => (hJ.bel.cell (p := ⟨w6.heap.size + 1, j, none⟩) (blk_lt HK.out.qs)).trans ((blk_all HK.out.qs).1 j)
    go_simp
    exact hK _ _ ⟨[.agg #[.slice (some ⟨w2.heap.size, 0, none⟩) 2 2, .slice (some ⟨w6.heap.size, 0, none⟩) 4 4, .slice none 0 0], s22, s23, s24, s25, s26, s20, s27, s28, s2, s3], (by simp only [putAll, Act.put, List.setIfInBounds_toArray, List.set_cons_zero, List.set_cons_succ]), .agg #[.slice (some ⟨w2.heap.size, 0, none⟩) 2 2, .slice (some ⟨w6.heap.size, 0, none⟩) 4 4, .slice none 0 0], s22, s23, s24, s25, s26, s20, s27, s28, s2, s3, v, u, rfl, (fun _ => rfl), f1, f2, f3, f4, f5, f6, f7, f8, f11, dS, hJ⟩
  case o1 =>
    rintro L a' W' K ⟨vs, rfl, s21, s22, s23, s24, s25, s26, s20, s27, s28, s2, s3, v, u, rfl, f0, f1, f2, f3, f4, f5, f6, f7, f8, f11, dS, hJ⟩ hL hd hK
    simp only [putAll, Act.put, List.setIfInBounds_toArray, List.set_cons_zero, List.set_cons_succ]
    go_simp
    exact hK _ _ ⟨[s21, .pointer (some ⟨w6.heap.size + 1, 1, none⟩), s23, s24, s25, s26, s20, s27, s28, s2, s3], (by simp only [putAll, Act.put, List.setIfInBounds_toArray, List.set_cons_zero, List.set_cons_succ]), s21, .pointer (some ⟨w6.heap.size + 1, 1, none⟩), s23, s24, s25, s26, s20, s27, s28, s2, s3, v, u, rfl, f0, (fun _ => rfl), f2, f3, f4, f5, f6, f7, f8, f11, dS, hJ⟩
  case o2 =>
    rintro L a' W' K ⟨vs, rfl, s21, s22, s23, s24, s25, s26, s20, s27, s28, s2, s3, v, u, rfl, f0, f1, f2, f3, f4, f5, f6, f7, f8, f11, dS, hJ⟩ hL hd hK
    simp only [putAll, Act.put, List.setIfInBounds_toArray, List.set_cons_zero, List.set_cons_succ]
    obtain rfl := f1 (hd 1 (by decide))
    have zz : ∀ j, W'.cell? ⟨w6.heap.size + 1, j, none⟩ = #[.slice (some ⟨w2.heap.size, 0, none⟩) 2 2, .slice (some ⟨w6.heap.size, 0, none⟩) 4 4, .slice none 0 0][j]? := fun j => (hJ.bel.cell (p := ⟨w6.heap.size + 1, j, none⟩) (blk_lt HK.out.qs)).trans ((blk_all HK.out.qs).1 j)
    go_simp
    exact hK _ _ ⟨[s21, .pointer (some ⟨w6.heap.size + 1, 1, none⟩), .slice (some ⟨w6.heap.size, 0, none⟩) 4 4, s24, s25, s26, s20, s27, s28, s2, s3], (by simp only [putAll, Act.put, List.setIfInBounds_toArray, List.set_cons_zero, List.set_cons_succ]), s21, .pointer (some ⟨w6.heap.size + 1, 1, none⟩), .slice (some ⟨w6.heap.size, 0, none⟩) 4 4, s24, s25, s26, s20, s27, s28, s2, s3, v, u, rfl, f0, f1, (fun _ => rfl), f3, f4, f5, f6, f7, f8, f11, dS, hJ⟩
  case o3 =>
    rintro L a' W' K ⟨vs, rfl, s21, s22, s23, s24, s25, s26, s20, s27, s28, s2, s3, v, u, rfl, f0, f1, f2, f3, f4, f5, f6, f7, f8, f11, dS, hJ⟩ hL hd hK
    simp only [putAll, Act.put, List.setIfInBounds_toArray, List.set_cons_zero, List.set_cons_succ]
    obtain rfl := f2 (hd 2 (by decide))
    go_simp
    exact hK _ _ ⟨[s21, s22, .slice (some ⟨w6.heap.size, 0, none⟩) 4 4, .pointer (some ⟨w6.heap.size, 33, none⟩), s25, s26, s20, s27, s28, s2, s3], (by simp only [putAll, Act.put, List.setIfInBounds_toArray, List.set_cons_zero, List.set_cons_succ]), s21, s22, .slice (some ⟨w6.heap.size, 0, none⟩) 4 4, .pointer (some ⟨w6.heap.size, 33, none⟩), s25, s26, s20, s27, s28, s2, s3, v, u, rfl, f0, f1, f2, (fun _ => rfl), f4, f5, f6, f7, f8, f11, dS, hJ⟩
  case o4 =>
    rintro L a' W' K ⟨vs, rfl, s21, s22, s23, s24, s25, s26, s20, s27, s28, s2, s3, v, u, rfl, f0, f1, f2, f3, f4, f5, f6, f7, f8, f11, dS, hJ⟩ hL hd hK
    simp only [putAll, Act.put, List.setIfInBounds_toArray, List.set_cons_zero, List.set_cons_succ]
    obtain rfl := f3 (hd 3 (by decide))
    have zz : ∀ j, W'.cell? ⟨w6.heap.size, j, none⟩ = #[.string (hnm 0), .string ⟨#[]⟩, .int .i64 (-1), .slice B1 1 B1', .slice B2 0 B2', .slice B3 0 B3', .slice B4 0 B4', .string ⟨#[]⟩, .int .i64 0, .string (tx [97]), .bool true, .string (hnm 1), .string ⟨#[]⟩, .int .i64 (-1), .slice C1 1 C1', .slice C2 0 C2', .slice C3 0 C3', .slice C4 0 C4', .string ⟨#[]⟩, .int .i64 0, .string (tx [97]), .bool true, .string (hnm 2), .string ⟨#[]⟩, .int .i64 (-1), .slice D1 1 D1', .slice D2 0 D2', .slice D3 0 D3', .slice D4 0 D4', .string ⟨#[]⟩, .int .i64 0, .string (tx [98]), .bool true, .string (tx [120]), .string ⟨#[]⟩, .int .i64 0, .slice E1 1 E1', .slice E2 0 E2', .slice E3 0 E3', .slice E4 0 E4', .string ⟨#[]⟩, .int .i64 0, .string ⟨#[]⟩, .bool false][j]? := fun j => (hJ.bel.cell (p := ⟨w6.heap.size, j, none⟩) (blk_lt HK.out.qp)).trans ((blk_all HK.out.qp).1 j)
    go_simp
    exact hK _ _ ⟨[s21, s22, s23, .pointer (some ⟨w6.heap.size, 33, none⟩), .agg #[.string (tx [120]), .string ⟨#[]⟩, .int .i64 0, .slice E1 1 E1', .slice E2 0 E2', .slice E3 0 E3', .slice E4 0 E4', .string ⟨#[]⟩, .int .i64 0, .string ⟨#[]⟩, .bool false], s26, s20, s27, s28, s2, s3], (by simp only [putAll, Act.put, List.setIfInBounds_toArray, List.set_cons_zero, List.set_cons_succ]), s21, s22, s23, .pointer (some ⟨w6.heap.size, 33, none⟩), .agg #[.string (tx [120]), .string ⟨#[]⟩, .int .i64 0, .slice E1 1 E1', .slice E2 0 E2', .slice E3 0 E3', .slice E4 0 E4', .string ⟨#[]⟩, .int .i64 0, .string ⟨#[]⟩, .bool false], s26, s20, s27, s28, s2, s3, v, u, rfl, f0, f1, f2, f3, (fun _ => rfl), f5, f6, f7, f8, f11, dS, hJ⟩
  case o5 =>
    rintro L a' W' K ⟨vs, rfl, s21, s22, s23, s24, s25, s26, s20, s27, s28, s2, s3, v, u, rfl, f0, f1, f2, f3, f4, f5, f6, f7, f8, f11, dS, hJ⟩ hL hd hK
    simp only [putAll, Act.put, List.setIfInBounds_toArray, List.set_cons_zero, List.set_cons_succ]
    have ht : L 10 = false := by
      cases h : L 10 with
      | false => rfl
      | true => have := (dS h).1; rw [hL] at this; cases this
    obtain rfl := f0 (hd 0 (by decide))
    obtain rfl := f4 (hd 4 (by decide))
    go_simp
    refine (For_calls _ _ k15 (pdP (tx [120]) 9 ⟨#[]⟩) _ (V_below HK.out.hv hJ.bel) (V_below HK.out.hx hJ.bel) (by decide) (by decide)).mono ?_
    rw [k15_for]
    rintro e w9 ⟨cs, rfl, hk, hb⟩
    exact hK _ _ ⟨[.agg #[.slice (some ⟨w2.heap.size, 0, none⟩) 2 2, .slice (some ⟨w6.heap.size, 0, none⟩) 4 4, .slice none 0 0], s22, s23, s24, .agg #[.string (tx [120]), .string ⟨#[]⟩, .int .i64 0, .slice E1 1 E1', .slice E2 0 E2', .slice E3 0 E3', .slice E4 0 E4', .string ⟨#[]⟩, .int .i64 0, .string ⟨#[]⟩, .bool false], .tuple #[.agg cs.toArray, .bool true], s20, s27, s28, s2, s3], (by simp only [putAll, Act.put, List.setIfInBounds_toArray, List.set_cons_zero, List.set_cons_succ]), .agg #[.slice (some ⟨w2.heap.size, 0, none⟩) 2 2, .slice (some ⟨w6.heap.size, 0, none⟩) 4 4, .slice none 0 0], s22, s23, s24, .agg #[.string (tx [120]), .string ⟨#[]⟩, .int .i64 0, .slice E1 1 E1', .slice E2 0 E2', .slice E3 0 E3', .slice E4 0 E4', .string ⟨#[]⟩, .int .i64 0, .string ⟨#[]⟩, .bool false], .tuple #[.agg cs.toArray, .bool true], s20, s27, s28, s2, s3, .agg cs.toArray, u, rfl, f0, f1, f2, f3, f4, (fun _ => rfl), (fun h => by have h := (f6 h).1; rw [hL] at h; cases h), (fun h => by have h := (f7 h).1; rw [hL] at h; cases h), f8, f11, (fun h => ⟨rfl, (dS h).2⟩), hJ.call1 ht hb hk⟩
  case o6 =>
    rintro L a' W' K ⟨vs, rfl, s21, s22, s23, s24, s25, s26, s20, s27, s28, s2, s3, v, u, rfl, f0, f1, f2, f3, f4, f5, f6, f7, f8, f11, dS, hJ⟩ hL hd hK
    simp only [putAll, Act.put, List.setIfInBounds_toArray, List.set_cons_zero, List.set_cons_succ]
    obtain rfl := f5 (hd 5 (by decide))
    go_simp
    exact hK _ _ ⟨[s21, s22, s23, s24, s25, .tuple #[v, .bool true], .tuple #[v, .bool true], s27, s28, s2, s3], (by simp only [putAll, Act.put, List.setIfInBounds_toArray, List.set_cons_zero, List.set_cons_succ]), s21, s22, s23, s24, s25, .tuple #[v, .bool true], .tuple #[v, .bool true], s27, s28, s2, s3, v, u, rfl, f0, f1, f2, f3, f4, f5, (fun _ => ⟨hd 5 (by decide), rfl⟩), f7, f8, f11, dS, hJ⟩
  case o7 =>
    rintro L a' W' K ⟨vs, rfl, s21, s22, s23, s24, s25, s26, s20, s27, s28, s2, s3, v, u, rfl, f0, f1, f2, f3, f4, f5, f6, f7, f8, f11, dS, hJ⟩ hL hd hK
    simp only [putAll, Act.put, List.setIfInBounds_toArray, List.set_cons_zero, List.set_cons_succ]
    obtain ⟨-, rfl⟩ := f6 (hd 6 (by decide))
    go_simp
    exact hK _ _ ⟨[s21, s22, s23, s24, s25, s26, .tuple #[v, .bool true], v, s28, s2, s3], (by simp only [putAll, Act.put, List.setIfInBounds_toArray, List.set_cons_zero, List.set_cons_succ]), s21, s22, s23, s24, s25, s26, .tuple #[v, .bool true], v, s28, s2, s3, v, u, rfl, f0, f1, f2, f3, f4, f5, f6, (fun _ => ⟨(f6 (hd 6 (by decide))).1, rfl⟩), f8, f11, dS, hJ⟩
  case o8 =>
    rintro L a' W' K ⟨vs, rfl, s21, s22, s23, s24, s25, s26, s20, s27, s28, s2, s3, v, u, rfl, f0, f1, f2, f3, f4, f5, f6, f7, f8, f11, dS, hJ⟩ hL hd hK
    simp only [putAll, Act.put, List.setIfInBounds_toArray, List.set_cons_zero, List.set_cons_succ]
    obtain ⟨-, rfl⟩ := f6 (hd 6 (by decide))
    go_simp
    exact hK _ _ ⟨[s21, s22, s23, s24, s25, s26, .tuple #[v, .bool true], s27, .bool true, s2, s3], (by simp only [putAll, Act.put, List.setIfInBounds_toArray, List.set_cons_zero, List.set_cons_succ]), s21, s22, s23, s24, s25, s26, .tuple #[v, .bool true], s27, .bool true, s2, s3, v, u, rfl, f0, f1, f2, f3, f4, f5, f6, f7, (fun _ => rfl), f11, dS, hJ⟩
  case o9 =>
    rintro L a' W' K ⟨vs, rfl, s21, s22, s23, s24, s25, s26, s20, s27, s28, s2, s3, v, u, rfl, f0, f1, f2, f3, f4, f5, f6, f7, f8, f11, dS, hJ⟩ hL hd hK
    simp only [putAll, Act.put, List.setIfInBounds_toArray, List.set_cons_zero, List.set_cons_succ]
    have ht : L 10 = false := by
      cases h : L 10 with
      | false => rfl
      | true => have := (dS h).2; rw [hL] at this; cases this
    go_simp
    exact hK _ _ ⟨[s21, s22, s23, s24, s25, s26, s20, s27, s28, .pointer (some ⟨W'.heap.size, 0, none⟩), s3], (by simp only [putAll, Act.put, List.setIfInBounds_toArray, List.set_cons_zero, List.set_cons_succ]), s21, s22, s23, s24, s25, s26, s20, s27, s28, .pointer (some ⟨W'.heap.size, 0, none⟩), s3, v, u, rfl, f0, f1, f2, f3, f4, f5, f6, f7, f8, f11, (fun h => ⟨(dS h).1, rfl⟩), hJ.alloc1 hL ht (old := [.string ⟨#[]⟩, .string ⟨#[]⟩, .slice none 0 0]) rfl⟩
  case o10 =>
    rintro L a' W' K ⟨vs, rfl, s21, s22, s23, s24, s25, s26, s20, s27, s28, s2, s3, v, u, rfl, f0, f1, f2, f3, f4, f5, f6, f7, f8, f11, dS, hJ⟩ hL hd hK
    simp only [putAll, Act.put, List.setIfInBounds_toArray, List.set_cons_zero, List.set_cons_succ]
    obtain ⟨-, rfl⟩ := f7 (hd 7 (by decide))
    obtain ⟨b, cs, rfl, hp, hl, hth, ⟨_, hk⟩, hJ2⟩ := hJ.store1 (hd 5 (by decide)) (hd 9 (by decide)) (fun h => by cases h)
    subst hp
    obtain ⟨A, c, rfl, -⟩ := hk
    rw [if_pos (by rfl)]
    refine wp_store_mid 55 (.tmp 2) (.tmp 27) rfl b 0 _ rfl rfl hth (by kernel_rfl) (by simp [Value.oneCell']) ?_
    exact hK _ _ ⟨[s21, s22, s23, s24, s25, s26, s20, .agg #[.string w15.pod, .string w15.to_, .slice A w15.holds.length c], s28, .pointer (some ⟨b, 0, none⟩), s3], (by simp only [putAll, Act.put, List.setIfInBounds_toArray, List.set_cons_zero, List.set_cons_succ]), s21, s22, s23, s24, s25, s26, s20, .agg #[.string w15.pod, .string w15.to_, .slice A w15.holds.length c], s28, .pointer (some ⟨b, 0, none⟩), s3, _, u, rfl, f0, f1, f2, f3, f4, f5, f6, f7, f8, f11, (fun _ => ⟨hd 5 (by decide), hd 9 (by decide)⟩), hJ2⟩
  case o11 =>
    rintro L a' W' K ⟨vs, rfl, s21, s22, s23, s24, s25, s26, s20, s27, s28, s2, s3, v, u, rfl, f0, f1, f2, f3, f4, f5, f6, f7, f8, f11, dS, hJ⟩ hL hd hK
    simp only [putAll, Act.put, List.setIfInBounds_toArray, List.set_cons_zero, List.set_cons_succ]
    obtain rfl := f8 (hd 8 (by decide))
    go_simp
    exact hK _ _ ⟨[s21, s22, s23, s24, s25, s26, s20, s27, .bool true, s2, .bool true], (by simp only [putAll, Act.put, List.setIfInBounds_toArray, List.set_cons_zero, List.set_cons_succ]), s21, s22, s23, s24, s25, s26, s20, s27, .bool true, s2, .bool true, v, u, rfl, f0, f1, f2, f3, f4, f5, f6, f7, f8, (fun _ => rfl), dS, hJ⟩
  case rest =>
    rintro L vs W5 ⟨s21, s22, s23, s24, s25, s26, s20, s27, s28, s2, s3, v, u, rfl, f0, f1, f2, f3, f4, f5, f6, f7, f8, f11, -, hJ⟩ hL
    rw [hL 5, hL 9, hL 10] at hJ
    obtain rfl := f0 (hL 0)
    obtain rfl := f1 (hL 1)
    obtain rfl := f2 (hL 2)
    obtain rfl := f3 (hL 3)
    obtain rfl := f4 (hL 4)
    obtain rfl := f5 (hL 5)
    obtain ⟨-, rfl⟩ := f6 (hL 6)
    obtain ⟨-, rfl⟩ := f7 (hL 7)
    obtain rfl := f8 (hL 8)
    obtain rfl := f11 (hL 11)
    obtain ⟨b, cs, rfl, rfl, hq, hk, hlo, hbel⟩ := hJ.done1
    replace HK := Lib.hid (HK.out.below hbel)
    replace HB := Lib.hid (Below.then HB.out hbel)
    have HW := Lib.hid hq
    have HWK := Lib.hid hk
    obtain ⟨A, c, rfl, -⟩ := hk
    clear hq hbel hlo hJ hL f0 f1 f2 f3 f4 f5 f6 f7 f8 f11 L
    simp only [putAll, Act.put, List.setIfInBounds_toArray, List.set_cons_zero, List.set_cons_succ]
    obtain ⟨z, zf⟩ := blk_all HK.out.qs
    go_wp2_with fail
    refine (Next_calls _ k15 _ HK.out.hv (by decide) (by decide) k15_apart).mono ?_
    rw [k15_next]
    rintro e w9 ⟨cs, rfl, hk, hb⟩
    clear z zf
    obtain ⟨A', c', rfl, -⟩ := hk
    go_upto_region 4 with fail
    have hbA := Below.then hb (alloc_below w9 (.cells #[.string w15.pod, .string w15.to_, .slice A' w15.holds.length c'] 55))
    have hqv := blk_last w9 (.cells #[.string w15.pod, .string w15.to_, .slice A' w15.holds.length c'] 55)
    generalize w9.alloc (.cells #[.string w15.pod, .string w15.to_, .slice A' w15.holds.length c'] 55) = V3 at hbA hqv ⊢
    replace HK := Lib.hid (HK.out.below hbA)
    replace HB := Lib.hid (Below.then HB.out hbA)
    replace HW := Lib.hid ((hbA.block _ (blk_lt HW.out)).trans HW.out)
    replace HWK := Lib.hid (Kd.way.mono (vw_below hbA) HWK.out)
    have HV := Lib.hid hqv
    clear hb hbA hqv
    refine wp_region_slots [35, 36, 37, 34, 38, 39, 6, 7] (fun L vs W' => ∃ (s35 s36 s37 s34 s38 s39 s6 s7 v u : Value), vs = [s35, s36, s37, s34, s38, s39, s6, s7] ∧ (L 0 = true → s35 = .agg #[.slice (some ⟨w2.heap.size, 0, none⟩) 2 2, .slice (some ⟨w6.heap.size, 0, none⟩) 4 4, .slice none 0 0]) ∧ (L 1 = true → s36 = u) ∧ (L 2 = true → s37 = .tuple #[v, .bool false]) ∧ (L 3 = true → L 2 = true ∧ s34 = .tuple #[v, .bool false]) ∧ (L 4 = true → L 2 = true ∧ s38 = v) ∧ (L 5 = true → s39 = .bool false) ∧ (L 8 = true → s7 = .bool false) ∧ (L 7 = true → L 2 = true ∧ L 6 = true) ∧ PairJ Kd.way zWy 55 Kd.pod (pdP (tx [121]) 11 ⟨#[]⟩) 55 V3 (L 2) (L 1) (L 6) false (L 7) false v u s6 undef W') (by kernel_rfl) (by kernel_rfl) ?start (And.intro ?o0 (And.intro ?o1 (And.intro ?o2 (And.intro ?o3 (And.intro ?o4 (And.intro ?o5 (And.intro ?o6 (And.intro ?o7 (And.intro ?o8 trivial))))))))) ?rest
    case start =>
      intro L vs hL hlen
      obtain ⟨s35, s36, s37, s34, s38, s39, s6, s7, rfl⟩ := list_of8 hlen
      have h0 := hL 0 (by simp)
      have h1 := hL 1 (by simp)
      have h2 := hL 2 (by simp)
      have h3 := hL 3 (by simp)
      have h4 := hL 4 (by simp)
      have h5 := hL 5 (by simp)
      have h6 := hL 6 (by simp)
      have h7 := hL 7 (by simp)
      have h8 := hL 8 (by simp)
      refine ⟨s35, s36, s37, s34, s38, s39, s6, s7, undef, undef, rfl, (fun h => by rw [h0] at h; cases h), (fun h => by rw [h1] at h; cases h), (fun h => by rw [h2] at h; cases h), (fun h => by rw [h3] at h; cases h), (fun h => by rw [h4] at h; cases h), (fun h => by rw [h5] at h; cases h), (fun h => by rw [h8] at h; cases h), (fun h => by rw [h7] at h; cases h), ?_⟩
      rw [h2, h6, h7, h1]; exact PairJ.start (drew_below _)
    case o0 =>
      rintro L a' W' K ⟨vs, rfl, s35, s36, s37, s34, s38, s39, s6, s7, v, u, rfl, f0, f1, f2, f3, f4, f5, f8, dS, hJ⟩ hL hd hK
      simp only [putAll, Act.put, List.setIfInBounds_toArray, List.set_cons_zero, List.set_cons_succ]
      have zz : ∀ j, W'.cell? ⟨w6.heap.size + 1, j, none⟩ = #[.slice (some ⟨w2.heap.size, 0, none⟩) 2 2, .slice (some ⟨w6.heap.size, 0, none⟩) 4 4, .slice none 0 0][j]? := fun j => (hJ.bel.cell (p := ⟨w6.heap.size + 1, j, none⟩) (blk_lt HK.out.qs)).trans ((blk_all HK.out.qs).1 j)
      go_simp
      exact hK _ _ ⟨[.agg #[.slice (some ⟨w2.heap.size, 0, none⟩) 2 2, .slice (some ⟨w6.heap.size, 0, none⟩) 4 4, .slice none 0 0], s36, s37, s34, s38, s39, s6, s7], (by simp only [putAll, Act.put, List.setIfInBounds_toArray, List.set_cons_zero, List.set_cons_succ]), .agg #[.slice (some ⟨w2.heap.size, 0, none⟩) 2 2, .slice (some ⟨w6.heap.size, 0, none⟩) 4 4, .slice none 0 0], s36, s37, s34, s38, s39, s6, s7, v, u, rfl, (fun _ => rfl), f1, f2, f3, f4, f5, f8, dS, hJ⟩
    case o1 =>
      rintro L a' W' K ⟨vs, rfl, s35, s36, s37, s34, s38, s39, s6, s7, v, u, rfl, f0, f1, f2, f3, f4, f5, f8, dS, hJ⟩ hL hd hK
      simp only [putAll, Act.put, List.setIfInBounds_toArray, List.set_cons_zero, List.set_cons_succ]
      go_simp
      refine (P_calls (tx [121]) 11 ⟨#[]⟩ _ (sok_small (by decide)) ⟨by decide, by decide⟩ sok_none).mono ?_
      rintro e w9 ⟨cs, rfl, hk, hb⟩
      exact hK _ _ ⟨[s35, .agg cs.toArray, s37, s34, s38, s39, s6, s7], (by simp only [putAll, Act.put, List.setIfInBounds_toArray, List.set_cons_zero, List.set_cons_succ]), s35, .agg cs.toArray, s37, s34, s38, s39, s6, s7, v, .agg cs.toArray, rfl, f0, (fun _ => rfl), f2, f3, f4, f5, f8, dS, hJ.call2 rfl hb hk⟩
    case o2 =>
      rintro L a' W' K ⟨vs, rfl, s35, s36, s37, s34, s38, s39, s6, s7, v, u, rfl, f0, f1, f2, f3, f4, f5, f8, dS, hJ⟩ hL hd hK
      simp only [putAll, Act.put, List.setIfInBounds_toArray, List.set_cons_zero, List.set_cons_succ]
      have ht : L 7 = false := by
        cases h : L 7 with
        | false => rfl
        | true => have := (dS h).1; rw [hL] at this; cases this
      obtain rfl := f0 (hd 0 (by decide))
      obtain rfl := f1 (hd 1 (by decide))
      go_simp
      obtain ⟨cp, rfl, hkp⟩ := hJ.arg (hd 1 (by decide))
      refine (For_calls _ _ k15 (pdP (tx [121]) 11 ⟨#[]⟩) _ (V_below HK.out.hv hJ.bel) ⟨_, rfl, hkp⟩ (by decide) (by decide)).mono ?_
      rw [k15_no]
      rintro e w9 ⟨cs, rfl, hk, hb⟩
      exact hK _ _ ⟨[.agg #[.slice (some ⟨w2.heap.size, 0, none⟩) 2 2, .slice (some ⟨w6.heap.size, 0, none⟩) 4 4, .slice none 0 0], .agg cp.toArray, .tuple #[.agg cs.toArray, .bool false], s34, s38, s39, s6, s7], (by simp only [putAll, Act.put, List.setIfInBounds_toArray, List.set_cons_zero, List.set_cons_succ]), .agg #[.slice (some ⟨w2.heap.size, 0, none⟩) 2 2, .slice (some ⟨w6.heap.size, 0, none⟩) 4 4, .slice none 0 0], .agg cp.toArray, .tuple #[.agg cs.toArray, .bool false], s34, s38, s39, s6, s7, .agg cs.toArray, .agg cp.toArray, rfl, f0, f1, (fun _ => rfl), (fun h => by have h := (f3 h).1; rw [hL] at h; cases h), (fun h => by have h := (f4 h).1; rw [hL] at h; cases h), f5, f8, (fun h => ⟨rfl, (dS h).2⟩), hJ.call1 ht hb hk⟩
    case o3 =>
      rintro L a' W' K ⟨vs, rfl, s35, s36, s37, s34, s38, s39, s6, s7, v, u, rfl, f0, f1, f2, f3, f4, f5, f8, dS, hJ⟩ hL hd hK
      simp only [putAll, Act.put, List.setIfInBounds_toArray, List.set_cons_zero, List.set_cons_succ]
      obtain rfl := f2 (hd 2 (by decide))
      go_simp
      exact hK _ _ ⟨[s35, s36, .tuple #[v, .bool false], .tuple #[v, .bool false], s38, s39, s6, s7], (by simp only [putAll, Act.put, List.setIfInBounds_toArray, List.set_cons_zero, List.set_cons_succ]), s35, s36, .tuple #[v, .bool false], .tuple #[v, .bool false], s38, s39, s6, s7, v, u, rfl, f0, f1, f2, (fun _ => ⟨hd 2 (by decide), rfl⟩), f4, f5, f8, dS, hJ⟩
    case o4 =>
      rintro L a' W' K ⟨vs, rfl, s35, s36, s37, s34, s38, s39, s6, s7, v, u, rfl, f0, f1, f2, f3, f4, f5, f8, dS, hJ⟩ hL hd hK
      simp only [putAll, Act.put, List.setIfInBounds_toArray, List.set_cons_zero, List.set_cons_succ]
      obtain ⟨-, rfl⟩ := f3 (hd 3 (by decide))
      go_simp
      exact hK _ _ ⟨[s35, s36, s37, .tuple #[v, .bool false], v, s39, s6, s7], (by simp only [putAll, Act.put, List.setIfInBounds_toArray, List.set_cons_zero, List.set_cons_succ]), s35, s36, s37, .tuple #[v, .bool false], v, s39, s6, s7, v, u, rfl, f0, f1, f2, f3, (fun _ => ⟨(f3 (hd 3 (by decide))).1, rfl⟩), f5, f8, dS, hJ⟩
    case o5 =>
      rintro L a' W' K ⟨vs, rfl, s35, s36, s37, s34, s38, s39, s6, s7, v, u, rfl, f0, f1, f2, f3, f4, f5, f8, dS, hJ⟩ hL hd hK
      simp only [putAll, Act.put, List.setIfInBounds_toArray, List.set_cons_zero, List.set_cons_succ]
      obtain ⟨-, rfl⟩ := f3 (hd 3 (by decide))
      go_simp
      exact hK _ _ ⟨[s35, s36, s37, .tuple #[v, .bool false], s38, .bool false, s6, s7], (by simp only [putAll, Act.put, List.setIfInBounds_toArray, List.set_cons_zero, List.set_cons_succ]), s35, s36, s37, .tuple #[v, .bool false], s38, .bool false, s6, s7, v, u, rfl, f0, f1, f2, f3, f4, (fun _ => rfl), f8, dS, hJ⟩
    case o6 =>
      rintro L a' W' K ⟨vs, rfl, s35, s36, s37, s34, s38, s39, s6, s7, v, u, rfl, f0, f1, f2, f3, f4, f5, f8, dS, hJ⟩ hL hd hK
      simp only [putAll, Act.put, List.setIfInBounds_toArray, List.set_cons_zero, List.set_cons_succ]
      have ht : L 7 = false := by
        cases h : L 7 with
        | false => rfl
        | true => have := (dS h).2; rw [hL] at this; cases this
      go_simp
      exact hK _ _ ⟨[s35, s36, s37, s34, s38, s39, .pointer (some ⟨W'.heap.size, 0, none⟩), s7], (by simp only [putAll, Act.put, List.setIfInBounds_toArray, List.set_cons_zero, List.set_cons_succ]), s35, s36, s37, s34, s38, s39, .pointer (some ⟨W'.heap.size, 0, none⟩), s7, v, u, rfl, f0, f1, f2, f3, f4, f5, f8, (fun h => ⟨(dS h).1, rfl⟩), hJ.alloc1 hL ht (old := [.string ⟨#[]⟩, .string ⟨#[]⟩, .slice none 0 0]) rfl⟩
    case o7 =>
      rintro L a' W' K ⟨vs, rfl, s35, s36, s37, s34, s38, s39, s6, s7, v, u, rfl, f0, f1, f2, f3, f4, f5, f8, dS, hJ⟩ hL hd hK
      simp only [putAll, Act.put, List.setIfInBounds_toArray, List.set_cons_zero, List.set_cons_succ]
      obtain ⟨-, rfl⟩ := f4 (hd 4 (by decide))
      obtain ⟨b, cs, rfl, hp, hl, hth, ⟨_, hk⟩, hJ2⟩ := hJ.store1 (hd 2 (by decide)) (hd 6 (by decide)) (fun h => by cases h)
      subst hp
      obtain ⟨A, c, rfl, -⟩ := hk
      rw [if_pos (by rfl)]
      refine wp_store_mid 55 (.tmp 6) (.tmp 38) rfl b 0 _ rfl rfl hth (by kernel_rfl) (by simp [Value.oneCell']) ?_
      exact hK _ _ ⟨[s35, s36, s37, s34, .agg #[.string zWy.pod, .string zWy.to_, .slice A zWy.holds.length c], s39, .pointer (some ⟨b, 0, none⟩), s7], (by simp only [putAll, Act.put, List.setIfInBounds_toArray, List.set_cons_zero, List.set_cons_succ]), s35, s36, s37, s34, .agg #[.string zWy.pod, .string zWy.to_, .slice A zWy.holds.length c], s39, .pointer (some ⟨b, 0, none⟩), s7, _, u, rfl, f0, f1, f2, f3, f4, f5, f8, (fun _ => ⟨hd 2 (by decide), hd 6 (by decide)⟩), hJ2⟩
    case o8 =>
      rintro L a' W' K ⟨vs, rfl, s35, s36, s37, s34, s38, s39, s6, s7, v, u, rfl, f0, f1, f2, f3, f4, f5, f8, dS, hJ⟩ hL hd hK
      simp only [putAll, Act.put, List.setIfInBounds_toArray, List.set_cons_zero, List.set_cons_succ]
      obtain rfl := f5 (hd 5 (by decide))
      go_simp
      exact hK _ _ ⟨[s35, s36, s37, s34, s38, .bool false, s6, .bool false], (by simp only [putAll, Act.put, List.setIfInBounds_toArray, List.set_cons_zero, List.set_cons_succ]), s35, s36, s37, s34, s38, .bool false, s6, .bool false, v, u, rfl, f0, f1, f2, f3, f4, f5, (fun _ => rfl), dS, hJ⟩
    case rest =>
      rintro L vs W5 ⟨s35, s36, s37, s34, s38, s39, s6, s7, v, u, rfl, f0, f1, f2, f3, f4, f5, f8, -, hJ⟩ hL
      rw [hL 2, hL 6, hL 7] at hJ
      obtain rfl := f0 (hL 0)
      obtain rfl := f1 (hL 1)
      obtain rfl := f2 (hL 2)
      obtain ⟨-, rfl⟩ := f3 (hL 3)
      obtain ⟨-, rfl⟩ := f4 (hL 4)
      obtain rfl := f5 (hL 5)
      obtain rfl := f8 (hL 8)
      obtain ⟨b, cs, rfl, rfl, hq, hk, hlo, hbel⟩ := hJ.done1
      replace HK := Lib.hid (HK.out.below hbel)
      replace HB := Lib.hid (Below.then HB.out hbel)
      replace HW := Lib.hid ((hbel.block _ (blk_lt HW.out)).trans HW.out)
      replace HV := Lib.hid ((hbel.block _ (blk_lt HV.out)).trans HV.out)
      replace HWK := Lib.hid (Kd.way.mono (vw_below hbel) HWK.out)
      clear hk hq hlo hbel hJ hL f0 f1 f2 f3 f4 f5 f8 L
      simp only [putAll, Act.put, List.setIfInBounds_toArray, List.set_cons_zero, List.set_cons_succ]
      go_upto_region 5 with fail
      refine wp_region_slots [41, 42, 43, 40, 44, 45, 8, 9] (fun L vs W' => ∃ (s41 s42 s43 s40 s44 s45 s8 s9 v u : Value), vs = [s41, s42, s43, s40, s44, s45, s8, s9] ∧ (L 0 = true → s41 = .agg #[.slice (some ⟨w2.heap.size, 0, none⟩) 2 2, .slice (some ⟨w6.heap.size, 0, none⟩) 4 4, .slice none 0 0]) ∧ (L 1 = true → s42 = u) ∧ (L 2 = true → s43 = .tuple #[v, .bool false]) ∧ (L 3 = true → L 2 = true ∧ s40 = .tuple #[v, .bool false]) ∧ (L 4 = true → L 2 = true ∧ s44 = v) ∧ (L 5 = true → s45 = .bool false) ∧ (L 8 = true → s9 = .bool false) ∧ (L 7 = true → L 2 = true ∧ L 6 = true) ∧ PairJ Kd.way zWy 55 Kd.pod (pdH 9 1 ⟨#[]⟩) 55 W5 (L 2) (L 1) (L 6) false (L 7) false v u s8 undef W') (by kernel_rfl) (by kernel_rfl) ?start (And.intro ?o0 (And.intro ?o1 (And.intro ?o2 (And.intro ?o3 (And.intro ?o4 (And.intro ?o5 (And.intro ?o6 (And.intro ?o7 (And.intro ?o8 trivial))))))))) ?rest
      case start =>
        intro L vs hL hlen
        obtain ⟨s41, s42, s43, s40, s44, s45, s8, s9, rfl⟩ := list_of8 hlen
        have h0 := hL 0 (by simp)
        have h1 := hL 1 (by simp)
        have h2 := hL 2 (by simp)
        have h3 := hL 3 (by simp)
        have h4 := hL 4 (by simp)
        have h5 := hL 5 (by simp)
        have h6 := hL 6 (by simp)
        have h7 := hL 7 (by simp)
        have h8 := hL 8 (by simp)
        refine ⟨s41, s42, s43, s40, s44, s45, s8, s9, undef, undef, rfl, (fun h => by rw [h0] at h; cases h), (fun h => by rw [h1] at h; cases h), (fun h => by rw [h2] at h; cases h), (fun h => by rw [h3] at h; cases h), (fun h => by rw [h4] at h; cases h), (fun h => by rw [h5] at h; cases h), (fun h => by rw [h8] at h; cases h), (fun h => by rw [h7] at h; cases h), ?_⟩
        rw [h2, h6, h7, h1]; exact PairJ.start (drew_below _)
      case o0 =>
        rintro L a' W' K ⟨vs, rfl, s41, s42, s43, s40, s44, s45, s8, s9, v, u, rfl, f0, f1, f2, f3, f4, f5, f8, dS, hJ⟩ hL hd hK
        simp only [putAll, Act.put, List.setIfInBounds_toArray, List.set_cons_zero, List.set_cons_succ]
        have zz : ∀ j, W'.cell? ⟨w6.heap.size + 1, j, none⟩ = #[.slice (some ⟨w2.heap.size, 0, none⟩) 2 2, .slice (some ⟨w6.heap.size, 0, none⟩) 4 4, .slice none 0 0][j]? := fun j => (hJ.bel.cell (p := ⟨w6.heap.size + 1, j, none⟩) (blk_lt HK.out.qs)).trans ((blk_all HK.out.qs).1 j)
        go_simp
        exact hK _ _ ⟨[.agg #[.slice (some ⟨w2.heap.size, 0, none⟩) 2 2, .slice (some ⟨w6.heap.size, 0, none⟩) 4 4, .slice none 0 0], s42, s43, s40, s44, s45, s8, s9], (by simp only [putAll, Act.put, List.setIfInBounds_toArray, List.set_cons_zero, List.set_cons_succ]), .agg #[.slice (some ⟨w2.heap.size, 0, none⟩) 2 2, .slice (some ⟨w6.heap.size, 0, none⟩) 4 4, .slice none 0 0], s42, s43, s40, s44, s45, s8, s9, v, u, rfl, (fun _ => rfl), f1, f2, f3, f4, f5, f8, dS, hJ⟩
      case o1 =>
        rintro L a' W' K ⟨vs, rfl, s41, s42, s43, s40, s44, s45, s8, s9, v, u, rfl, f0, f1, f2, f3, f4, f5, f8, dS, hJ⟩ hL hd hK
        simp only [putAll, Act.put, List.setIfInBounds_toArray, List.set_cons_zero, List.set_cons_succ]
        go_simp
        refine (Held_calls 9 1 ⟨#[]⟩ _ (by omega) ⟨by decide, by decide⟩ sok_none).mono ?_
        rintro e w9 ⟨cs, rfl, hk, hb⟩
        exact hK _ _ ⟨[s41, .agg cs.toArray, s43, s40, s44, s45, s8, s9], (by simp only [putAll, Act.put, List.setIfInBounds_toArray, List.set_cons_zero, List.set_cons_succ]), s41, .agg cs.toArray, s43, s40, s44, s45, s8, s9, v, .agg cs.toArray, rfl, f0, (fun _ => rfl), f2, f3, f4, f5, f8, dS, hJ.call2 rfl hb hk⟩
      case o2 =>
        rintro L a' W' K ⟨vs, rfl, s41, s42, s43, s40, s44, s45, s8, s9, v, u, rfl, f0, f1, f2, f3, f4, f5, f8, dS, hJ⟩ hL hd hK
        simp only [putAll, Act.put, List.setIfInBounds_toArray, List.set_cons_zero, List.set_cons_succ]
        have ht : L 7 = false := by
          cases h : L 7 with
          | false => rfl
          | true => have := (dS h).1; rw [hL] at this; cases this
        obtain rfl := f0 (hd 0 (by decide))
        obtain rfl := f1 (hd 1 (by decide))
        go_simp
        obtain ⟨cp, rfl, hkp⟩ := hJ.arg (hd 1 (by decide))
        refine (For_calls _ _ k15 (pdH 9 1 ⟨#[]⟩) _ (V_below HK.out.hv hJ.bel) ⟨_, rfl, hkp⟩ (by decide) (by decide)).mono ?_
        rw [k15_hold]
        rintro e w9 ⟨cs, rfl, hk, hb⟩
        exact hK _ _ ⟨[.agg #[.slice (some ⟨w2.heap.size, 0, none⟩) 2 2, .slice (some ⟨w6.heap.size, 0, none⟩) 4 4, .slice none 0 0], .agg cp.toArray, .tuple #[.agg cs.toArray, .bool false], s40, s44, s45, s8, s9], (by simp only [putAll, Act.put, List.setIfInBounds_toArray, List.set_cons_zero, List.set_cons_succ]), .agg #[.slice (some ⟨w2.heap.size, 0, none⟩) 2 2, .slice (some ⟨w6.heap.size, 0, none⟩) 4 4, .slice none 0 0], .agg cp.toArray, .tuple #[.agg cs.toArray, .bool false], s40, s44, s45, s8, s9, .agg cs.toArray, .agg cp.toArray, rfl, f0, f1, (fun _ => rfl), (fun h => by have h := (f3 h).1; rw [hL] at h; cases h), (fun h => by have h := (f4 h).1; rw [hL] at h; cases h), f5, f8, (fun h => ⟨rfl, (dS h).2⟩), hJ.call1 ht hb hk⟩
      case o3 =>
        rintro L a' W' K ⟨vs, rfl, s41, s42, s43, s40, s44, s45, s8, s9, v, u, rfl, f0, f1, f2, f3, f4, f5, f8, dS, hJ⟩ hL hd hK
        simp only [putAll, Act.put, List.setIfInBounds_toArray, List.set_cons_zero, List.set_cons_succ]
        obtain rfl := f2 (hd 2 (by decide))
        go_simp
        exact hK _ _ ⟨[s41, s42, .tuple #[v, .bool false], .tuple #[v, .bool false], s44, s45, s8, s9], (by simp only [putAll, Act.put, List.setIfInBounds_toArray, List.set_cons_zero, List.set_cons_succ]), s41, s42, .tuple #[v, .bool false], .tuple #[v, .bool false], s44, s45, s8, s9, v, u, rfl, f0, f1, f2, (fun _ => ⟨hd 2 (by decide), rfl⟩), f4, f5, f8, dS, hJ⟩
      case o4 =>
        rintro L a' W' K ⟨vs, rfl, s41, s42, s43, s40, s44, s45, s8, s9, v, u, rfl, f0, f1, f2, f3, f4, f5, f8, dS, hJ⟩ hL hd hK
        simp only [putAll, Act.put, List.setIfInBounds_toArray, List.set_cons_zero, List.set_cons_succ]
        obtain ⟨-, rfl⟩ := f3 (hd 3 (by decide))
        go_simp
        exact hK _ _ ⟨[s41, s42, s43, .tuple #[v, .bool false], v, s45, s8, s9], (by simp only [putAll, Act.put, List.setIfInBounds_toArray, List.set_cons_zero, List.set_cons_succ]), s41, s42, s43, .tuple #[v, .bool false], v, s45, s8, s9, v, u, rfl, f0, f1, f2, f3, (fun _ => ⟨(f3 (hd 3 (by decide))).1, rfl⟩), f5, f8, dS, hJ⟩
      case o5 =>
        rintro L a' W' K ⟨vs, rfl, s41, s42, s43, s40, s44, s45, s8, s9, v, u, rfl, f0, f1, f2, f3, f4, f5, f8, dS, hJ⟩ hL hd hK
        simp only [putAll, Act.put, List.setIfInBounds_toArray, List.set_cons_zero, List.set_cons_succ]
        obtain ⟨-, rfl⟩ := f3 (hd 3 (by decide))
        go_simp
        exact hK _ _ ⟨[s41, s42, s43, .tuple #[v, .bool false], s44, .bool false, s8, s9], (by simp only [putAll, Act.put, List.setIfInBounds_toArray, List.set_cons_zero, List.set_cons_succ]), s41, s42, s43, .tuple #[v, .bool false], s44, .bool false, s8, s9, v, u, rfl, f0, f1, f2, f3, f4, (fun _ => rfl), f8, dS, hJ⟩
      case o6 =>
        rintro L a' W' K ⟨vs, rfl, s41, s42, s43, s40, s44, s45, s8, s9, v, u, rfl, f0, f1, f2, f3, f4, f5, f8, dS, hJ⟩ hL hd hK
        simp only [putAll, Act.put, List.setIfInBounds_toArray, List.set_cons_zero, List.set_cons_succ]
        have ht : L 7 = false := by
          cases h : L 7 with
          | false => rfl
          | true => have := (dS h).2; rw [hL] at this; cases this
        go_simp
        exact hK _ _ ⟨[s41, s42, s43, s40, s44, s45, .pointer (some ⟨W'.heap.size, 0, none⟩), s9], (by simp only [putAll, Act.put, List.setIfInBounds_toArray, List.set_cons_zero, List.set_cons_succ]), s41, s42, s43, s40, s44, s45, .pointer (some ⟨W'.heap.size, 0, none⟩), s9, v, u, rfl, f0, f1, f2, f3, f4, f5, f8, (fun h => ⟨(dS h).1, rfl⟩), hJ.alloc1 hL ht (old := [.string ⟨#[]⟩, .string ⟨#[]⟩, .slice none 0 0]) rfl⟩
      case o7 =>
        rintro L a' W' K ⟨vs, rfl, s41, s42, s43, s40, s44, s45, s8, s9, v, u, rfl, f0, f1, f2, f3, f4, f5, f8, dS, hJ⟩ hL hd hK
        simp only [putAll, Act.put, List.setIfInBounds_toArray, List.set_cons_zero, List.set_cons_succ]
        obtain ⟨-, rfl⟩ := f4 (hd 4 (by decide))
        obtain ⟨b, cs, rfl, hp, hl, hth, ⟨_, hk⟩, hJ2⟩ := hJ.store1 (hd 2 (by decide)) (hd 6 (by decide)) (fun h => by cases h)
        subst hp
        obtain ⟨A, c, rfl, -⟩ := hk
        rw [if_pos (by rfl)]
        refine wp_store_mid 55 (.tmp 8) (.tmp 44) rfl b 0 _ rfl rfl hth (by kernel_rfl) (by simp [Value.oneCell']) ?_
        exact hK _ _ ⟨[s41, s42, s43, s40, .agg #[.string zWy.pod, .string zWy.to_, .slice A zWy.holds.length c], s45, .pointer (some ⟨b, 0, none⟩), s9], (by simp only [putAll, Act.put, List.setIfInBounds_toArray, List.set_cons_zero, List.set_cons_succ]), s41, s42, s43, s40, .agg #[.string zWy.pod, .string zWy.to_, .slice A zWy.holds.length c], s45, .pointer (some ⟨b, 0, none⟩), s9, _, u, rfl, f0, f1, f2, f3, f4, f5, f8, (fun _ => ⟨hd 2 (by decide), hd 6 (by decide)⟩), hJ2⟩
      case o8 =>
        rintro L a' W' K ⟨vs, rfl, s41, s42, s43, s40, s44, s45, s8, s9, v, u, rfl, f0, f1, f2, f3, f4, f5, f8, dS, hJ⟩ hL hd hK
        simp only [putAll, Act.put, List.setIfInBounds_toArray, List.set_cons_zero, List.set_cons_succ]
        obtain rfl := f5 (hd 5 (by decide))
        go_simp
        exact hK _ _ ⟨[s41, s42, s43, s40, s44, .bool false, s8, .bool false], (by simp only [putAll, Act.put, List.setIfInBounds_toArray, List.set_cons_zero, List.set_cons_succ]), s41, s42, s43, s40, s44, .bool false, s8, .bool false, v, u, rfl, f0, f1, f2, f3, f4, f5, (fun _ => rfl), dS, hJ⟩
      case rest =>
        rintro L vs W6 ⟨s41, s42, s43, s40, s44, s45, s8, s9, v, u, rfl, f0, f1, f2, f3, f4, f5, f8, -, hJ⟩ hL
        rw [hL 2, hL 6, hL 7] at hJ
        obtain rfl := f0 (hL 0)
        obtain rfl := f1 (hL 1)
        obtain rfl := f2 (hL 2)
        obtain ⟨-, rfl⟩ := f3 (hL 3)
        obtain ⟨-, rfl⟩ := f4 (hL 4)
        obtain rfl := f5 (hL 5)
        obtain rfl := f8 (hL 8)
        obtain ⟨b, cs, rfl, rfl, hq, hk, hlo, hbel⟩ := hJ.done1
        replace HK := Lib.hid (HK.out.below hbel)
        replace HB := Lib.hid (Below.then HB.out hbel)
        replace HW := Lib.hid ((hbel.block _ (blk_lt HW.out)).trans HW.out)
        replace HV := Lib.hid ((hbel.block _ (blk_lt HV.out)).trans HV.out)
        replace HWK := Lib.hid (Kd.way.mono (vw_below hbel) HWK.out)
        clear hk hq hlo hbel hJ hL f0 f1 f2 f3 f4 f5 f8 L
        simp only [putAll, Act.put, List.setIfInBounds_toArray, List.set_cons_zero, List.set_cons_succ]
        obtain ⟨z, zf⟩ := blk_all HK.out.qs
        obtain ⟨y, yf⟩ := blk_all HW.out
        go_wp2_with fail
        refine (Do_calls _ _ k15 w15 _ HK.out.hv ⟨_, rfl, HWK.out⟩ (by decide)).mono ?_
        rintro e wd ⟨ct, rfl, hkt, hb⟩
        obtain ⟨T, hT⟩ : ∃ T, doW k15 w15 = T := ⟨_, rfl⟩
        have h3 := k15_len
        obtain ⟨h4, h5⟩ := k15_at
        rw [hT] at hkt
        simp only [hT] at h3 h4 h5
        obtain ⟨T1, n1, T2, n2, T3, n3, rfl, -, st2, -⟩ := hkt
        rw [h3] at st2 ⊢
        obtain ⟨tb, tof, cx, rfl, hkx, hcx⟩ := st2.elem 2 (by omega)
        obtain ⟨X1, x1, X2, x2, X3, x3, X4, x4, rfl, -⟩ := hkx
        have hc9 := cell_of_vw (hcx 9 _ rfl)
        rw [h5] at hc9
        clear z zf y yf st2 hcx hT h3 h5
        go_upto_region 7 with fail
        have hbA := Below.then hb (alloc_below wd (.cells #[.slice T1 T.nodes.length n1, .slice (some ⟨tb, tof, none⟩) 3 n2, .slice T3 T.budgets.length n3] 26))
        have hqt := blk_last wd (.cells #[.slice T1 T.nodes.length n1, .slice (some ⟨tb, tof, none⟩) 3 n2, .slice T3 T.budgets.length n3] 26)
        have hcA := ((alloc_below wd (.cells #[.slice T1 T.nodes.length n1, .slice (some ⟨tb, tof, none⟩) 3 n2, .slice T3 T.budgets.length n3] 26)).cell (p := ⟨tb, _, none⟩) (World.block_lt_of_cell? wd _ hc9)).trans hc9
        generalize wd.alloc (.cells #[.slice T1 T.nodes.length n1, .slice (some ⟨tb, tof, none⟩) 3 n2, .slice T3 T.budgets.length n3] 26) = V7 at hbA hqt hcA ⊢
        replace HK := Lib.hid (HK.out.below hbA)
        replace HB := Lib.hid (Below.then HB.out hbA)
        replace HW := Lib.hid ((hbA.block _ (blk_lt HW.out)).trans HW.out)
        replace HV := Lib.hid ((hbA.block _ (blk_lt HV.out)).trans HV.out)
        replace HWK := Lib.hid (Kd.way.mono (vw_below hbA) HWK.out)
        have HT := Lib.hid hqt
        have HC := Lib.hid hcA
        clear hb hbA hqt hcA hc9
        obtain ⟨y, yf⟩ := blk_all HW.out
        obtain ⟨Ah, ch, hcw, -, hsw⟩ := id HWK.out
        have eA : A = Ah ∧ c = ch := by simpa using hcw
        obtain ⟨rfl, rfl⟩ := eA
        have HSW := Lib.hid hsw
        clear hcw hsw
        have q1 : w15.to_.toList = [98] := by decide +kernel
        have q2 : w15.pod.toList = [120] := by decide +kernel
        have q3 : (tx [98]).toList = [98] := by decide +kernel
        go_wp2_with fail
        refine (Names_same _ _ w15.holds _ (HSW.out.mono (vw_below (alloc_below _ _))) (strs_single (blk_last _ _) (sok_small (by decide)))).mono ?_
        rintro e wn ⟨rfl, hb⟩
        have hbn := Below.then (alloc_below _ _) hb
        replace HW := Lib.hid ((hbn.block _ (blk_lt HW.out)).trans HW.out)
        replace HV := Lib.hid ((hbn.block _ (blk_lt HV.out)).trans HV.out)
        replace HT := Lib.hid ((hbn.block _ (blk_lt HT.out)).trans HT.out)
        replace HC := Lib.hid ((hbn.cell (p := ⟨tb, _, none⟩) (World.block_lt_of_cell? _ _ HC.out)).trans HC.out)
        replace HK := Lib.hid (HK.out.below hbn)
        replace HB := Lib.hid (Below.then HB.out hbn)
        clear y yf hb hbn
        obtain ⟨y, yf⟩ := blk_all HW.out
        obtain ⟨v, vf⟩ := blk_all HV.out
        obtain ⟨t, tf⟩ := blk_all HT.out
        obtain ⟨z, zf⟩ := blk_all HK.out.qs
        have c9 : wn.cell? ⟨tb, tof + 22 + 9, none⟩ = some (.string (tx [98])) := HC.out
        go_wp2
        go_ret
        exact ⟨rfl, HB.out⟩
end Go.Proofs.YtnmhicgbdalniaaGreatDoor
namespace Go.Proofs.YtnmhicgbdalniaaGreatDoor
open Go.RowKit

/-! Vectors: the plain law of their sums. -/
theorem rowsV_mk {α : Type} {f : α → Int} {nm : α → ByteArray} : ∀ {l : List α} {p : Option ByteArray}, (∀ x ∈ l, f x = 0) → l.Pairwise (fun a b => ltS (nm a) (nm b) = true) → (∀ q, p = some q → ∀ x ∈ l, ltS q (nm x) = true) → rowsV f nm p l = 0
  | [], _, _, _, _ => rfl
  | x :: r, p, h1, h2, h3 => by
    obtain ⟨k1, k2⟩ := List.pairwise_cons.1 h2
    have hl : tooLow p (nm x) = false := by
      cases p with
      | none => rfl
      | some q => show (!ltS q (nm x)) = false; rw [h3 q rfl x (List.mem_cons_self ..)]; rfl
    unfold rowsV
    rw [orV_r (h1 x (List.mem_cons_self ..)), hl, if_neg (by decide)]
    exact rowsV_mk (fun y hy => h1 y (List.mem_cons_of_mem _ hy)) k2 (fun q hq y hy => by injection hq with hq; subst hq; exact k1 y hy)
theorem nodup_length {α : Type} : ∀ {u v : List α}, u.Nodup → (∀ x ∈ u, x ∈ v) → u.length ≤ v.length
  | [], _, _, _ => Nat.zero_le _
  | x :: u, v, hn, hs => by
    obtain ⟨h1, h2⟩ := List.nodup_cons.1 hn
    obtain ⟨s, t, rfl⟩ := List.append_of_mem (hs x (List.mem_cons_self ..))
    have := nodup_length (v := s ++ t) h2 (fun y hy => by
      have := hs y (List.mem_cons_of_mem _ hy)
      rw [List.mem_append, List.mem_cons] at this
      rcases this with h | rfl | h
      · exact List.mem_append_left _ h
      · exact absurd hy h1
      · exact List.mem_append_right _ h)
    simp only [List.length_append, List.length_cons] at this ⊢
    omega
theorem ltS_tri {a b : ByteArray} (h1 : ¬ ltS a b = true) (h2 : ¬ ltS b a = true) : a = b := by
  unfold ltS at h1 h2
  simp only [decide_eq_true_eq] at h1 h2
  exact bs_inj (Std.le_antisymm (Std.not_lt.1 h2) (Std.not_lt.1 h1))
theorem up_nodup {l : List ByteArray} (h : l.Pairwise fun a b => ltS a b = true) : l.Nodup := List.Pairwise.imp (fun k => ltS_ne k) h
structure GoodV (v : List Amt) : Prop where
  len : v.length ≤ 8
  pos : ∀ x ∈ v, isName x.name = true ∧ 0 < x.n
  up : v.Pairwise fun a b => ltS a.name b.name = true
theorem amtV_zero (x : Amt) : amtV x = 0 ↔ isName x.name = true ∧ 0 < x.n := by
  unfold amtV
  cases isName x.name with
  | false => simp
  | true =>
    by_cases h : x.n ≤ 0
    · simp [h] <;> omega
    · simp [h] <;> omega
theorem vec_iff (v : List Amt) : checkVec v = 0 ↔ GoodV v := by
  constructor
  · intro h
    obtain ⟨h1, h2⟩ := manyV_zero h
    obtain ⟨h3, h4, -⟩ := rowsV_zero h2
    exact ⟨h1, fun x hx => (amtV_zero x).1 (h3 x hx), h4⟩
  · rintro ⟨h1, h2, h3⟩
    unfold checkVec manyV
    rw [if_neg (by omega)]
    exact rowsV_mk (fun x hx => (amtV_zero x).2 (h2 x hx)) h3 (fun q h => by cases h)
theorem goodV_nil : GoodV [] := ⟨by simp, fun x h => (by cases h), List.Pairwise.nil⟩
theorem getA_cons (y : Amt) (r : List Amt) (x : ByteArray) : getA (y :: r) x = if y.name = x then y.n else getA r x := rfl
theorem getA_none : ∀ {v : List Amt} {x : ByteArray}, (∀ y ∈ v, y.name ≠ x) → getA v x = 0
  | [], _, _ => rfl
  | y :: r, x, h => by
    unfold getA
    rw [if_neg (h y (List.mem_cons_self ..))]
    exact getA_none fun z hz => h z (List.mem_cons_of_mem _ hz)
theorem getA_mem : ∀ {v : List Amt}, v.Pairwise (fun a b => ltS a.name b.name = true) → ∀ y ∈ v, getA v y.name = y.n
  | x :: r, h, y, hy => by
    obtain ⟨h1, h2⟩ := List.pairwise_cons.1 h
    unfold getA
    rcases List.mem_cons.1 hy with rfl | hy
    · rw [if_pos rfl]
    · rw [if_neg (ltS_ne (h1 y hy))]
      exact getA_mem h2 y hy
theorem getA_some : ∀ {v : List Amt} {x : ByteArray}, getA v x ≠ 0 → ∃ y ∈ v, y.name = x
  | [], _, h => absurd rfl h
  | y :: r, x, h => by
    by_cases e : y.name = x
    · exact ⟨y, List.mem_cons_self .., e⟩
    · unfold getA at h
      rw [if_neg e] at h
      obtain ⟨z, hz, e⟩ := getA_some h
      exact ⟨z, List.mem_cons_of_mem _ hz, e⟩
theorem GoodV.nonneg {v : List Amt} (h : GoodV v) (x : ByteArray) : 0 ≤ getA v x := by
  by_cases e : getA v x = 0
  · omega
  · obtain ⟨y, hy, rfl⟩ := getA_some e
    rw [getA_mem h.up y hy]
    have := (h.pos y hy).2
    omega
theorem namesV_in (x : ByteArray) : ∀ a b : List Amt, x ∈ namesV a b ↔ x ∈ a.map (·.name) ∨ x ∈ b.map (·.name)
  | [], b => by rw [namesV_nil_l]; simp
  | y :: a, [] => by rw [namesV_nil_r]; simp
  | y :: a, z :: b => by
    rw [namesV]
    split
    · rw [List.mem_cons, namesV_in x a (z :: b), List.map_cons, List.map_cons, List.mem_cons, List.mem_cons]
      grind
    · split
      · rw [List.mem_cons, namesV_in x (y :: a) b, List.map_cons, List.map_cons, List.mem_cons, List.mem_cons]
        grind
      · rename_i h1 h2
        have := ltS_tri h1 h2
        rw [List.mem_cons, namesV_in x a b, List.map_cons, List.map_cons, List.mem_cons, List.mem_cons, ← this]
        grind
  termination_by a b => a.length + b.length
theorem namesV_rise : ∀ a b : List Amt, a.Pairwise (fun a b => ltS a.name b.name = true) → b.Pairwise (fun a b => ltS a.name b.name = true) → (namesV a b).Pairwise fun a b => ltS a b = true
  | [], b, _, h => by rw [namesV_nil_l, List.pairwise_map]; exact h
  | y :: a, [], h, _ => by rw [namesV_nil_r, List.pairwise_map]; exact h
  | y :: a, z :: b, h, k => by
    obtain ⟨h1, h2⟩ := List.pairwise_cons.1 h
    obtain ⟨k1, k2⟩ := List.pairwise_cons.1 k
    rw [namesV]
    split
    · rename_i hlt
      refine List.pairwise_cons.2 ⟨fun x hx => ?_, namesV_rise a (z :: b) h2 k⟩
      rcases (namesV_in x a (z :: b)).1 hx with hx | hx
      · obtain ⟨q, hq, rfl⟩ := List.mem_map.1 hx
        exact h1 q hq
      · obtain ⟨q, hq, rfl⟩ := List.mem_map.1 hx
        rcases List.mem_cons.1 hq with rfl | hq
        · exact hlt
        · exact ltS_trans hlt (k1 q hq)
    · split
      · rename_i hlt
        refine List.pairwise_cons.2 ⟨fun x hx => ?_, namesV_rise (y :: a) b h k2⟩
        rcases (namesV_in x (y :: a) b).1 hx with hx | hx
        · obtain ⟨q, hq, rfl⟩ := List.mem_map.1 hx
          rcases List.mem_cons.1 hq with rfl | hq
          · exact hlt
          · exact ltS_trans hlt (h1 q hq)
        · obtain ⟨q, hq, rfl⟩ := List.mem_map.1 hx
          exact k1 q hq
      · rename_i n1 n2
        have e := ltS_tri n1 n2
        refine List.pairwise_cons.2 ⟨fun x hx => ?_, namesV_rise a b h2 k2⟩
        rcases (namesV_in x a b).1 hx with hx | hx
        · obtain ⟨q, hq, rfl⟩ := List.mem_map.1 hx
          exact h1 q hq
        · obtain ⟨q, hq, rfl⟩ := List.mem_map.1 hx
          rw [e]; exact k1 q hq
  termination_by a b => a.length + b.length
def maxN : Int := 9223372036854775807
theorem addN_room {a b : Int} (h1 : 0 ≤ a) (h2 : 0 ≤ b) (h3 : a + b ≤ maxN) : addN a b = (a + b, 0) := by
  unfold addN
  unfold maxN at h3
  rw [if_neg (by omega), if_neg (by omega), if_neg (by omega)]
theorem addN_zero {a b : Int} (h : (addN a b).2 = 0) : 0 ≤ a ∧ 0 ≤ b ∧ a + b ≤ maxN := by
  unfold addN at h
  unfold maxN
  split at h
  · cases h
  · split at h
    · cases h
    · split at h
      · cases h
      · omega
theorem addL_ok (a b : List Amt) : ∀ (l : List ByteArray) (out : List Amt), (∀ x ∈ l, 0 ≤ getA a x ∧ 0 ≤ getA b x ∧ getA a x + getA b x ≤ maxN) → out.length + l.length ≤ 8 →
    addL a b l out = (out ++ l.map (fun x => ⟨x, getA a x + getA b x⟩), 0)
  | [], out, _, hl => by
    unfold addL
    rw [if_neg (by simp at hl; omega)]; simp
  | x :: r, out, h, hl => by
    obtain ⟨h1, h2, h3⟩ := h x (List.mem_cons_self ..)
    unfold addL
    rw [addN_room h1 h2 h3, if_neg (by simp), addL_ok a b r _ (fun y hy => h y (List.mem_cons_of_mem _ hy)) (by simp at hl ⊢; omega)]
    simp
theorem addL_zero (a b : List Amt) : ∀ (l : List ByteArray) (out : List Amt), (addL a b l out).2 = 0 → (∀ x ∈ l, 0 ≤ getA a x ∧ 0 ≤ getA b x ∧ getA a x + getA b x ≤ maxN) ∧ out.length + l.length ≤ 8
  | [], out, h => by
    unfold addL at h
    split at h
    · cases h
    · exact ⟨fun x hx => (by cases hx), by simp; omega⟩
  | x :: r, out, h => by
    unfold addL at h
    split at h
    · rename_i h0; exact absurd h h0
    · rename_i h0
      have h0 := Decidable.not_not.1 h0
      obtain ⟨i1, i2⟩ := addL_zero a b r _ h
      refine ⟨fun y hy => ?_, by simp at i2 ⊢; omega⟩
      rcases List.mem_cons.1 hy with rfl | hy
      · exact addN_zero h0
      · exact i1 y hy
def plusV (a b : List Amt) : List Amt := (namesV a b).map fun x => ⟨x, getA a x + getA b x⟩
structure Adds (a b : List Amt) : Prop where
  l : GoodV a
  r : GoodV b
  max : ∀ x, getA a x + getA b x ≤ maxN
  few : (namesV a b).length ≤ 8
theorem not_in {v : List Amt} {x : ByteArray} (h : ¬ x ∈ v.map (·.name)) : getA v x = 0 :=
  getA_none fun y hy e => h (by rw [← e]; exact List.mem_map_of_mem hy)
theorem Adds.add {a b : List Amt} (h : Adds a b) : addVec a b = (plusV a b, 0) := by
  unfold addVec
  rw [if_neg (fun k => k ((vec_iff a).2 h.l)), if_neg (fun k => k ((vec_iff b).2 h.r)), addL_ok a b _ _ (fun x _ => ⟨h.l.nonneg x, h.r.nonneg x, h.max x⟩) (by simpa using h.few)]
  rfl
theorem adds_of {a b : List Amt} (h : (addVec a b).2 = 0) : Adds a b := by
  unfold addVec at h
  split at h
  · rename_i k; exact absurd h k
  · split at h
    · rename_i k; exact absurd h k
    · rename_i k1 k2
      have g1 := (vec_iff a).1 (Decidable.not_not.1 k1)
      have g2 := (vec_iff b).1 (Decidable.not_not.1 k2)
      obtain ⟨i1, i2⟩ := addL_zero a b _ _ h
      refine ⟨g1, g2, fun x => ?_, by simpa using i2⟩
      by_cases hx : x ∈ namesV a b
      · exact (i1 x hx).2.2
      · rw [namesV_in, not_or] at hx
        rw [not_in hx.1, not_in hx.2]; unfold maxN; decide
theorem Adds.get {a b : List Amt} (h : Adds a b) (x : ByteArray) : getA (plusV a b) x = getA a x + getA b x := by
  classical
  have key : ∀ l : List ByteArray, l.Pairwise (fun a b => ltS a b = true) → getA (l.map fun x => (⟨x, getA a x + getA b x⟩ : Amt)) x = if x ∈ l then getA a x + getA b x else 0 := by
    intro l
    induction l with
    | nil => intro _; simp [getA]
    | cons y r ih =>
      intro hp
      obtain ⟨-, h2⟩ := List.pairwise_cons.1 hp
      rw [List.map_cons, getA_cons]
      by_cases e : y = x
      · subst e
        rw [if_pos rfl, if_pos (List.mem_cons_self ..)]
      · rw [if_neg e, ih h2]
        by_cases k : x ∈ r
        · rw [if_pos k, if_pos (List.mem_cons_of_mem _ k)]
        · rw [if_neg k, if_neg (by rw [List.mem_cons, not_or]; exact ⟨Ne.symm e, k⟩)]
  unfold plusV
  rw [key _ (namesV_rise a b h.l.up h.r.up)]
  split
  · rfl
  · rename_i hx
    rw [namesV_in, not_or] at hx
    rw [not_in hx.1, not_in hx.2]; rfl
theorem Adds.good {a b : List Amt} (h : Adds a b) : GoodV (plusV a b) := by
  unfold plusV
  refine ⟨by rw [List.length_map]; exact h.few, fun y hy => ?_, ?_⟩
  · obtain ⟨x, hx, rfl⟩ := List.mem_map.1 hy
    have h1 := h.l.nonneg x
    have h2 := h.r.nonneg x
    rcases (namesV_in x a b).1 hx with hx | hx
    · obtain ⟨q, hq, rfl⟩ := List.mem_map.1 hx
      refine ⟨(h.l.pos q hq).1, ?_⟩
      have := (h.l.pos q hq).2
      show 0 < getA a q.name + _
      rw [getA_mem h.l.up q hq]; omega
    · obtain ⟨q, hq, rfl⟩ := List.mem_map.1 hx
      refine ⟨(h.r.pos q hq).1, ?_⟩
      have := (h.r.pos q hq).2
      show 0 < _ + getA b q.name
      rw [getA_mem h.r.up q hq]; omega
  · rw [List.pairwise_map]
    exact namesV_rise a b h.l.up h.r.up
/-! Sums over a list. -/
section
variable {α : Type} (f : α → List Amt)
def tot : List α → ByteArray → Int
  | [], _ => 0
  | y :: r, x => getA (f y) x + tot r x
theorem tot_nonneg : ∀ (l : List α), (∀ y ∈ l, GoodV (f y)) → ∀ x, 0 ≤ tot f l x
  | [], _, _ => Int.le_refl _
  | y :: r, h, x => by
    have h1 := (h y (List.mem_cons_self ..)).nonneg x
    have h2 := tot_nonneg r (fun z hz => h z (List.mem_cons_of_mem _ hz)) x
    show 0 ≤ getA (f y) x + tot f r x
    omega
theorem tot_mem : ∀ (l : List α), (∀ y ∈ l, GoodV (f y)) → ∀ y ∈ l, ∀ x, getA (f y) x ≤ tot f l x
  | z :: r, h, y, hy, x => by
    have h1 := (h z (List.mem_cons_self ..)).nonneg x
    have h2 := tot_nonneg f r (fun z hz => h z (List.mem_cons_of_mem _ hz)) x
    show _ ≤ getA (f z) x + tot f r x
    rcases List.mem_cons.1 hy with rfl | hy
    · omega
    · have := tot_mem r (fun z hz => h z (List.mem_cons_of_mem _ hz)) y hy x
      omega
theorem tot_sub {l l' : List α} (hs : l'.Sublist l) : (∀ y ∈ l, GoodV (f y)) → ∀ x, tot f l' x ≤ tot f l x := by
  induction hs with
  | slnil => exact fun _ _ => Int.le_refl _
  | cons y _ ih =>
    intro h x
    have h1 := (h y (List.mem_cons_self ..)).nonneg x
    have := ih (fun z hz => h z (List.mem_cons_of_mem _ hz)) x
    show _ ≤ getA (f y) x + tot f _ x
    omega
  | cons_cons y _ ih =>
    intro h x
    have := ih (fun z hz => h z (List.mem_cons_of_mem _ hz)) x
    show getA (f y) x + tot f _ x ≤ getA (f y) x + tot f _ x
    omega
theorem tot_append : ∀ (l k : List α) (x : ByteArray), tot f (l ++ k) x = tot f l x + tot f k x
  | [], k, x => by show _ = 0 + _; rw [Int.zero_add]; rfl
  | y :: r, k, x => by
    show getA (f y) x + tot f (r ++ k) x = getA (f y) x + tot f r x + tot f k x
    rw [tot_append r k x]; omega
theorem tot_perm {l k : List α} (h : l.Perm k) (x : ByteArray) : tot f l x = tot f k x := by
  induction h with
  | nil => rfl
  | cons y _ ih => show getA (f y) x + _ = getA (f y) x + _; rw [ih]
  | swap y z r => show getA (f z) x + (getA (f y) x + _) = getA (f y) x + (getA (f z) x + _); omega
  | trans _ _ h1 h2 => exact h1.trans h2
theorem sumV_zero : ∀ (l : List α) (v : List Amt), GoodV v → (∀ x, getA v x ≤ maxN) → (sumV f l v).2 = 0 → (∀ y ∈ l, GoodV (f y)) ∧ GoodV (sumV f l v).1 ∧ (∀ x, getA (sumV f l v).1 x = getA v x + tot f l x) ∧ ∀ x, getA v x + tot f l x ≤ maxN
  | [], v, hv, hm, _ => ⟨fun y hy => (by cases hy), hv, fun x => (Int.add_zero _).symm, fun x => by show _ + 0 ≤ _; rw [Int.add_zero]; exact hm x⟩
  | y :: r, v, hv, hm, h => by
    unfold sumV at h ⊢
    split at h
    · rename_i k; exact absurd h k
    · rename_i k
      rw [if_neg k]
      have ha := adds_of (Decidable.not_not.1 k)
      rw [ha.add] at h ⊢
      obtain ⟨i1, i2, i3, i4⟩ := sumV_zero r (plusV v (f y)) ha.good (fun x => by rw [ha.get]; exact ha.max x) h
      refine ⟨fun z hz => ?_, i2, fun x => ?_, fun x => ?_⟩
      · rcases List.mem_cons.1 hz with rfl | hz
        · exact ha.r
        · exact i1 z hz
      · rw [i3, ha.get]
        show _ = _ + (getA (f y) x + tot f r x)
        omega
      · have := i4 x
        rw [ha.get] at this
        show _ + (getA (f y) x + tot f r x) ≤ _
        omega
theorem names_few {a b : List Amt} (ha : GoodV a) (hb : GoodV b) {U : List ByteArray} (h1 : ∀ z ∈ a, z.name ∈ U) (h2 : ∀ z ∈ b, z.name ∈ U) : (namesV a b).length ≤ U.length :=
  nodup_length (up_nodup (namesV_rise a b ha.up hb.up)) fun x hx => by
    rcases (namesV_in x a b).1 hx with hx | hx
    · obtain ⟨q, hq, rfl⟩ := List.mem_map.1 hx
      exact h1 q hq
    · obtain ⟨q, hq, rfl⟩ := List.mem_map.1 hx
      exact h2 q hq
theorem sumV_ok {U : List ByteArray} (hU : U.length ≤ 8) : ∀ (l : List α) (v : List Amt), GoodV v → (∀ y ∈ l, GoodV (f y)) → (∀ z ∈ v, z.name ∈ U) → (∀ y ∈ l, ∀ z ∈ f y, z.name ∈ U) → (∀ x, getA v x + tot f l x ≤ maxN) → (sumV f l v).2 = 0
  | [], _, _, _, _, _, _ => rfl
  | y :: r, v, hv, hf, u1, u2, hm => by
    have hy := hf y (List.mem_cons_self ..)
    have hr : ∀ z ∈ r, GoodV (f z) := fun z hz => hf z (List.mem_cons_of_mem _ hz)
    have ha : Adds v (f y) := ⟨hv, hy, fun x => by
      have h1 : getA v x + (getA (f y) x + tot f r x) ≤ maxN := hm x
      have h2 := tot_nonneg f r hr x
      omega, Nat.le_trans (names_few hv hy u1 (u2 y (List.mem_cons_self ..))) hU⟩
    unfold sumV
    rw [ha.add, if_neg (by simp)]
    refine sumV_ok hU r _ ha.good hr (fun z hz => ?_) (fun z hz => u2 z (List.mem_cons_of_mem _ hz)) (fun x => ?_)
    · obtain ⟨x, hx, rfl⟩ := List.mem_map.1 hz
      rcases (namesV_in x v (f y)).1 hx with hx | hx
      · obtain ⟨q, hq, rfl⟩ := List.mem_map.1 hx
        exact u1 q hq
      · obtain ⟨q, hq, rfl⟩ := List.mem_map.1 hx
        exact u2 y (List.mem_cons_self ..) q hq
    · rw [ha.get]
      have h1 : getA v x + (getA (f y) x + tot f r x) ≤ maxN := hm x
      omega
end
theorem fits_iff {need h : List Amt} (hn : GoodV need) (hh : ∀ x, 0 ≤ getA h x) : fitsV need h = true ↔ ∀ x, getA need x ≤ getA h x := by
  unfold fitsV
  rw [List.all_eq_true]
  constructor
  · intro k x
    by_cases e : getA need x = 0
    · rw [e]; exact hh x
    · obtain ⟨y, hy, rfl⟩ := getA_some e
      rw [getA_mem hn.up y hy]
      exact of_decide_eq_true (k y hy)
  · intro k y hy
    have := k y.name
    rw [getA_mem hn.up y hy] at this
    exact decide_eq_true this
/-! What is left. -/
theorem subN_room {a b : Int} (h2 : 0 ≤ b) (h3 : b ≤ a) : subN a b = (a - b, 0) := by
  unfold subN
  rw [if_neg (by omega), if_neg (by omega), if_neg (by omega)]
theorem subL_ok (a b : List Amt) : ∀ (l : List ByteArray) (out : List Amt), (∀ x ∈ l, 0 ≤ getA b x ∧ getA b x ≤ getA a x) →
    out.length + (l.filter fun x => decide (0 < getA a x - getA b x)).length ≤ 8 →
    subL a b l out = (out ++ (l.filter fun x => decide (0 < getA a x - getA b x)).map (fun x => ⟨x, getA a x - getA b x⟩), 0)
  | [], out, _, hl => by
    unfold subL
    rw [if_neg (by simp at hl; omega)]; simp
  | x :: r, out, h, hl => by
    obtain ⟨h1, h2⟩ := h x (List.mem_cons_self ..)
    unfold subL
    rw [subN_room h1 h2, if_neg (by simp)]
    simp only
    by_cases hp : 0 < getA a x - getA b x
    · rw [List.filter_cons_of_pos (by simpa using hp)] at hl ⊢
      rw [if_pos hp, subL_ok a b r _ (fun y hy => h y (List.mem_cons_of_mem _ hy)) (by simp at hl ⊢; omega)]
      simp
    · rw [List.filter_cons_of_neg (by simpa using hp)] at hl ⊢
      rw [if_neg hp, subL_ok a b r _ (fun y hy => h y (List.mem_cons_of_mem _ hy)) hl]
def lessV (a b : List Amt) : List Amt := ((namesV a b).filter fun x => decide (0 < getA a x - getA b x)).map fun x => ⟨x, getA a x - getA b x⟩
theorem sub_ok {a b : List Amt} (ha : GoodV a) (hb : GoodV b) (h : ∀ x, getA b x ≤ getA a x) : subVec a b = (lessV a b, 0) ∧ ∀ x, getA (lessV a b) x = getA a x - getA b x := by
  have hlen : ((namesV a b).filter fun x => decide (0 < getA a x - getA b x)).length ≤ 8 := by
    refine Nat.le_trans (nodup_length (v := a.map (·.name)) ((up_nodup (namesV_rise a b ha.up hb.up)).sublist List.filter_sublist) fun x hx => ?_) (by rw [List.length_map]; exact ha.len)
    obtain ⟨-, h2⟩ := List.mem_filter.1 hx
    have h2 := of_decide_eq_true h2
    have h3 := hb.nonneg x
    obtain ⟨y, hy, rfl⟩ := getA_some (v := a) (x := x) (by omega)
    exact List.mem_map_of_mem hy
  constructor
  · unfold subVec
    rw [if_neg (fun k => k ((vec_iff a).2 ha)), if_neg (fun k => k ((vec_iff b).2 hb)), subL_ok a b _ _ (fun x _ => ⟨hb.nonneg x, h x⟩) (by simpa using hlen)]
    rfl
  · intro x
    classical
    have key : ∀ l : List ByteArray, getA ((l.filter fun x => decide (0 < getA a x - getA b x)).map fun x => (⟨x, getA a x - getA b x⟩ : Amt)) x = if x ∈ l then getA a x - getA b x else 0 := by
      intro l
      induction l with
      | nil => simp [getA]
      | cons y r ih =>
        by_cases e : y = x
        · subst e
          by_cases hp : 0 < getA a y - getA b y
          · rw [List.filter_cons_of_pos (by simpa using hp), List.map_cons, getA_cons]
            rw [if_pos rfl, if_pos (List.mem_cons_self ..)]
          · rw [List.filter_cons_of_neg (by simpa using hp), ih, if_pos (List.mem_cons_self ..)]
            have := h y
            split <;> omega
        · have e2 : (x ∈ y :: r) ↔ x ∈ r := by rw [List.mem_cons]; exact ⟨fun k => k.resolve_left (Ne.symm e), .inr⟩
          by_cases hp : 0 < getA a y - getA b y
          · rw [List.filter_cons_of_pos (by simpa using hp), List.map_cons, getA_cons]
            rw [if_neg e, ih]
            simp only [e2]
          · rw [List.filter_cons_of_neg (by simpa using hp), ih]
            simp only [e2]
    unfold lessV
    rw [key]
    split
    · rfl
    · rename_i hx
      rw [namesV_in, not_or] at hx
      rw [not_in hx.1, not_in hx.2]; rfl
end Go.Proofs.YtnmhicgbdalniaaGreatDoor
namespace Go.Proofs.YtnmhicgbdalniaaGreatDoor
open Go.RowKit

/-! A sound cluster: the plain law; what keeps it sound. -/
abbrev UpN {α : Type} (nm : α → ByteArray) (l : List α) : Prop := l.Pairwise fun a b => ltS (nm a) (nm b) = true
def onAt (s : St) (name : ByteArray) : List Pd := s.pods.filter (onB name)
structure Sound (s : St) : Prop where
  nlen : s.nodes.length ≤ 32
  nok : ∀ n ∈ s.nodes, checkNode n = 0
  nup : UpN Nd.name s.nodes
  plen : s.pods.length ≤ 128
  pok : ∀ p ∈ s.pods, checkPod p = 0
  pup : UpN Pd.name s.pods
  bok : checkBudgets s.budgets = 0
  there : ∀ p ∈ s.pods, podV s p = 0
  room : ∀ n ∈ s.nodes, ∀ x, tot Pd.need (onAt s n.name) x ≤ getA n.cap x
  total : (totalV s).2 = 0
theorem firstV_zero {α : Type} {f : α → Int} : ∀ {l : List α}, firstV f l = 0 ↔ ∀ x ∈ l, f x = 0
  | [] => ⟨fun _ x h => (by cases h), fun _ => rfl⟩
  | x :: r => by
    unfold firstV
    constructor
    · intro h
      obtain ⟨h1, h2⟩ := orV_zero h
      intro y hy
      rcases List.mem_cons.1 hy with rfl | hy
      · exact h1
      · exact firstV_zero.1 h2 y hy
    · intro h
      rw [orV_r (h x (List.mem_cons_self ..))]
      exact firstV_zero.2 fun y hy => h y (List.mem_cons_of_mem _ hy)
theorem manyV_mk {α : Type} {lim : Nat} {l : List α} {n : Int} (h : l.length ≤ lim) (hn : n = 0) : manyV lim l n = 0 := by
  unfold manyV
  rw [if_neg (by omega)]; exact hn
theorem node_cap {n : Nd} (h : checkNode n = 0) : GoodV n.cap := by
  unfold checkNode at h
  exact (vec_iff _).1 (orV_zero (orV_zero h).2).1
theorem node_name {n : Nd} (h : checkNode n = 0) : isName n.name = true := by
  unfold checkNode at h
  have := (orV_zero h).1
  cases hv : isName n.name with
  | true => rfl
  | false => rw [hv] at this; cases this
theorem pod_need {p : Pd} (h : checkPod p = 0) : GoodV p.need := by
  unfold checkPod at h
  exact (vec_iff _).1 (orV_zero (orV_zero (orV_zero (orV_zero h).2).2).2).1
theorem pod_name {p : Pd} (h : checkPod p = 0) : isName p.name = true := by
  unfold checkPod at h
  have := (orV_zero h).1
  cases hv : isName p.name with
  | true => rfl
  | false => rw [hv] at this; cases this
theorem pod_at {p : Pd} {name : ByteArray} (h : checkPod p = 0) (hn : maybeV name = 0) : checkPod { p with node := name } = 0 := by
  unfold checkPod at *
  obtain ⟨h1, h⟩ := orV_zero h
  obtain ⟨h2, h⟩ := orV_zero h
  obtain ⟨h3, h⟩ := orV_zero h
  obtain ⟨h4, h⟩ := orV_zero h
  obtain ⟨h5, h⟩ := orV_zero h
  obtain ⟨h6, h⟩ := orV_zero h
  obtain ⟨h7, h⟩ := orV_zero h
  obtain ⟨h8, h⟩ := orV_zero h
  obtain ⟨h9, h⟩ := orV_zero h
  rw [orV_r h1, orV_r h2, orV_r (show prioV { p with node := name } = 0 from h3), orV_r h4, orV_r h5, orV_r h6, orV_r h7, orV_r h8, orV_r (show mostV { p with node := name } = 0 from h9)]
  exact hn
theorem find_up : ∀ {l : List Nd}, UpN Nd.name l → ∀ n ∈ l, findV l n.name = (n, true)
  | m :: r, h, n, hn => by
    obtain ⟨h1, h2⟩ := List.pairwise_cons.1 h
    unfold findV
    rcases List.mem_cons.1 hn with rfl | hn
    · rw [if_pos rfl]
    · rw [if_neg (ltS_ne (h1 n hn))]
      exact find_up h2 n hn
theorem find_is : ∀ {l : List Nd} {k : ByteArray}, (findV l k).2 = true → (findV l k).1.name = k
  | n :: r, k, h => by
    unfold findV at *
    by_cases e : n.name = k
    · rw [if_pos e]; exact e
    · rw [if_neg e] at h ⊢; exact find_is h
theorem find_has {l : List Nd} {k : ByteArray} : (findV l k).2 = true ↔ ∃ n ∈ l, n.name = k := by
  constructor
  · exact fun h => ⟨_, findV_mem h, find_is h⟩
  · rintro ⟨n, hn, rfl⟩
    induction l with
    | nil => cases hn
    | cons m r ih =>
      unfold findV
      by_cases e : m.name = n.name
      · rw [if_pos e]
      · rw [if_neg e]
        rcases List.mem_cons.1 hn with rfl | hn
        · exact absurd rfl e
        · exact ih hn
theorem cap_max {l : List Nd} (h : (sumV Nd.cap l []).2 = 0) : ∀ n ∈ l, ∀ x, getA n.cap x ≤ maxN := by
  obtain ⟨h1, -, -, h4⟩ := sumV_zero Nd.cap l [] goodV_nil (fun x => by show (0 : Int) ≤ maxN; unfold maxN; decide) h
  intro n hn x
  have := h4 x
  have := tot_mem Nd.cap l h1 n hn x
  have h0 : getA ([] : List Amt) x = 0 := rfl
  omega
/-- What is in use on a node: sums. -/
theorem used_says {s : St} {n : Nd} (hf : findV s.nodes n.name = (n, true)) (hc : GoodV n.cap) (hm : ∀ x, getA n.cap x ≤ maxN) :
    roomV s n = 0 ↔ (∀ p ∈ onAt s n.name, GoodV p.need) ∧ ∀ x, tot Pd.need (onAt s n.name) x ≤ getA n.cap x := by
  have hu : usedV s n.name = sumV Pd.need (onAt s n.name) [] := by
    unfold usedV
    rw [hf]; rfl
  have h0 : ∀ x, getA ([] : List Amt) x ≤ maxN := fun x => by show (0 : Int) ≤ maxN; unfold maxN; decide
  unfold roomV
  rw [hu]
  constructor
  · intro h
    obtain ⟨h1, h2⟩ := orV_zero h
    obtain ⟨i1, i2, i3, -⟩ := sumV_zero Pd.need _ [] goodV_nil h0 h1
    refine ⟨i1, fun x => ?_⟩
    cases hft : fitsV (sumV Pd.need (onAt s n.name) []).1 n.cap with
    | false => rw [hft] at h2; cases h2
    | true =>
      have := (fits_iff i2 (fun x => hc.nonneg x)).1 hft x
      rw [i3] at this
      have h0 : getA ([] : List Amt) x = 0 := rfl
      omega
  · rintro ⟨h1, h2⟩
    have hz : (sumV Pd.need (onAt s n.name) []).2 = 0 := sumV_ok Pd.need (U := n.cap.map (·.name)) (by rw [List.length_map]; exact hc.len) _ [] goodV_nil h1 (fun z hz => by cases hz) (fun p hp z hz => by
      have g := h1 p hp
      have k1 := tot_mem Pd.need _ h1 p hp z.name
      have k2 := h2 z.name
      rw [getA_mem g.up z hz] at k1
      have k3 := (g.pos z hz).2
      obtain ⟨y, hy, e⟩ := getA_some (v := n.cap) (x := z.name) (by omega)
      rw [← e]; exact List.mem_map_of_mem hy) (fun x => by
      have := h2 x
      have := hm x
      have h0 : getA ([] : List Amt) x = 0 := rfl
      omega)
    obtain ⟨i1, i2, i3, -⟩ := sumV_zero Pd.need _ [] goodV_nil h0 hz
    rw [orV_r hz]
    have : fitsV (sumV Pd.need (onAt s n.name) []).1 n.cap = true := (fits_iff i2 (fun x => hc.nonneg x)).2 fun x => by
      rw [i3]
      have h0 : getA ([] : List Amt) x = 0 := rfl
      have := h2 x
      omega
    rw [this]; rfl
theorem sound_iff (s : St) : checkSt s = 0 ↔ Sound s := by
  unfold checkSt
  constructor
  · intro h
    obtain ⟨h1, h⟩ := orV_zero h
    obtain ⟨h2, h⟩ := orV_zero h
    obtain ⟨h3, h⟩ := orV_zero h
    obtain ⟨h4, h⟩ := orV_zero h
    obtain ⟨h5, h6⟩ := orV_zero h
    obtain ⟨a1, a2⟩ := manyV_zero h1
    obtain ⟨a2, a3, -⟩ := rowsV_zero a2
    obtain ⟨b1, b2⟩ := manyV_zero h2
    obtain ⟨b2, b3, -⟩ := rowsV_zero b2
    refine ⟨a1, a2, a3, b1, b2, b3, h3, firstV_zero.1 h4, fun n hn => ?_, h6⟩
    exact ((used_says (find_up a3 n hn) (node_cap (a2 n hn)) (cap_max h6 n hn)).1 (firstV_zero.1 h5 n hn)).2
  · rintro ⟨a1, a2, a3, b1, b2, b3, h3, h4, h5, h6⟩
    rw [orV_r (show checkNodes s.nodes = 0 from manyV_mk a1 (rowsV_mk a2 a3 (fun q h => by cases h))), orV_r (show checkPods s.pods = 0 from manyV_mk b1 (rowsV_mk b2 b3 (fun q h => by cases h))), orV_r h3, orV_r (firstV_zero.2 h4),
      orV_r (firstV_zero.2 fun n hn => (used_says (find_up a3 n hn) (node_cap (a2 n hn)) (cap_max h6 n hn)).2 ⟨fun p hp => pod_need (b2 p (List.mem_filter.1 hp).1), h5 n hn⟩)]
    exact h6
theorem Sound.needs {s : St} (h : Sound s) (name : ByteArray) : ∀ p ∈ onAt s name, GoodV p.need := fun p hp => pod_need (h.pok p (List.mem_filter.1 hp).1)
theorem Sound.apart {s : St} (h : Sound s) : Apart s.pods := List.Pairwise.imp (fun k => ltS_ne k) h.pup
theorem Sound.find {s : St} (h : Sound s) {n : Nd} (hn : n ∈ s.nodes) : findV s.nodes n.name = (n, true) := find_up h.nup n hn
theorem Sound.capm {s : St} (h : Sound s) {n : Nd} (hn : n ∈ s.nodes) : ∀ x, getA n.cap x ≤ maxN := cap_max h.total n hn
/-- What is left on a node: differences. -/
theorem Sound.free {s : St} (h : Sound s) {n : Nd} (hn : n ∈ s.nodes) : ∃ v, freeV s n.name = (v, 0) ∧ ∀ x, getA v x = getA n.cap x - tot Pd.need (onAt s n.name) x := by
  have hr := (used_says (h.find hn) (node_cap (h.nok n hn)) (h.capm hn)).2 ⟨h.needs _, h.room n hn⟩
  unfold roomV at hr
  have hz := (orV_zero hr).1
  have hu : usedV s n.name = sumV Pd.need (onAt s n.name) [] := by
    unfold usedV
    rw [h.find hn]; rfl
  rw [hu] at hz
  obtain ⟨-, i2, i3, -⟩ := sumV_zero Pd.need _ [] goodV_nil (fun x => by show (0 : Int) ≤ maxN; unfold maxN; decide) hz
  have i4 : ∀ x, getA (sumV Pd.need (onAt s n.name) []).1 x = tot Pd.need (onAt s n.name) x := fun x => by
    rw [i3]
    have h0 : getA ([] : List Amt) x = 0 := rfl
    omega
  obtain ⟨j1, j2⟩ := sub_ok (node_cap (h.nok n hn)) i2 (fun x => by rw [i4]; exact h.room n hn x)
  refine ⟨_, ?_, fun x => by rw [j2, i4]⟩
  unfold freeV
  rw [hu, if_neg (fun k => k hz), h.find hn]
  exact j1
theorem onAt_sub {s : St} {l : List Pd} (h : l.Sublist s.pods) (name : ByteArray) : (l.filter (onB name)).Sublist (onAt s name) := h.filter _
/-- Fewer pods: sound still. -/
theorem Sound.fewer {s : St} (h : Sound s) {l : List Pd} (hl : l.Sublist s.pods) : Sound { s with pods := l } where
  nlen := h.nlen
  nok := h.nok
  nup := h.nup
  plen := Nat.le_trans hl.length_le h.plen
  pok := fun p hp => h.pok p (hl.subset hp)
  pup := h.pup.sublist hl
  bok := h.bok
  there := fun p hp => h.there p (hl.subset hp)
  room := fun n hn x => Int.le_trans (tot_sub Pd.need (onAt_sub hl n.name) (h.needs _) x) (h.room n hn x)
  total := h.total
theorem Sound.drop {s : St} (h : Sound s) (name : ByteArray) : Sound (dropS s name) := h.fewer List.filter_sublist
theorem Sound.drops {s : St} (h : Sound s) : ∀ l : List ByteArray, Sound (l.foldl dropS s) := by
  intro l
  induction l generalizing s with
  | nil => exact h
  | cons a r ih => exact ih (h.drop a)
/-- Where a pod fits there is room for it. -/
theorem fitD_says {s : St} {p : Pd} {name : ByteArray} (h : fitD s p name = 0) : (findV s.nodes name).2 = true ∧ (!(findV s.nodes name).1.cordon && matchV p.sel (findV s.nodes name).1.labels) = true ∧ (worstV p.tols (findV s.nodes name).1.taints).2 = false ∧ skewOk s p name = true ∧ (freeV s name).2 = 0 ∧ fitsV p.need (freeV s name).1 = true := by
  unfold fitD at h
  split at h
  · cases h
  · rename_i h1
    split at h
    · cases h
    · rename_i h2
      split at h
      · cases h
      · rename_i h3
        split at h
        · cases h
        · rename_i h4
          split at h
          · cases h
          · rename_i h5
            simp only [Bool.not_eq_false, Bool.and_eq_true, decide_eq_true_eq, Bool.not_eq_true] at h1 h2 h3 h4 h5
            exact ⟨h1, by rw [Bool.and_eq_true]; exact h2, h3, h4, h5.1, h5.2⟩
theorem fitD_mk {s : St} {p : Pd} {name : ByteArray} (h1 : (findV s.nodes name).2 = true) (h2 : (!(findV s.nodes name).1.cordon && matchV p.sel (findV s.nodes name).1.labels) = true) (h3 : (worstV p.tols (findV s.nodes name).1.taints).2 = false) (h4 : skewOk s p name = true) (h5 : (freeV s name).2 = 0)
    (h6 : fitsV p.need (freeV s name).1 = true) : fitD s p name = 0 := by
  unfold fitD
  rw [h1, h2, h3, h4, h5, h6]; rfl
theorem fit_room {s : St} {p : Pd} {name : ByteArray} (hs : Sound s) (hp : GoodV p.need) (h : fitV s p name = 0) :
    ∃ n ∈ s.nodes, n.name = name ∧ ∀ x, tot Pd.need (onAt (dropS s p.name) name) x + getA p.need x ≤ getA n.cap x := by
  obtain ⟨h1, -, -, -, h5, h6⟩ := fitD_says (show fitD (dropS s p.name) p name = 0 from h)
  obtain ⟨n, hn, rfl⟩ := find_has.1 h1
  refine ⟨n, hn, rfl, fun x => ?_⟩
  have hd := hs.drop p.name
  obtain ⟨v, e, hv⟩ := hd.free (n := n) hn
  rw [e] at h6
  have := (fits_iff hp (fun x => by rw [hv]; have := hd.room n hn x; omega)).1 h6 x
  rw [hv] at this
  omega
/-- A pod that is moved where there is room for it. -/
theorem move_at (s : St) (name to_ m : ByteArray) (ha : Apart s.pods) {p : Pd} (hp : p ∈ s.pods) (hn : p.name = name) (x : ByteArray) :
    tot Pd.need (onAt (moveS s name to_) m) x = tot Pd.need (onAt (dropS s name) m) x + (if to_ = m then getA p.need x else 0) := by
  unfold onAt moveS dropS isNm
  simp only
  generalize s.pods = l at *
  induction l with
  | nil => cases hp
  | cons q r ih =>
    obtain ⟨a1, a2⟩ := List.pairwise_cons.1 ha
    rw [List.map_cons]
    by_cases e : q.name = name
    · have hpq : p = q := apart_one ha p hp q (List.mem_cons_self ..) (hn.trans e.symm)
      subst hpq
      have hr : r.map (fun p => if p.name = name then { p with node := to_ } else p) = r := by
        conv => rhs; rw [← List.map_id r]
        refine List.map_congr_left fun z hz => ?_
        rw [if_neg (fun k => a1 z hz (e.trans k.symm))]; rfl
      have hf : r.filter (fun p => !decide (p.name = name)) = r := List.filter_eq_self.2 fun z hz => by
        have : ¬ z.name = name := fun k => a1 z hz (e.trans k.symm)
        simp [this]
      rw [hr, if_pos e, List.filter_cons_of_neg (p := fun p : Pd => !decide (p.name = name)) (by simp [e]), hf]
      by_cases k : to_ = m
      · rw [if_pos k, List.filter_cons_of_pos (by simp [onB, k])]
        show getA p.need x + _ = _
        omega
      · rw [if_neg k, List.filter_cons_of_neg (by simp [onB, k])]
        omega
    · rw [if_neg e]
      have hp' : p ∈ r := by
        rcases List.mem_cons.1 hp with rfl | h
        · exact absurd hn e
        · exact h
      have i := ih a2 hp'
      rw [List.filter_cons_of_pos (p := fun p : Pd => !decide (p.name = name)) (by simp [e])]
      by_cases k : onB m q = true
      · rw [List.filter_cons_of_pos k, List.filter_cons_of_pos k]
        show getA q.need x + _ = getA q.need x + _ + _
        omega
      · rw [List.filter_cons_of_neg k, List.filter_cons_of_neg k]
        exact i
theorem name_maybe {name : ByteArray} (h : isName name = true) : maybeV name = 0 := by
  unfold maybeV
  rw [if_neg]
  rintro ⟨-, h2⟩
  rw [h] at h2; cases h2
theorem Sound.move {s : St} (h : Sound s) {name : ByteArray} {n : Nd} (hn : n ∈ s.nodes) {p : Pd} (hp : p ∈ s.pods) (hpn : p.name = name)
    (hr : ∀ x, tot Pd.need (onAt (dropS s name) n.name) x + getA p.need x ≤ getA n.cap x) : Sound (moveS s name n.name) where
  nlen := h.nlen
  nok := h.nok
  nup := h.nup
  plen := by show (List.map _ _).length ≤ _; rw [List.length_map]; exact h.plen
  pok := fun q hq => by
    obtain ⟨z, hz, rfl⟩ := List.mem_map.1 hq
    split
    · exact pod_at (h.pok z hz) (name_maybe (node_name (h.nok n hn)))
    · exact h.pok z hz
  pup := by
    show List.Pairwise _ (List.map _ _)
    rw [List.pairwise_map]
    refine List.Pairwise.imp (fun {a b} k => ?_) h.pup
    have e : ∀ a : Pd, (if a.name = name then { a with node := n.name } else a).name = a.name := fun a => by split <;> rfl
    rw [e, e]; exact k
  bok := h.bok
  there := fun q hq => by
    obtain ⟨z, hz, rfl⟩ := List.mem_map.1 hq
    split
    · unfold podV
      rw [if_neg]
      rintro ⟨-, h2⟩
      rw [show (findV (moveS s name n.name).nodes n.name) = (n, true) from h.find hn] at h2
      cases h2
    · exact h.there z hz
  room := fun m hm x => by
    rw [move_at s name n.name m.name h.apart hp hpn x]
    by_cases e : n.name = m.name
    · rw [if_pos e]
      have hnm : n = m := by
        have h1 := h.find hn
        rw [e, h.find hm] at h1
        injection h1 with h1 _
        exact h1.symm
      subst hnm
      exact hr x
    · rw [if_neg e]
      have := (h.drop name).room m hm x
      omega
  total := h.total
theorem Sound.moveFit {s : St} (h : Sound s) {p : Pd} (hp : p ∈ s.pods) {to_ : ByteArray} (hf : fitV s p to_ = 0) : Sound (moveS s p.name to_) := by
  obtain ⟨n, hn, rfl, hr⟩ := fit_room h (pod_need (h.pok p hp)) hf
  exact h.move hn hp rfl hr
end Go.Proofs.YtnmhicgbdalniaaGreatDoor
