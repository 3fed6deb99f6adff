import Derived.Test.YtfbmfjmnpfidoaaProg
import Derived.Test.YtfbmfjmnpfidoaaMy1
import Derived.Test.YtfbmfjmnpfidoaaMy2
import Derived.Test.YtfbmfjmnpfidoaaMy3
import Derived.Test.YtfbmfjmnpfidoaaMy5
import Derived.IntWalk
import Derived.Deep.Light
namespace Go.Proofs.Ytfbmfjmnpfidoaa
open Go.RowKit Go.Sort

/-- Elements side by side in a block. -/
theorem Kd.S.cells {α : Type} {d : Kd α} {h : View} {b : Nat} {T : TypeId} {css : List (List Value)} {xs : List α} (hb : h b = some (.cells css.flatten.toArray T (0, 0))) (hl : css.length = xs.length)
    (hk : ∀ (j : Nat) (x : α), xs[j]? = some x → ∃ cs, css[j]? = some cs ∧ d.K h x cs) (hx : xs.length ≤ 140737488351232) : d.S h (.slice (some ⟨b, 0, none⟩) xs.length xs.length) xs := by
  have hlen : ∀ c ∈ css, c.length = d.sz := fun c hc => by
    obtain ⟨j, hj, rfl⟩ := List.getElem_of_mem hc
    obtain ⟨cs, a, b⟩ := hk j xs[j] (List.getElem?_eq_getElem (by omega))
    rw [List.getElem?_eq_getElem hj] at a
    injection a with a
    rw [a]; exact d.len b
  refine ⟨_, _, rfl, Nat.le_refl _, hx, fun e => (by cases e), fun _ => ⟨b, 0, rfl, fun j x hj => ?_⟩⟩
  obtain ⟨cs, a, k⟩ := hk j x hj
  refine ⟨cs, k, fun i u hu => ?_⟩
  have hi : i < d.sz := by have := (List.getElem?_eq_some_iff.1 hu).1; rw [d.len k] at this; exact this
  have h4 := flatten_get css hlen j i cs a hi
  rw [hu] at h4
  simp [View.cell?, hb]
  simpa using h4
def k0 : St := ⟨[ndZ (tx [97]) (tx [120]), ndZ (tx [98]) (tx [121]), ndZ (tx [99]) (tx [120]), ndN (tx [100]) 9], [pdO (tx [112]) (tx [97]) 1, pdO (tx [113]) (tx [99]) 1, pdO (tx [114]) ⟨#[]⟩ 1], []⟩
theorem k0_b : skewV k0 (pdO (tx [114]) ⟨#[]⟩ 1) (tx [98]) = (0, true) := by decide +kernel
theorem k0_a : skewV k0 (pdO (tx [114]) ⟨#[]⟩ 1) (tx [97]) = (3, true) := by decide +kernel
theorem k0_d : skewV k0 (pdO (tx [114]) ⟨#[]⟩ 1) (tx [100]) = (0, false) := by decide +kernel
theorem k0_k : skewV k0 (pdP (tx [107]) 1 ⟨#[]⟩) (tx [100]) = (0, true) := by decide +kernel
theorem k0_doms : domsV k0.nodes (tx [122, 111, 110, 101]) = [[120], [121]] := by decide +kernel
theorem k0_c2 : countV k0 (pdO (tx [114]) ⟨#[]⟩ 1) (tx [120]) k0.pods = 2 := by decide +kernel
theorem k0_c1 : countV k0 (pdO (tx [112]) (tx [97]) 1) (tx [120]) k0.pods = 1 := by decide +kernel
theorem k0_bad : badL k0 k0.pods = [tx [112], tx [113]] := by decide +kernel
theorem sok_small {l : List UInt8} (h : l.length ≤ 50) : sok (tx l) := by
  show (tx l).size ≤ _
  have : (tx l).size = l.length := rfl
  omega
theorem doms_S {w : World} {base : Nat} {e : TypeId} {v : Value} {l : List (List UInt8)} (h : w.ownsRow base e 1 v l.length (l.map encStr)) (hl : l.length ≤ 140737488351232) (hp : ∀ x ∈ l, x.length ≤ 140737488351232) : Kd.str.S (vw w []) v (l.map ba) := by
  refine Kd.S.of_own (f := Value.string) (base := base) (e := e) (n := l.length) ?_ (by simpa using hl) (fun x hx => ?_) (by simp)
  · rw [List.map_map]; exact h
  · obtain ⟨y, hy, rfl⟩ := List.mem_map.1 hx
    exact hp y hy
theorem bad_S {w : World} {base : Nat} {e : TypeId} {v : Value} {l : List ByteArray} (h : w.ownsRow base e 1 v l.length (l.map Value.string)) (hl : l.length ≤ 140737488351232) (hp : ∀ x ∈ l, sok x) : Kd.str.S (vw w []) v l :=
  Kd.S.of_own (f := Value.string) h hl hp (by simp)
theorem strs_two {w : World} {b : Nat} {a c : ByteArray} {T : TypeId} (h : w.heap[b]? = some (.cells #[.string a, .string c] T (0, 0))) (ha : sok a := by (unfold sok; decide)) (hc : sok c := by (unfold sok; decide)) : Kd.str.S (vw w []) (.slice (some ⟨b, 0, none⟩) 2 2) [a, c] :=
  Kd.S.of_block (f := Value.string) (xs := [a, c]) h (by simp) (by simp) (fun x hx => by
    rcases List.mem_cons.1 hx with rfl | hx
    · exact ha
    · obtain rfl : x = c := by simpa using hx
      exact hc)
theorem two_ok : ∀ x ∈ [tx [112], tx [113]], sok x := fun x hx => by
  rcases List.mem_cons.1 hx with rfl | hx
  · exact sok_small (by decide)
  · obtain rfl : x = tx [113] := by simpa using hx
    exact sok_small (by decide)
theorem Names_same (va vb : Value) (a : List ByteArray) (w : World) (ha : Kd.str.S (vw w []) va a) (hb : Kd.str.S (vw w []) vb a) : Calls Try.prog 15 #[va, vb] w (BoolDone true w) :=
  (Names_calls va vb a a w ha hb).mono fun _ _ h => ⟨h.1.trans (by simp), h.2⟩
structure KAt (ss ps : Nat) (sc pc c1 c3 : Array Value) (W : World) : Prop where
  qs : W.heap[ss]? = some (.cells sc 26 (0, 0))
  qp : W.heap[ps]? = some (.cells pc 35 (0, 0))
  hv : Kd.state.V (vw W []) (.agg sc) k0
  h1 : Kd.pod.V (vw W []) (.agg c1) (pdO (tx [112]) (tx [97]) 1)
  h3 : Kd.pod.V (vw W []) (.agg c3) (pdO (tx [114]) ⟨#[]⟩ 1)
theorem KAt.below {ss ps : Nat} {sc pc c1 c3 : Array Value} {W W' : World} (h : KAt ss ps sc pc c1 c3 W) (hb : Below W.heap.size W W') : KAt ss ps sc pc c1 c3 W' :=
  ⟨(hb.block _ (blk_lt h.qs)).trans h.qs, (hb.block _ (blk_lt h.qp)).trans h.qp, h.hv.mono (vw_below hb), h.h1.mono (vw_below hb), h.h3.mono (vw_below hb)⟩
theorem kat_alloc {ss ps : Nat} {sc pc c1 c3 : Array Value} {W : World} (h : KAt ss ps sc pc c1 c3 W) (o : Obj) : (∀ j, (W.alloc o).cell? ⟨ss, j, none⟩ = sc[j]?) ∧ ∀ j, (W.alloc o).cell? ⟨ps, j, none⟩ = pc[j]? :=
  ⟨(blk_all ((blk_old _ _ (blk_lt h.qs)).trans h.qs)).1, (blk_all ((blk_old _ _ (blk_lt h.qp)).trans h.qp)).1⟩
theorem kat_alloc_drew {ss ps : Nat} {sc pc c1 c3 : Array Value} {W : World} (h : KAt ss ps sc pc c1 c3 W) (o : Obj) : (∀ j, (W.alloc o).drew.cell? ⟨ss, j, none⟩ = sc[j]?) ∧ ∀ j, (W.alloc o).drew.cell? ⟨ps, j, none⟩ = pc[j]? := kat_alloc h o
set_option maxHeartbeats 8000000 in
set_option maxRecDepth 100000 in
theorem known_calls (w : World) : Calls Try.prog 7 #[] w (BoolDone true w) := by
  go_enter Try.func7, Try.ntmps7
  go_wp2_with fail
  refine (Zoned_calls (tx [97]) (tx [120]) _ (sok_small (by decide)) (sok_small (by decide))).mono ?_
  rintro e w1 ⟨cs, rfl, hk, hb⟩
  have HB1 := Lib.hid (hb)
  have HK1 := Lib.hid (Kd.node.mono (nx_vw (M := []) (by simp)) hk)
  obtain ⟨A1, a1, A2, a2, A3, a3, rfl, -⟩ := hk
  change Hid (Kd.node.K _ _ [.string (tx [97]), .slice A1 1 a1, .slice A2 1 a2, .slice A3 0 a3, .bool false]) at HK1
  clear hb
  go_wp2_with fail
  refine (Zoned_calls (tx [98]) (tx [121]) _ (sok_small (by decide)) (sok_small (by decide))).mono ?_
  rintro e w2 ⟨cs, rfl, hk, hb⟩
  have HB2 := Lib.hid (Below.then HB1.out hb)
  have HK2 := Lib.hid (Kd.node.mono (nx_vw (M := []) (by simp)) hk)
  replace HK1 := Lib.hid (Kd.node.mono (vw_below hb) HK1.out)
  obtain ⟨B1, b1, B2, b2, B3, b3, rfl, -⟩ := hk
  change Hid (Kd.node.K _ _ [.string (tx [98]), .slice B1 1 b1, .slice B2 1 b2, .slice B3 0 b3, .bool false]) at HK2
  clear hb HB1
  go_wp2_with fail
  refine (Zoned_calls (tx [99]) (tx [120]) _ (sok_small (by decide)) (sok_small (by decide))).mono ?_
  rintro e w3 ⟨cs, rfl, hk, hb⟩
  have HB3 := Lib.hid (Below.then HB2.out hb)
  have HK3 := Lib.hid (Kd.node.mono (nx_vw (M := []) (by simp)) hk)
  replace HK1 := Lib.hid (Kd.node.mono (vw_below hb) HK1.out)
  replace HK2 := Lib.hid (Kd.node.mono (vw_below hb) HK2.out)
  obtain ⟨C1, c1, C2, c2, C3, c3, rfl, -⟩ := hk
  change Hid (Kd.node.K _ _ [.string (tx [99]), .slice C1 1 c1, .slice C2 1 c2, .slice C3 0 c3, .bool false]) at HK3
  clear hb HB2
  go_wp2_with fail
  refine (N_calls (tx [100]) 9 _ (sok_small (by decide)) ⟨by decide, by decide⟩).mono ?_
  rintro e w4 ⟨cs, rfl, hk, hb⟩
  have HB4 := Lib.hid (Below.then HB3.out hb)
  have HK4 := Lib.hid (Kd.node.mono (nx_vw (M := []) (by simp)) hk)
  replace HK1 := Lib.hid (Kd.node.mono (vw_below hb) HK1.out)
  replace HK2 := Lib.hid (Kd.node.mono (vw_below hb) HK2.out)
  replace HK3 := Lib.hid (Kd.node.mono (vw_below hb) HK3.out)
  obtain ⟨D1, d1, D2, d2, D3, d3, rfl, -⟩ := hk
  change Hid (Kd.node.K _ _ [.string (tx [100]), .slice D1 1 d1, .slice D2 0 d2, .slice D3 0 d3, .bool false]) at HK4
  clear hb HB3
  go_wp2_with fail
  refine (Owned_calls (tx [112]) (tx [97]) 1 _ (sok_small (by decide)) (sok_small (by decide)) ⟨by decide, by decide⟩).mono ?_
  rintro e w5 ⟨cs, rfl, hk, hb⟩
  have HB5 := Lib.hid (Below.then (alloc_then HB4.out _) hb)
  have hq := (hb.block w4.heap.size (by simp)).trans (blk_last w4 _)
  have HN := Lib.hid hq
  clear hq
  have HK5 := Lib.hid (Kd.pod.mono (nx_vw (M := []) (by simp)) hk)
  replace HK1 := Lib.hid (Kd.node.mono (vw_below (Below.then (alloc_below _ _) hb)) HK1.out)
  replace HK2 := Lib.hid (Kd.node.mono (vw_below (Below.then (alloc_below _ _) hb)) HK2.out)
  replace HK3 := Lib.hid (Kd.node.mono (vw_below (Below.then (alloc_below _ _) hb)) HK3.out)
  replace HK4 := Lib.hid (Kd.node.mono (vw_below (Below.then (alloc_below _ _) hb)) HK4.out)
  obtain ⟨E1, e1, E2, e2, E3, e3, E4, e4, rfl, -⟩ := hk
  change Hid (Kd.pod.K _ _ [.string (tx [112]), .string (tx [119, 101, 98]), .int .i64 0, .slice E1 1 e1, .slice E2 0 e2, .slice E3 0 e3, .slice E4 0 e4, .string (tx [122, 111, 110, 101]), .int .i64 1, .string (tx [97]), .bool false]) at HK5
  clear hb HB4
  go_wp2_with fail
  refine (Owned_calls (tx [113]) (tx [99]) 1 _ (sok_small (by decide)) (sok_small (by decide)) ⟨by decide, by decide⟩).mono ?_
  rintro e w6 ⟨cs, rfl, hk, hb⟩
  have HB6 := Lib.hid (Below.then HB5.out hb)
  replace HN := Lib.hid ((hb.block _ (blk_lt HN.out)).trans HN.out)
  have HK6 := Lib.hid (Kd.pod.mono (nx_vw (M := []) (by simp)) hk)
  replace HK1 := Lib.hid (Kd.node.mono (vw_below hb) HK1.out)
  replace HK2 := Lib.hid (Kd.node.mono (vw_below hb) HK2.out)
  replace HK3 := Lib.hid (Kd.node.mono (vw_below hb) HK3.out)
  replace HK4 := Lib.hid (Kd.node.mono (vw_below hb) HK4.out)
  replace HK5 := Lib.hid (Kd.pod.mono (vw_below hb) HK5.out)
  obtain ⟨F1, f1, F2, f2, F3, f3, F4, f4, rfl, -⟩ := hk
  change Hid (Kd.pod.K _ _ [.string (tx [113]), .string (tx [119, 101, 98]), .int .i64 0, .slice F1 1 f1, .slice F2 0 f2, .slice F3 0 f3, .slice F4 0 f4, .string (tx [122, 111, 110, 101]), .int .i64 1, .string (tx [99]), .bool false]) at HK6
  clear hb HB5
  go_wp2_with fail
  refine (Owned_calls (tx [114]) ⟨#[]⟩ 1 _ (sok_small (by decide)) sok_none ⟨by decide, by decide⟩).mono ?_
  rintro e w7 ⟨cs, rfl, hk, hb⟩
  have HB7 := Lib.hid (Below.then HB6.out hb)
  replace HN := Lib.hid ((hb.block _ (blk_lt HN.out)).trans HN.out)
  have HK7 := Lib.hid (Kd.pod.mono (nx_vw (M := []) (by simp)) hk)
  replace HK1 := Lib.hid (Kd.node.mono (vw_below hb) HK1.out)
  replace HK2 := Lib.hid (Kd.node.mono (vw_below hb) HK2.out)
  replace HK3 := Lib.hid (Kd.node.mono (vw_below hb) HK3.out)
  replace HK4 := Lib.hid (Kd.node.mono (vw_below hb) HK4.out)
  replace HK5 := Lib.hid (Kd.pod.mono (vw_below hb) HK5.out)
  replace HK6 := Lib.hid (Kd.pod.mono (vw_below hb) HK6.out)
  obtain ⟨G1, g1, G2, g2, G3, g3, G4, g4, rfl, -⟩ := hk
  change Hid (Kd.pod.K _ _ [.string (tx [114]), .string (tx [119, 101, 98]), .int .i64 0, .slice G1 1 g1, .slice G2 0 g2, .slice G3 0 g3, .slice G4 0 g4, .string (tx [122, 111, 110, 101]), .int .i64 1, .string ⟨#[]⟩, .bool false]) at HK7
  clear hb HB6
  go_upto_region 2 with fail
  obtain ⟨U, hU⟩ : ∃ U : World, U = ((w7.alloc (.cells #[.string (tx [112]), .string (tx [119, 101, 98]), .int .i64 0, .slice E1 1 e1, .slice E2 0 e2, .slice E3 0 e3, .slice E4 0 e4, .string (tx [122, 111, 110, 101]), .int .i64 1, .string (tx [97]), .bool false, .string (tx [113]), .string (tx [119, 101, 98]), .int .i64 0, .slice F1 1 f1, .slice F2 0 f2, .slice F3 0 f3, .slice F4 0 f4, .string (tx [122, 111, 110, 101]), .int .i64 1, .string (tx [99]), .bool false, .string (tx [114]), .string (tx [119, 101, 98]), .int .i64 0, .slice G1 1 g1, .slice G2 0 g2, .slice G3 0 g3, .slice G4 0 g4, .string (tx [122, 111, 110, 101]), .int .i64 1, .string ⟨#[]⟩, .bool false] 35)).alloc (.cells #[.slice (some ⟨w4.heap.size, 0, none⟩) 4 4, .slice (some ⟨w7.heap.size, 0, none⟩) 3 3, .slice none 0 0] 26)) := ⟨_, rfl⟩
  change Code.wp _ _ _ _ ((w7.alloc (.cells #[.string (tx [112]), .string (tx [119, 101, 98]), .int .i64 0, .slice E1 1 e1, .slice E2 0 e2, .slice E3 0 e3, .slice E4 0 e4, .string (tx [122, 111, 110, 101]), .int .i64 1, .string (tx [97]), .bool false, .string (tx [113]), .string (tx [119, 101, 98]), .int .i64 0, .slice F1 1 f1, .slice F2 0 f2, .slice F3 0 f3, .slice F4 0 f4, .string (tx [122, 111, 110, 101]), .int .i64 1, .string (tx [99]), .bool false, .string (tx [114]), .string (tx [119, 101, 98]), .int .i64 0, .slice G1 1 g1, .slice G2 0 g2, .slice G3 0 g3, .slice G4 0 g4, .string (tx [122, 111, 110, 101]), .int .i64 1, .string ⟨#[]⟩, .bool false] 35)).alloc (.cells #[.slice (some ⟨w4.heap.size, 0, none⟩) 4 4, .slice (some ⟨w7.heap.size, 0, none⟩) 3 3, .slice none 0 0] 26))
  rw [← hU]
  have hbU : Below w7.heap.size w7 U := by rw [hU]; exact Below.then (alloc_below _ _) (alloc_below _ _)
  have qs : U.heap[w7.heap.size + 1]? = some (.cells #[.slice (some ⟨w4.heap.size, 0, none⟩) 4 4, .slice (some ⟨w7.heap.size, 0, none⟩) 3 3, .slice none 0 0] 26 (0, 0)) := by
    rw [hU]
    have := blk_last (w7.alloc (.cells #[.string (tx [112]), .string (tx [119, 101, 98]), .int .i64 0, .slice E1 1 e1, .slice E2 0 e2, .slice E3 0 e3, .slice E4 0 e4, .string (tx [122, 111, 110, 101]), .int .i64 1, .string (tx [97]), .bool false, .string (tx [113]), .string (tx [119, 101, 98]), .int .i64 0, .slice F1 1 f1, .slice F2 0 f2, .slice F3 0 f3, .slice F4 0 f4, .string (tx [122, 111, 110, 101]), .int .i64 1, .string (tx [99]), .bool false, .string (tx [114]), .string (tx [119, 101, 98]), .int .i64 0, .slice G1 1 g1, .slice G2 0 g2, .slice G3 0 g3, .slice G4 0 g4, .string (tx [122, 111, 110, 101]), .int .i64 1, .string ⟨#[]⟩, .bool false] 35)) (.cells #[.slice (some ⟨w4.heap.size, 0, none⟩) 4 4, .slice (some ⟨w7.heap.size, 0, none⟩) 3 3, .slice none 0 0] 26)
    simpa using this
  have qp : U.heap[w7.heap.size]? = some (.cells #[.string (tx [112]), .string (tx [119, 101, 98]), .int .i64 0, .slice E1 1 e1, .slice E2 0 e2, .slice E3 0 e3, .slice E4 0 e4, .string (tx [122, 111, 110, 101]), .int .i64 1, .string (tx [97]), .bool false, .string (tx [113]), .string (tx [119, 101, 98]), .int .i64 0, .slice F1 1 f1, .slice F2 0 f2, .slice F3 0 f3, .slice F4 0 f4, .string (tx [122, 111, 110, 101]), .int .i64 1, .string (tx [99]), .bool false, .string (tx [114]), .string (tx [119, 101, 98]), .int .i64 0, .slice G1 1 g1, .slice G2 0 g2, .slice G3 0 g3, .slice G4 0 g4, .string (tx [122, 111, 110, 101]), .int .i64 1, .string ⟨#[]⟩, .bool false] 35 (0, 0)) := by
    rw [hU]; exact (blk_old _ _ (by simp)).trans (blk_last _ _)
  have qn := (hbU.block _ (blk_lt HN.out)).trans HN.out
  have hv : Kd.state.V (vw U []) (.agg #[.slice (some ⟨w4.heap.size, 0, none⟩) 4 4, .slice (some ⟨w7.heap.size, 0, none⟩) 3 3, .slice none 0 0]) k0 := by
    refine ⟨_, rfl, _, _, _, _, _, _, rfl, ?_, ?_, Kd.S.nil _ _⟩
    · refine Kd.S.cells (d := Kd.node) (css := [[.string (tx [97]), .slice A1 1 a1, .slice A2 1 a2, .slice A3 0 a3, .bool false], [.string (tx [98]), .slice B1 1 b1, .slice B2 1 b2, .slice B3 0 b3, .bool false], [.string (tx [99]), .slice C1 1 c1, .slice C2 1 c2, .slice C3 0 c3, .bool false], [.string (tx [100]), .slice D1 1 d1, .slice D2 0 d2, .slice D3 0 d3, .bool false]]) (vw_mk (by simp) qn) rfl (fun j x hj => ?_) (by decide)
      rcases j with _ | _ | _ | _ | j
      · cases hj; exact ⟨_, rfl, Kd.node.mono (vw_below hbU) HK1.out⟩
      · cases hj; exact ⟨_, rfl, Kd.node.mono (vw_below hbU) HK2.out⟩
      · cases hj; exact ⟨_, rfl, Kd.node.mono (vw_below hbU) HK3.out⟩
      · cases hj; exact ⟨_, rfl, Kd.node.mono (vw_below hbU) HK4.out⟩
      · simp [k0] at hj
    · refine Kd.S.cells (d := Kd.pod) (css := [[.string (tx [112]), .string (tx [119, 101, 98]), .int .i64 0, .slice E1 1 e1, .slice E2 0 e2, .slice E3 0 e3, .slice E4 0 e4, .string (tx [122, 111, 110, 101]), .int .i64 1, .string (tx [97]), .bool false], [.string (tx [113]), .string (tx [119, 101, 98]), .int .i64 0, .slice F1 1 f1, .slice F2 0 f2, .slice F3 0 f3, .slice F4 0 f4, .string (tx [122, 111, 110, 101]), .int .i64 1, .string (tx [99]), .bool false], [.string (tx [114]), .string (tx [119, 101, 98]), .int .i64 0, .slice G1 1 g1, .slice G2 0 g2, .slice G3 0 g3, .slice G4 0 g4, .string (tx [122, 111, 110, 101]), .int .i64 1, .string ⟨#[]⟩, .bool false]]) (vw_mk (by simp) qp) rfl (fun j x hj => ?_) (by decide)
      rcases j with _ | _ | _ | j
      · cases hj; exact ⟨_, rfl, Kd.pod.mono (vw_below hbU) HK5.out⟩
      · cases hj; exact ⟨_, rfl, Kd.pod.mono (vw_below hbU) HK6.out⟩
      · cases hj; exact ⟨_, rfl, Kd.pod.mono (vw_below hbU) HK7.out⟩
      · simp [k0] at hj
  have HK : Hid (KAt (w7.heap.size + 1) w7.heap.size #[.slice (some ⟨w4.heap.size, 0, none⟩) 4 4, .slice (some ⟨w7.heap.size, 0, none⟩) 3 3, .slice none 0 0] #[.string (tx [112]), .string (tx [119, 101, 98]), .int .i64 0, .slice E1 1 e1, .slice E2 0 e2, .slice E3 0 e3, .slice E4 0 e4, .string (tx [122, 111, 110, 101]), .int .i64 1, .string (tx [97]), .bool false, .string (tx [113]), .string (tx [119, 101, 98]), .int .i64 0, .slice F1 1 f1, .slice F2 0 f2, .slice F3 0 f3, .slice F4 0 f4, .string (tx [122, 111, 110, 101]), .int .i64 1, .string (tx [99]), .bool false, .string (tx [114]), .string (tx [119, 101, 98]), .int .i64 0, .slice G1 1 g1, .slice G2 0 g2, .slice G3 0 g3, .slice G4 0 g4, .string (tx [122, 111, 110, 101]), .int .i64 1, .string ⟨#[]⟩, .bool false] #[.string (tx [112]), .string (tx [119, 101, 98]), .int .i64 0, .slice E1 1 e1, .slice E2 0 e2, .slice E3 0 e3, .slice E4 0 e4, .string (tx [122, 111, 110, 101]), .int .i64 1, .string (tx [97]), .bool false] #[.string (tx [114]), .string (tx [119, 101, 98]), .int .i64 0, .slice G1 1 g1, .slice G2 0 g2, .slice G3 0 g3, .slice G4 0 g4, .string (tx [122, 111, 110, 101]), .int .i64 1, .string ⟨#[]⟩, .bool false] U) := ⟨qs, qp, hv, ⟨_, rfl, Kd.pod.mono (vw_below hbU) HK5.out⟩, ⟨_, rfl, Kd.pod.mono (vw_below hbU) HK7.out⟩⟩
  have HB := Lib.hid (Below.then HB7.out hbU)
  clear hU hbU qs qp qn hv HB7 HN HK1 HK2 HK3 HK4 HK5 HK6 HK7
  obtain ⟨z, zf⟩ := blk_all HK.out.qs
  obtain ⟨y, yf⟩ := blk_all HK.out.qp
  go_region_held3 (fun w' => (∀ j, w'.cell? ⟨w7.heap.size + 1, j, none⟩ = #[.slice (some ⟨w4.heap.size, 0, none⟩) 4 4, .slice (some ⟨w7.heap.size, 0, none⟩) 3 3, .slice none 0 0][j]?) ∧ ∀ j, w'.cell? ⟨w7.heap.size, j, none⟩ = #[.string (tx [112]), .string (tx [119, 101, 98]), .int .i64 0, .slice E1 1 e1, .slice E2 0 e2, .slice E3 0 e3, .slice E4 0 e4, .string (tx [122, 111, 110, 101]), .int .i64 1, .string (tx [97]), .bool false, .string (tx [113]), .string (tx [119, 101, 98]), .int .i64 0, .slice F1 1 f1, .slice F2 0 f2, .slice F3 0 f3, .slice F4 0 f4, .string (tx [122, 111, 110, 101]), .int .i64 1, .string (tx [99]), .bool false, .string (tx [114]), .string (tx [119, 101, 98]), .int .i64 0, .slice G1 1 g1, .slice G2 0 g2, .slice G3 0 g3, .slice G4 0 g4, .string (tx [122, 111, 110, 101]), .int .i64 1, .string ⟨#[]⟩, .bool false][j]?) (first | with_reducible exact ⟨z, y⟩ | with_reducible exact kat_alloc HK.out _ | with_reducible exact kat_alloc_drew HK.out _ | go_keep) (first
    | (go_at_call 13; (with_reducible refine (Skew_calls _ _ k0 (pdO (tx [114]) ⟨#[]⟩ 1) ⟨#[98]⟩ _ (by with_reducible exact Kd.V.mono (vw_below (drew_below _)) HK.out.hv) (by with_reducible exact Kd.V.mono (vw_below (drew_below _)) HK.out.h3) (by decide) (by decide)).mono ?_); rintro e v1 ⟨rfl, hb⟩; replace HB := Lib.hid (Below.then HB.out (Below.then (drew_below _) hb)); replace HK := Lib.hid (KAt.below HK.out (Below.then (drew_below _) hb)); clear z zf y yf; obtain ⟨z, zf⟩ := blk_all HK.out.qs; obtain ⟨y, yf⟩ := blk_all HK.out.qp; clear hb))
  simp only [show skewV k0 (pdO (tx [114]) ⟨#[]⟩ 1) ⟨#[98]⟩ = (0, true) from k0_b]
  go_upto_region 3 with fail
  go_region_held3 (fun w' => (∀ j, w'.cell? ⟨w7.heap.size + 1, j, none⟩ = #[.slice (some ⟨w4.heap.size, 0, none⟩) 4 4, .slice (some ⟨w7.heap.size, 0, none⟩) 3 3, .slice none 0 0][j]?) ∧ ∀ j, w'.cell? ⟨w7.heap.size, j, none⟩ = #[.string (tx [112]), .string (tx [119, 101, 98]), .int .i64 0, .slice E1 1 e1, .slice E2 0 e2, .slice E3 0 e3, .slice E4 0 e4, .string (tx [122, 111, 110, 101]), .int .i64 1, .string (tx [97]), .bool false, .string (tx [113]), .string (tx [119, 101, 98]), .int .i64 0, .slice F1 1 f1, .slice F2 0 f2, .slice F3 0 f3, .slice F4 0 f4, .string (tx [122, 111, 110, 101]), .int .i64 1, .string (tx [99]), .bool false, .string (tx [114]), .string (tx [119, 101, 98]), .int .i64 0, .slice G1 1 g1, .slice G2 0 g2, .slice G3 0 g3, .slice G4 0 g4, .string (tx [122, 111, 110, 101]), .int .i64 1, .string ⟨#[]⟩, .bool false][j]?) (first | with_reducible exact ⟨z, y⟩ | with_reducible exact kat_alloc HK.out _ | with_reducible exact kat_alloc_drew HK.out _ | go_keep) (first
    | (go_at_call 13; (with_reducible refine (Skew_calls _ _ k0 (pdO (tx [114]) ⟨#[]⟩ 1) ⟨#[97]⟩ _ (by with_reducible exact Kd.V.mono (vw_below (drew_below _)) HK.out.hv) (by with_reducible exact Kd.V.mono (vw_below (drew_below _)) HK.out.h3) (by decide) (by decide)).mono ?_); rintro e v2 ⟨rfl, hb⟩; replace HB := Lib.hid (Below.then HB.out (Below.then (drew_below _) hb)); replace HK := Lib.hid (KAt.below HK.out (Below.then (drew_below _) hb)); clear z zf y yf; obtain ⟨z, zf⟩ := blk_all HK.out.qs; obtain ⟨y, yf⟩ := blk_all HK.out.qp; clear hb))
  simp only [show skewV k0 (pdO (tx [114]) ⟨#[]⟩ 1) ⟨#[97]⟩ = (3, true) from k0_a]
  go_upto_region 4 with fail
  go_region_held3 (fun w' => (∀ j, w'.cell? ⟨w7.heap.size + 1, j, none⟩ = #[.slice (some ⟨w4.heap.size, 0, none⟩) 4 4, .slice (some ⟨w7.heap.size, 0, none⟩) 3 3, .slice none 0 0][j]?) ∧ ∀ j, w'.cell? ⟨w7.heap.size, j, none⟩ = #[.string (tx [112]), .string (tx [119, 101, 98]), .int .i64 0, .slice E1 1 e1, .slice E2 0 e2, .slice E3 0 e3, .slice E4 0 e4, .string (tx [122, 111, 110, 101]), .int .i64 1, .string (tx [97]), .bool false, .string (tx [113]), .string (tx [119, 101, 98]), .int .i64 0, .slice F1 1 f1, .slice F2 0 f2, .slice F3 0 f3, .slice F4 0 f4, .string (tx [122, 111, 110, 101]), .int .i64 1, .string (tx [99]), .bool false, .string (tx [114]), .string (tx [119, 101, 98]), .int .i64 0, .slice G1 1 g1, .slice G2 0 g2, .slice G3 0 g3, .slice G4 0 g4, .string (tx [122, 111, 110, 101]), .int .i64 1, .string ⟨#[]⟩, .bool false][j]?) (first | with_reducible exact ⟨z, y⟩ | with_reducible exact kat_alloc HK.out _ | with_reducible exact kat_alloc_drew HK.out _ | go_keep) (first
    | (go_at_call 13; (with_reducible refine (Skew_calls _ _ k0 (pdO (tx [114]) ⟨#[]⟩ 1) ⟨#[100]⟩ _ (by with_reducible exact Kd.V.mono (vw_below (drew_below _)) HK.out.hv) (by with_reducible exact Kd.V.mono (vw_below (drew_below _)) HK.out.h3) (by decide) (by decide)).mono ?_); rintro e v3 ⟨rfl, hb⟩; replace HB := Lib.hid (Below.then HB.out (Below.then (drew_below _) hb)); replace HK := Lib.hid (KAt.below HK.out (Below.then (drew_below _) hb)); clear z zf y yf; obtain ⟨z, zf⟩ := blk_all HK.out.qs; obtain ⟨y, yf⟩ := blk_all HK.out.qp; clear hb))
  simp only [show skewV k0 (pdO (tx [114]) ⟨#[]⟩ 1) ⟨#[100]⟩ = (0, false) from k0_d]
  have hs107 : Hid (sok ⟨#[107]⟩) := sok_small (l := [107]) (by decide)
  have hi1 : Hid (i64 1) := ⟨by decide, by decide⟩
  go_upto_region 5 with fail
  go_region_held3 (fun w' => (∀ j, w'.cell? ⟨w7.heap.size + 1, j, none⟩ = #[.slice (some ⟨w4.heap.size, 0, none⟩) 4 4, .slice (some ⟨w7.heap.size, 0, none⟩) 3 3, .slice none 0 0][j]?) ∧ ∀ j, w'.cell? ⟨w7.heap.size, j, none⟩ = #[.string (tx [112]), .string (tx [119, 101, 98]), .int .i64 0, .slice E1 1 e1, .slice E2 0 e2, .slice E3 0 e3, .slice E4 0 e4, .string (tx [122, 111, 110, 101]), .int .i64 1, .string (tx [97]), .bool false, .string (tx [113]), .string (tx [119, 101, 98]), .int .i64 0, .slice F1 1 f1, .slice F2 0 f2, .slice F3 0 f3, .slice F4 0 f4, .string (tx [122, 111, 110, 101]), .int .i64 1, .string (tx [99]), .bool false, .string (tx [114]), .string (tx [119, 101, 98]), .int .i64 0, .slice G1 1 g1, .slice G2 0 g2, .slice G3 0 g3, .slice G4 0 g4, .string (tx [122, 111, 110, 101]), .int .i64 1, .string ⟨#[]⟩, .bool false][j]?) (first | with_reducible exact ⟨z, y⟩ | with_reducible exact kat_alloc HK.out _ | with_reducible exact kat_alloc_drew HK.out _ | go_keep) (first
    | (go_at_call 28; (with_reducible refine (P_calls ⟨#[107]⟩ 1 ⟨#[]⟩ _ hs107.out hi1.out sok_none).mono ?_); rintro e v4 ⟨cs, rfl, hk, hb⟩; have HPK : Hid (Kd.pod.V (vw v4 []) (.agg cs.toArray) (pdP ⟨#[107]⟩ 1 ⟨#[]⟩)) := ⟨cs, rfl, Kd.pod.mono (nx_vw (by simp)) hk⟩; clear hk; have hK1 : KAt (w7.heap.size + 1) w7.heap.size #[.slice (some ⟨w4.heap.size, 0, none⟩) 4 4, .slice (some ⟨w7.heap.size, 0, none⟩) 3 3, .slice none 0 0] #[.string (tx [112]), .string (tx [119, 101, 98]), .int .i64 0, .slice E1 1 e1, .slice E2 0 e2, .slice E3 0 e3, .slice E4 0 e4, .string (tx [122, 111, 110, 101]), .int .i64 1, .string (tx [97]), .bool false, .string (tx [113]), .string (tx [119, 101, 98]), .int .i64 0, .slice F1 1 f1, .slice F2 0 f2, .slice F3 0 f3, .slice F4 0 f4, .string (tx [122, 111, 110, 101]), .int .i64 1, .string (tx [99]), .bool false, .string (tx [114]), .string (tx [119, 101, 98]), .int .i64 0, .slice G1 1 g1, .slice G2 0 g2, .slice G3 0 g3, .slice G4 0 g4, .string (tx [122, 111, 110, 101]), .int .i64 1, .string ⟨#[]⟩, .bool false] #[.string (tx [112]), .string (tx [119, 101, 98]), .int .i64 0, .slice E1 1 e1, .slice E2 0 e2, .slice E3 0 e3, .slice E4 0 e4, .string (tx [122, 111, 110, 101]), .int .i64 1, .string (tx [97]), .bool false] #[.string (tx [114]), .string (tx [119, 101, 98]), .int .i64 0, .slice G1 1 g1, .slice G2 0 g2, .slice G3 0 g3, .slice G4 0 g4, .string (tx [122, 111, 110, 101]), .int .i64 1, .string ⟨#[]⟩, .bool false] v4 := (by with_reducible first | exact KAt.below HK.out hb | exact KAt.below HK.out (Below.then (drew_below _) hb) | exact KAt.below HK.out (Below.then (alloc_below _ _) hb) | exact KAt.below HK.out (Below.then (Below.then (alloc_below _ _) (drew_below _)) hb)); have hB1 : Below w.heap.size w v4 := (by with_reducible first | exact Below.then HB.out hb | exact Below.then HB.out (Below.then (drew_below _) hb) | exact Below.then HB.out (Below.then (alloc_below _ _) hb) | exact Below.then HB.out (Below.then (Below.then (alloc_below _ _) (drew_below _)) hb)); replace HB := Lib.hid hB1; replace HK := Lib.hid hK1; clear z zf y yf hK1 hB1;  obtain ⟨z, zf⟩ := blk_all HK.out.qs; obtain ⟨y, yf⟩ := blk_all HK.out.qp; clear hb)
    | (go_at_call 13; (with_reducible refine (Skew_calls _ _ k0 (pdP ⟨#[107]⟩ 1 ⟨#[]⟩) ⟨#[100]⟩ _ (by with_reducible first | exact HK.out.hv | exact Kd.V.mono (vw_below (drew_below _)) HK.out.hv | exact Kd.V.mono (vw_below (alloc_below _ _)) HK.out.hv | exact Kd.V.mono (vw_below (Below.then (alloc_below _ _) (drew_below _))) HK.out.hv) (by with_reducible exact HPK.out) (by decide) (by decide)).mono ?_); rintro e v5 ⟨rfl, hb⟩; clear HPK; have hK1 : KAt (w7.heap.size + 1) w7.heap.size #[.slice (some ⟨w4.heap.size, 0, none⟩) 4 4, .slice (some ⟨w7.heap.size, 0, none⟩) 3 3, .slice none 0 0] #[.string (tx [112]), .string (tx [119, 101, 98]), .int .i64 0, .slice E1 1 e1, .slice E2 0 e2, .slice E3 0 e3, .slice E4 0 e4, .string (tx [122, 111, 110, 101]), .int .i64 1, .string (tx [97]), .bool false, .string (tx [113]), .string (tx [119, 101, 98]), .int .i64 0, .slice F1 1 f1, .slice F2 0 f2, .slice F3 0 f3, .slice F4 0 f4, .string (tx [122, 111, 110, 101]), .int .i64 1, .string (tx [99]), .bool false, .string (tx [114]), .string (tx [119, 101, 98]), .int .i64 0, .slice G1 1 g1, .slice G2 0 g2, .slice G3 0 g3, .slice G4 0 g4, .string (tx [122, 111, 110, 101]), .int .i64 1, .string ⟨#[]⟩, .bool false] #[.string (tx [112]), .string (tx [119, 101, 98]), .int .i64 0, .slice E1 1 e1, .slice E2 0 e2, .slice E3 0 e3, .slice E4 0 e4, .string (tx [122, 111, 110, 101]), .int .i64 1, .string (tx [97]), .bool false] #[.string (tx [114]), .string (tx [119, 101, 98]), .int .i64 0, .slice G1 1 g1, .slice G2 0 g2, .slice G3 0 g3, .slice G4 0 g4, .string (tx [122, 111, 110, 101]), .int .i64 1, .string ⟨#[]⟩, .bool false] v5 := (by with_reducible first | exact KAt.below HK.out hb | exact KAt.below HK.out (Below.then (drew_below _) hb) | exact KAt.below HK.out (Below.then (alloc_below _ _) hb) | exact KAt.below HK.out (Below.then (Below.then (alloc_below _ _) (drew_below _)) hb)); have hB1 : Below w.heap.size w v5 := (by with_reducible first | exact Below.then HB.out hb | exact Below.then HB.out (Below.then (drew_below _) hb) | exact Below.then HB.out (Below.then (alloc_below _ _) hb) | exact Below.then HB.out (Below.then (Below.then (alloc_below _ _) (drew_below _)) hb)); replace HB := Lib.hid hB1; replace HK := Lib.hid hK1; clear z zf y yf hK1 hB1;  obtain ⟨z, zf⟩ := blk_all HK.out.qs; obtain ⟨y, yf⟩ := blk_all HK.out.qp; clear hb))
  simp only [show skewV k0 (pdP ⟨#[107]⟩ 1 ⟨#[]⟩) ⟨#[100]⟩ = (0, true) from k0_k]
  go_upto_region 6 with fail
  go_region_held3 (fun w' => (∀ j, w'.cell? ⟨w7.heap.size + 1, j, none⟩ = #[.slice (some ⟨w4.heap.size, 0, none⟩) 4 4, .slice (some ⟨w7.heap.size, 0, none⟩) 3 3, .slice none 0 0][j]?) ∧ ∀ j, w'.cell? ⟨w7.heap.size, j, none⟩ = #[.string (tx [112]), .string (tx [119, 101, 98]), .int .i64 0, .slice E1 1 e1, .slice E2 0 e2, .slice E3 0 e3, .slice E4 0 e4, .string (tx [122, 111, 110, 101]), .int .i64 1, .string (tx [97]), .bool false, .string (tx [113]), .string (tx [119, 101, 98]), .int .i64 0, .slice F1 1 f1, .slice F2 0 f2, .slice F3 0 f3, .slice F4 0 f4, .string (tx [122, 111, 110, 101]), .int .i64 1, .string (tx [99]), .bool false, .string (tx [114]), .string (tx [119, 101, 98]), .int .i64 0, .slice G1 1 g1, .slice G2 0 g2, .slice G3 0 g3, .slice G4 0 g4, .string (tx [122, 111, 110, 101]), .int .i64 1, .string ⟨#[]⟩, .bool false][j]?) (first | with_reducible exact ⟨z, y⟩ | with_reducible exact kat_alloc HK.out _ | with_reducible exact kat_alloc_drew HK.out _ | go_keep) (first
    | (go_at_call 16; (with_reducible refine (Domains_calls _ k0 ⟨#[122, 111, 110, 101]⟩ _ (by with_reducible first | exact HK.out.hv | exact Kd.V.mono (vw_below (drew_below _)) HK.out.hv | exact Kd.V.mono (vw_below (alloc_below _ _)) HK.out.hv | exact Kd.V.mono (vw_below (Below.then (alloc_below _ _) (drew_below _))) HK.out.hv) (by decide)).mono ?_); rintro e v6 ⟨sv, rfl, ho, hb⟩; (try have HX := Lib.hid (strs_two ((hb.block v5.heap.size (by simp)).trans (blk_last _ _)))); have HS := Lib.hid (doms_S ho (by decide +kernel) (by decide +kernel)); rw [show (domsV k0.nodes ⟨#[122, 111, 110, 101]⟩).map ba = [⟨#[120]⟩, ⟨#[121]⟩] by rw [show domsV k0.nodes ⟨#[122, 111, 110, 101]⟩ = [[120], [121]] from k0_doms]; rfl] at HS; clear ho; have hK1 : KAt (w7.heap.size + 1) w7.heap.size #[.slice (some ⟨w4.heap.size, 0, none⟩) 4 4, .slice (some ⟨w7.heap.size, 0, none⟩) 3 3, .slice none 0 0] #[.string (tx [112]), .string (tx [119, 101, 98]), .int .i64 0, .slice E1 1 e1, .slice E2 0 e2, .slice E3 0 e3, .slice E4 0 e4, .string (tx [122, 111, 110, 101]), .int .i64 1, .string (tx [97]), .bool false, .string (tx [113]), .string (tx [119, 101, 98]), .int .i64 0, .slice F1 1 f1, .slice F2 0 f2, .slice F3 0 f3, .slice F4 0 f4, .string (tx [122, 111, 110, 101]), .int .i64 1, .string (tx [99]), .bool false, .string (tx [114]), .string (tx [119, 101, 98]), .int .i64 0, .slice G1 1 g1, .slice G2 0 g2, .slice G3 0 g3, .slice G4 0 g4, .string (tx [122, 111, 110, 101]), .int .i64 1, .string ⟨#[]⟩, .bool false] #[.string (tx [112]), .string (tx [119, 101, 98]), .int .i64 0, .slice E1 1 e1, .slice E2 0 e2, .slice E3 0 e3, .slice E4 0 e4, .string (tx [122, 111, 110, 101]), .int .i64 1, .string (tx [97]), .bool false] #[.string (tx [114]), .string (tx [119, 101, 98]), .int .i64 0, .slice G1 1 g1, .slice G2 0 g2, .slice G3 0 g3, .slice G4 0 g4, .string (tx [122, 111, 110, 101]), .int .i64 1, .string ⟨#[]⟩, .bool false] v6 := (by with_reducible first | exact KAt.below HK.out hb | exact KAt.below HK.out (Below.then (drew_below _) hb) | exact KAt.below HK.out (Below.then (alloc_below _ _) hb) | exact KAt.below HK.out (Below.then (Below.then (alloc_below _ _) (drew_below _)) hb)); have hB1 : Below w.heap.size w v6 := (by with_reducible first | exact Below.then HB.out hb | exact Below.then HB.out (Below.then (drew_below _) hb) | exact Below.then HB.out (Below.then (alloc_below _ _) hb) | exact Below.then HB.out (Below.then (Below.then (alloc_below _ _) (drew_below _)) hb)); replace HB := Lib.hid hB1; replace HK := Lib.hid hK1; clear z zf y yf hK1 hB1;  obtain ⟨z, zf⟩ := blk_all HK.out.qs; obtain ⟨y, yf⟩ := blk_all HK.out.qp; clear hb)
    | (go_at_call 15; (with_reducible refine (Names_same _ _ _ _ (by with_reducible first | exact HS.out | exact Kd.S.mono (vw_below (alloc_below _ _)) HS.out) (by first | exact HX.out | exact strs_two (blk_last _ _))).mono ?_); rintro e v7 ⟨rfl, hb⟩; clear HS; (try clear HX); have hK1 : KAt (w7.heap.size + 1) w7.heap.size #[.slice (some ⟨w4.heap.size, 0, none⟩) 4 4, .slice (some ⟨w7.heap.size, 0, none⟩) 3 3, .slice none 0 0] #[.string (tx [112]), .string (tx [119, 101, 98]), .int .i64 0, .slice E1 1 e1, .slice E2 0 e2, .slice E3 0 e3, .slice E4 0 e4, .string (tx [122, 111, 110, 101]), .int .i64 1, .string (tx [97]), .bool false, .string (tx [113]), .string (tx [119, 101, 98]), .int .i64 0, .slice F1 1 f1, .slice F2 0 f2, .slice F3 0 f3, .slice F4 0 f4, .string (tx [122, 111, 110, 101]), .int .i64 1, .string (tx [99]), .bool false, .string (tx [114]), .string (tx [119, 101, 98]), .int .i64 0, .slice G1 1 g1, .slice G2 0 g2, .slice G3 0 g3, .slice G4 0 g4, .string (tx [122, 111, 110, 101]), .int .i64 1, .string ⟨#[]⟩, .bool false] #[.string (tx [112]), .string (tx [119, 101, 98]), .int .i64 0, .slice E1 1 e1, .slice E2 0 e2, .slice E3 0 e3, .slice E4 0 e4, .string (tx [122, 111, 110, 101]), .int .i64 1, .string (tx [97]), .bool false] #[.string (tx [114]), .string (tx [119, 101, 98]), .int .i64 0, .slice G1 1 g1, .slice G2 0 g2, .slice G3 0 g3, .slice G4 0 g4, .string (tx [122, 111, 110, 101]), .int .i64 1, .string ⟨#[]⟩, .bool false] v7 := (by with_reducible first | exact KAt.below HK.out hb | exact KAt.below HK.out (Below.then (drew_below _) hb) | exact KAt.below HK.out (Below.then (alloc_below _ _) hb) | exact KAt.below HK.out (Below.then (Below.then (alloc_below _ _) (drew_below _)) hb)); have hB1 : Below w.heap.size w v7 := (by with_reducible first | exact Below.then HB.out hb | exact Below.then HB.out (Below.then (drew_below _) hb) | exact Below.then HB.out (Below.then (alloc_below _ _) hb) | exact Below.then HB.out (Below.then (Below.then (alloc_below _ _) (drew_below _)) hb)); replace HB := Lib.hid hB1; replace HK := Lib.hid hK1; clear z zf y yf hK1 hB1;  obtain ⟨z, zf⟩ := blk_all HK.out.qs; obtain ⟨y, yf⟩ := blk_all HK.out.qp; clear hb)
    | (go_at_call 18; (with_reducible refine (Count_calls _ _ k0 (pdO (tx [114]) ⟨#[]⟩ 1) ⟨#[120]⟩ _ (by with_reducible first | exact HK.out.hv | exact Kd.V.mono (vw_below (drew_below _)) HK.out.hv | exact Kd.V.mono (vw_below (alloc_below _ _)) HK.out.hv | exact Kd.V.mono (vw_below (Below.then (alloc_below _ _) (drew_below _))) HK.out.hv) (by with_reducible first | exact HK.out.h3 | exact Kd.V.mono (vw_below (drew_below _)) HK.out.h3 | exact Kd.V.mono (vw_below (alloc_below _ _)) HK.out.h3 | exact Kd.V.mono (vw_below (Below.then (alloc_below _ _) (drew_below _))) HK.out.h3)).mono ?_); rintro e v8 ⟨rfl, hb⟩; rw [show countV k0 (pdO (tx [114]) ⟨#[]⟩ 1) ⟨#[120]⟩ k0.pods = 2 from k0_c2]; have hK1 : KAt (w7.heap.size + 1) w7.heap.size #[.slice (some ⟨w4.heap.size, 0, none⟩) 4 4, .slice (some ⟨w7.heap.size, 0, none⟩) 3 3, .slice none 0 0] #[.string (tx [112]), .string (tx [119, 101, 98]), .int .i64 0, .slice E1 1 e1, .slice E2 0 e2, .slice E3 0 e3, .slice E4 0 e4, .string (tx [122, 111, 110, 101]), .int .i64 1, .string (tx [97]), .bool false, .string (tx [113]), .string (tx [119, 101, 98]), .int .i64 0, .slice F1 1 f1, .slice F2 0 f2, .slice F3 0 f3, .slice F4 0 f4, .string (tx [122, 111, 110, 101]), .int .i64 1, .string (tx [99]), .bool false, .string (tx [114]), .string (tx [119, 101, 98]), .int .i64 0, .slice G1 1 g1, .slice G2 0 g2, .slice G3 0 g3, .slice G4 0 g4, .string (tx [122, 111, 110, 101]), .int .i64 1, .string ⟨#[]⟩, .bool false] #[.string (tx [112]), .string (tx [119, 101, 98]), .int .i64 0, .slice E1 1 e1, .slice E2 0 e2, .slice E3 0 e3, .slice E4 0 e4, .string (tx [122, 111, 110, 101]), .int .i64 1, .string (tx [97]), .bool false] #[.string (tx [114]), .string (tx [119, 101, 98]), .int .i64 0, .slice G1 1 g1, .slice G2 0 g2, .slice G3 0 g3, .slice G4 0 g4, .string (tx [122, 111, 110, 101]), .int .i64 1, .string ⟨#[]⟩, .bool false] v8 := (by with_reducible first | exact KAt.below HK.out hb | exact KAt.below HK.out (Below.then (drew_below _) hb) | exact KAt.below HK.out (Below.then (alloc_below _ _) hb) | exact KAt.below HK.out (Below.then (Below.then (alloc_below _ _) (drew_below _)) hb)); have hB1 : Below w.heap.size w v8 := (by with_reducible first | exact Below.then HB.out hb | exact Below.then HB.out (Below.then (drew_below _) hb) | exact Below.then HB.out (Below.then (alloc_below _ _) hb) | exact Below.then HB.out (Below.then (Below.then (alloc_below _ _) (drew_below _)) hb)); replace HB := Lib.hid hB1; replace HK := Lib.hid hK1; clear z zf y yf hK1 hB1;  obtain ⟨z, zf⟩ := blk_all HK.out.qs; obtain ⟨y, yf⟩ := blk_all HK.out.qp; clear hb)
    | (go_at_call 18; (with_reducible refine (Count_calls _ _ k0 (pdO (tx [112]) (tx [97]) 1) ⟨#[120]⟩ _ (by with_reducible first | exact HK.out.hv | exact Kd.V.mono (vw_below (drew_below _)) HK.out.hv | exact Kd.V.mono (vw_below (alloc_below _ _)) HK.out.hv | exact Kd.V.mono (vw_below (Below.then (alloc_below _ _) (drew_below _))) HK.out.hv) (by with_reducible first | exact HK.out.h1 | exact Kd.V.mono (vw_below (drew_below _)) HK.out.h1 | exact Kd.V.mono (vw_below (alloc_below _ _)) HK.out.h1 | exact Kd.V.mono (vw_below (Below.then (alloc_below _ _) (drew_below _))) HK.out.h1)).mono ?_); rintro e v9 ⟨rfl, hb⟩; rw [show countV k0 (pdO (tx [112]) (tx [97]) 1) ⟨#[120]⟩ k0.pods = 1 from k0_c1]; have hK1 : KAt (w7.heap.size + 1) w7.heap.size #[.slice (some ⟨w4.heap.size, 0, none⟩) 4 4, .slice (some ⟨w7.heap.size, 0, none⟩) 3 3, .slice none 0 0] #[.string (tx [112]), .string (tx [119, 101, 98]), .int .i64 0, .slice E1 1 e1, .slice E2 0 e2, .slice E3 0 e3, .slice E4 0 e4, .string (tx [122, 111, 110, 101]), .int .i64 1, .string (tx [97]), .bool false, .string (tx [113]), .string (tx [119, 101, 98]), .int .i64 0, .slice F1 1 f1, .slice F2 0 f2, .slice F3 0 f3, .slice F4 0 f4, .string (tx [122, 111, 110, 101]), .int .i64 1, .string (tx [99]), .bool false, .string (tx [114]), .string (tx [119, 101, 98]), .int .i64 0, .slice G1 1 g1, .slice G2 0 g2, .slice G3 0 g3, .slice G4 0 g4, .string (tx [122, 111, 110, 101]), .int .i64 1, .string ⟨#[]⟩, .bool false] #[.string (tx [112]), .string (tx [119, 101, 98]), .int .i64 0, .slice E1 1 e1, .slice E2 0 e2, .slice E3 0 e3, .slice E4 0 e4, .string (tx [122, 111, 110, 101]), .int .i64 1, .string (tx [97]), .bool false] #[.string (tx [114]), .string (tx [119, 101, 98]), .int .i64 0, .slice G1 1 g1, .slice G2 0 g2, .slice G3 0 g3, .slice G4 0 g4, .string (tx [122, 111, 110, 101]), .int .i64 1, .string ⟨#[]⟩, .bool false] v9 := (by with_reducible first | exact KAt.below HK.out hb | exact KAt.below HK.out (Below.then (drew_below _) hb) | exact KAt.below HK.out (Below.then (alloc_below _ _) hb) | exact KAt.below HK.out (Below.then (Below.then (alloc_below _ _) (drew_below _)) hb)); have hB1 : Below w.heap.size w v9 := (by with_reducible first | exact Below.then HB.out hb | exact Below.then HB.out (Below.then (drew_below _) hb) | exact Below.then HB.out (Below.then (alloc_below _ _) hb) | exact Below.then HB.out (Below.then (Below.then (alloc_below _ _) (drew_below _)) hb)); replace HB := Lib.hid hB1; replace HK := Lib.hid hK1; clear z zf y yf hK1 hB1;  obtain ⟨z, zf⟩ := blk_all HK.out.qs; obtain ⟨y, yf⟩ := blk_all HK.out.qp; clear hb)
    | (go_at_call 20; (with_reducible refine (Bad_calls _ k0 _ (by with_reducible first | exact HK.out.hv | exact Kd.V.mono (vw_below (drew_below _)) HK.out.hv | exact Kd.V.mono (vw_below (alloc_below _ _)) HK.out.hv | exact Kd.V.mono (vw_below (Below.then (alloc_below _ _) (drew_below _))) HK.out.hv) (by decide) (by decide)).mono ?_); rintro e va ⟨sv, rfl, ho, hb⟩; (try have HX := Lib.hid (strs_two ((hb.block v9.heap.size (by simp)).trans (blk_last _ _)))); rw [k0_bad] at ho; have HS : Hid (Kd.str.S (vw va []) sv [⟨#[112]⟩, ⟨#[113]⟩]) := bad_S ho (by decide) two_ok; clear ho; have hK1 : KAt (w7.heap.size + 1) w7.heap.size #[.slice (some ⟨w4.heap.size, 0, none⟩) 4 4, .slice (some ⟨w7.heap.size, 0, none⟩) 3 3, .slice none 0 0] #[.string (tx [112]), .string (tx [119, 101, 98]), .int .i64 0, .slice E1 1 e1, .slice E2 0 e2, .slice E3 0 e3, .slice E4 0 e4, .string (tx [122, 111, 110, 101]), .int .i64 1, .string (tx [97]), .bool false, .string (tx [113]), .string (tx [119, 101, 98]), .int .i64 0, .slice F1 1 f1, .slice F2 0 f2, .slice F3 0 f3, .slice F4 0 f4, .string (tx [122, 111, 110, 101]), .int .i64 1, .string (tx [99]), .bool false, .string (tx [114]), .string (tx [119, 101, 98]), .int .i64 0, .slice G1 1 g1, .slice G2 0 g2, .slice G3 0 g3, .slice G4 0 g4, .string (tx [122, 111, 110, 101]), .int .i64 1, .string ⟨#[]⟩, .bool false] #[.string (tx [112]), .string (tx [119, 101, 98]), .int .i64 0, .slice E1 1 e1, .slice E2 0 e2, .slice E3 0 e3, .slice E4 0 e4, .string (tx [122, 111, 110, 101]), .int .i64 1, .string (tx [97]), .bool false] #[.string (tx [114]), .string (tx [119, 101, 98]), .int .i64 0, .slice G1 1 g1, .slice G2 0 g2, .slice G3 0 g3, .slice G4 0 g4, .string (tx [122, 111, 110, 101]), .int .i64 1, .string ⟨#[]⟩, .bool false] va := (by with_reducible first | exact KAt.below HK.out hb | exact KAt.below HK.out (Below.then (drew_below _) hb) | exact KAt.below HK.out (Below.then (alloc_below _ _) hb) | exact KAt.below HK.out (Below.then (Below.then (alloc_below _ _) (drew_below _)) hb)); have hB1 : Below w.heap.size w va := (by with_reducible first | exact Below.then HB.out hb | exact Below.then HB.out (Below.then (drew_below _) hb) | exact Below.then HB.out (Below.then (alloc_below _ _) hb) | exact Below.then HB.out (Below.then (Below.then (alloc_below _ _) (drew_below _)) hb)); replace HB := Lib.hid hB1; replace HK := Lib.hid hK1; clear z zf y yf hK1 hB1;  obtain ⟨z, zf⟩ := blk_all HK.out.qs; obtain ⟨y, yf⟩ := blk_all HK.out.qp; clear hb))
  all_goals
    go_wp2
    go_ret
    exact ⟨rfl, HB.out⟩
end Go.Proofs.Ytfbmfjmnpfidoaa
namespace Go.Proofs.Ytfbmfjmnpfidoaa
open Go.RowKit Go.Sort

def zkey : ByteArray := ⟨#[122, 111, 110, 101]⟩
theorem skew_ok {s : St} {p : Pd} {n : ByteArray} (h : p.key ≠ ⟨#[]⟩) : (skewV s p n).2 = (domV s n p.key).2 := by
  unfold skewV
  rw [if_neg h]
  cases hd : (domV s n p.key).2 <;> simp
theorem i64_1 : i64 1 := by unfold i64; decide
theorem doms_small {s : St} (h : s.Few) {key : ByteArray} {d : List UInt8} (hd : d ∈ domsV s.nodes key) : d.length ≤ 50 := by
  unfold domsV at hd
  rw [insAll_mem] at hd
  obtain ⟨v, hv, rfl⟩ := List.mem_map.1 hd
  unfold domsL at hv
  obtain ⟨n, hn, he⟩ := List.mem_filterMap.1 hv
  split at he
  · rename_i hg
    injection he with he
    obtain ⟨x, hx, e⟩ := getV_mem hg
    have := ((h.2.2.2.1 n hn).2.2.1.2 x hx).2
    rw [← he, e]
    exact this
  · cases he
set_option maxHeartbeats 8000000 in
set_option maxRecDepth 100000 in
theorem SpreadSums_calls (v : Value) (s : St) (n : Int) (w : World) (hv : Kd.state.V (vw w []) v s) (h0 : 0 ≤ n) (h1 : n ≤ 255) :
    Calls Try.prog 5 #[v, .int .u8 n] w (BoolDone true w) := by
  obtain ⟨cs, rfl, hks⟩ := hv
  have hvs : Kd.state.V (vw w []) (.agg cs.toArray) s := ⟨cs, rfl, hks⟩
  obtain ⟨A1, c1, A2, c2, A3, c3, rfl, -, s2, -⟩ := hks
  have HVS := Lib.hid hvs
  have S2 := Lib.hid s2
  clear hvs s2
  go_enter Try.func5, Try.ntmps5
  have HB : Hid (Below w.heap.size w (w.alloc (.cells #[.slice A1 s.nodes.length c1, .slice A2 s.pods.length c2, .slice A3 s.budgets.length c3] 26))) := alloc_below _ _
  have HQ : Hid ((w.alloc (.cells #[.slice A1 s.nodes.length c1, .slice A2 s.pods.length c2, .slice A3 s.budgets.length c3] 26)).heap[w.heap.size]? = some (.cells #[.slice A1 s.nodes.length c1, .slice A2 s.pods.length c2, .slice A3 s.budgets.length c3] 26 (0, 0))) := blk_last _ _
  go_upto_region 1 with fail
  generalize w.alloc (.cells #[.slice A1 s.nodes.length c1, .slice A2 s.pods.length c2, .slice A3 s.budgets.length c3] 26) = W at HB HQ ⊢
  obtain ⟨z, zf⟩ := blk_all HQ.out
  go_wp2_with fail
  refine (known_calls _).mono ?_
  rintro e w1 ⟨rfl, hb⟩
  replace HQ := Lib.hid ((hb.block _ (blk_lt HQ.out)).trans HQ.out)
  replace HB := Lib.hid (Below.then HB.out hb)
  clear hb z zf
  obtain ⟨z, zf⟩ := blk_all HQ.out
  go_wp2_with fail
  refine (Good_calls _ s _ (Kd.V.mono (vw_below HB.out) HVS.out)).mono ?_
  rintro e w2 ⟨r, rfl, hr, hb⟩
  replace HQ := Lib.hid ((hb.block _ (blk_lt HQ.out)).trans HQ.out)
  replace HB := Lib.hid (Below.then HB.out hb)
  clear hb z zf
  obtain ⟨z, zf⟩ := blk_all HQ.out
  cases r with
  | false =>
    clear hr
    go_wp2
    go_ret
    exact ⟨rfl, HB.out⟩
  | true =>
  obtain ⟨hf, hc⟩ := hr rfl
  have hnl : s.nodes.length ≤ 34 := hf.1
  have hpl : s.pods.length ≤ 130 := hf.2.1
  have HC := Lib.hid hc
  have HF := Lib.hid hf
  clear hr hf hc
  by_cases hp : s.pods.length < 1
  · go_wp2
    go_ret
    exact ⟨rfl, HB.out⟩
  obtain ⟨k, hk⟩ : ∃ k : Nat, n.tmod (s.pods.length : Int) = (k : Int) := ⟨(n.tmod (s.pods.length : Int)).toNat, by
    have := Int.tmod_nonneg (s.pods.length : Int) h0
    omega⟩
  have hlt : k < s.pods.length := by
    have := Int.tmod_lt_of_pos n (show (0 : Int) < s.pods.length by omega)
    omega
  obtain ⟨b, off, cs, rfl, hn2, hc⟩ := S2.out.both HB.out k hlt
  obtain ⟨x, hx⟩ : ∃ x, s.pods[k] = x := ⟨_, rfl⟩
  rw [hx] at hn2
  have HKX : Hid (Kd.pod.K (vw w []) x cs) := hn2
  obtain ⟨B1, d1, B2, d2, B3, d3, B4, d4, rfl, -⟩ := hn2
  have m0 : w2.cell? ⟨b, off + k * 11, none⟩ = some (.string x.name) := hc 0 _ rfl
  have m1 : w2.cell? ⟨b, off + k * 11 + 1, none⟩ = some (.string x.owner) := hc 1 _ rfl
  have m2 : w2.cell? ⟨b, off + k * 11 + 2, none⟩ = some (.int .i64 x.prio) := hc 2 _ rfl
  have m3 : w2.cell? ⟨b, off + k * 11 + 3, none⟩ = some (.slice B1 x.need.length d1) := hc 3 _ rfl
  have m4 : w2.cell? ⟨b, off + k * 11 + 4, none⟩ = some (.slice B2 x.labels.length d2) := hc 4 _ rfl
  have m5 : w2.cell? ⟨b, off + k * 11 + 5, none⟩ = some (.slice B3 x.sel.length d3) := hc 5 _ rfl
  have m6 : w2.cell? ⟨b, off + k * 11 + 6, none⟩ = some (.slice B4 x.tols.length d4) := hc 6 _ rfl
  have m7 : w2.cell? ⟨b, off + k * 11 + 7, none⟩ = some (.string x.key) := hc 7 _ rfl
  have m8 : w2.cell? ⟨b, off + k * 11 + 8, none⟩ = some (.int .i64 x.most) := hc 8 _ rfl
  have m9 : w2.cell? ⟨b, off + k * 11 + 9, none⟩ = some (.string x.node) := hc 9 _ rfl
  have m10 : w2.cell? ⟨b, off + k * 11 + 10, none⟩ = some (.bool x.hold) := hc 10 _ rfl
  have HX := Lib.hid hx
  clear hc hx
  have hw1 : IntKind.i64.wrap n = n := IntWalk.i64_in _ (by omega)
  have b1 : (0 : Int) ≤ (k : Int) := by omega
  have b2 : (k : Int) < (s.pods.length : Int) := by omega
  have hp0 : ((s.pods.length : Int) == 0) = false := beq_false_of_ne (by omega)
  have hpe : s.pods ≠ [] := fun h => by rw [h] at hp; exact hp (by decide)
  have hwk : IntKind.i64.wrap (k : Int) = (k : Int) := IntWalk.i64_in _ (by omega)
  have hp9 : ¬ (s.pods.length : Int) = 0 := by omega
  go_upto_region 5 with fail
  go_region_held3 (fun w' => w'.cell? ⟨w.heap.size, 1, none⟩ = some (.slice (some ⟨b, off, none⟩) s.pods.length c2) ∧ w'.cell? ⟨b, off + k * 11, none⟩ = some (.string x.name) ∧ w'.cell? ⟨b, off + k * 11 + 1, none⟩ = some (.string x.owner) ∧ w'.cell? ⟨b, off + k * 11 + 2, none⟩ = some (.int .i64 x.prio) ∧ w'.cell? ⟨b, off + k * 11 + 3, none⟩ = some (.slice B1 x.need.length d1) ∧ w'.cell? ⟨b, off + k * 11 + 4, none⟩ = some (.slice B2 x.labels.length d2) ∧ w'.cell? ⟨b, off + k * 11 + 5, none⟩ = some (.slice B3 x.sel.length d3) ∧ w'.cell? ⟨b, off + k * 11 + 6, none⟩ = some (.slice B4 x.tols.length d4) ∧ w'.cell? ⟨b, off + k * 11 + 7, none⟩ = some (.string x.key) ∧ w'.cell? ⟨b, off + k * 11 + 8, none⟩ = some (.int .i64 x.most) ∧ w'.cell? ⟨b, off + k * 11 + 9, none⟩ = some (.string x.node) ∧ w'.cell? ⟨b, off + k * 11 + 10, none⟩ = some (.bool x.hold)) (first | with_reducible exact ⟨z 1, m0, m1, m2, m3, m4, m5, m6, m7, m8, m9, m10⟩ | go_keep) (fail)
  go_upto_region 8 with fail
  change Code.wp _ _ _ _ (w2.alloc (.cells #[.string x.name, .string x.owner, .int .i64 x.prio, .slice B1 x.need.length d1, .slice B2 x.labels.length d2, .slice B3 x.sel.length d3, .slice B4 x.tols.length d4, .string zkey, .int .i64 1, .string x.node, .bool x.hold] 35)).drew
  obtain ⟨U, hU⟩ : ∃ U : World, U = (w2.alloc (.cells #[.string x.name, .string x.owner, .int .i64 x.prio, .slice B1 x.need.length d1, .slice B2 x.labels.length d2, .slice B3 x.sel.length d3, .slice B4 x.tols.length d4, .string zkey, .int .i64 1, .string x.node, .bool x.hold] 35)).drew := ⟨_, rfl⟩
  rw [← hU]
  have hbU : Below w2.heap.size w2 U := by rw [hU]; exact Below.then (alloc_below _ _) (drew_below _)
  have HQP : Hid (U.heap[w2.heap.size]? = some (.cells #[.string x.name, .string x.owner, .int .i64 x.prio, .slice B1 x.need.length d1, .slice B2 x.labels.length d2, .slice B3 x.sel.length d3, .slice B4 x.tols.length d4, .string zkey, .int .i64 1, .string x.node, .bool x.hold] 35 (0, 0))) := by rw [hU]; exact blk_last _ _
  replace HQ := Lib.hid ((hbU.block _ (blk_lt HQ.out)).trans HQ.out)
  replace HB := Lib.hid (Below.then HB.out hbU)
  obtain ⟨y, hy⟩ : ∃ y : Pd, y = { x with key := zkey, most := 1 } := ⟨_, rfl⟩
  have hyk : y.key = zkey := by rw [hy]
  have HYK := Lib.hid hyk
  have HVY : Hid (Kd.pod.V (vw w []) (.agg #[.string x.name, .string x.owner, .int .i64 x.prio, .slice B1 x.need.length d1, .slice B2 x.labels.length d2, .slice B3 x.sel.length d3, .slice B4 x.tols.length d4, .string zkey, .int .i64 1, .string x.node, .bool x.hold]) y) := by
    obtain ⟨E1, g1, E2, g2, E3, g3, E4, g4, he, hok, t1, t2, t3, t4⟩ := HKX.out
    injection he with _ he
    injection he with _ he
    injection he with _ he
    injection he with e3 he
    injection he with e4 he
    injection he with e5 he
    injection he with e6 he
    rw [← e3] at t1
    rw [← e4] at t2
    rw [← e5] at t3
    rw [← e6] at t4
    subst hy
    exact ⟨_, rfl, B1, d1, B2, d2, B3, d3, B4, d4, rfl, ⟨⟨hok.1.1, hok.1.2.1, hok.1.2.2⟩, zone_ok, i64_1, hok.2.2.2⟩, t1, t2, t3, t4⟩
  have HYN : Hid (y.name = x.name ∧ y.owner = x.owner) := by rw [hy]; exact ⟨rfl, rfl⟩
  clear hU hbU hy hyk m0 m1 m2 m3 m4 m5 m6 m7 m8 m9 m10 z zf hw1 hwk hp0 hp9 hpe b1 b2 hk HX HKX
  obtain ⟨z, zf⟩ := blk_all HQ.out
  obtain ⟨q, qf⟩ := blk_all HQP.out
  go_wp2_with fail
  refine (Domains_calls _ s zkey _ (Kd.V.mono (vw_below HB.out) HVS.out) (by omega)).mono ?_
  rintro e U2 ⟨sv, rfl, ho, hb⟩
  have hdl := domsV_len s.nodes zkey
  have hds := doms_S ho (by omega) (fun d hd => by have := doms_small HF.out hd; omega)
  replace HQ := Lib.hid ((hb.block _ (blk_lt HQ.out)).trans HQ.out)
  replace HQP := Lib.hid ((hb.block _ (blk_lt HQP.out)).trans HQP.out)
  replace HB := Lib.hid (Below.then HB.out hb)
  have hris := domsV_rises s.nodes zkey
  have hse : sumC s y (domsV s.nodes zkey) = wantV s y s.pods := by rw [← HYK.out]; exact sums_eq s y
  obtain ⟨D, hD⟩ : ∃ D, domsV s.nodes zkey = D := ⟨_, rfl⟩
  rw [hD] at hds hdl hris hse
  have hlm : (D.map ba).length = D.length := List.length_map _
  obtain ⟨G, gc, rfl, hds⟩ := hds.val
  rw [hlm] at hds ⊢
  obtain ⟨-, gl1, gl2⟩ := hds.form
  rw [hlm] at gl1 gl2
  have HDS := Lib.hid hds
  have HRIS := Lib.hid hris
  have HSE := Lib.hid hse
  clear hb ho z zf q qf hds hris hse hD hlm
  obtain ⟨z, zf⟩ := blk_all HQ.out
  obtain ⟨q, qf⟩ := blk_all HQP.out
  go_wp2
  clear z zf q qf
  have HQ0 := HQ
  have HQP0 := HQP
  have HB0 := HB
  clear HQ HQP HB
  go_loopw [6, 8] (fun o i wr => ∃ j : Nat, j ≤ D.length ∧ i = .int .i64 j ∧ o = .int .i64 (sumC s y (D.take j) : Nat) ∧ Hid (Below U2.heap.size U2 wr)) (fun _ i _ => D.length - (intOf i).toNat)
  case atStart => exact ⟨0, Nat.zero_le _, rfl, rfl, Below.refl _ _⟩
  case round =>
    obtain ⟨j, hj, rfl, rfl, HB⟩ := hrel
    have HQ := Lib.hid ((HB.out.block _ (blk_lt HQ0.out)).trans HQ0.out)
    have HQP := Lib.hid ((HB.out.block _ (blk_lt HQP0.out)).trans HQP0.out)
    obtain ⟨z, zf⟩ := blk_all HQ.out
    obtain ⟨q, qf⟩ := blk_all HQP.out
    by_cases hlt2 : j < D.length
    · obtain ⟨go, gf, rfl, hcd, -⟩ := (HDS.out.mono (vw_below HB.out)).elem1 j (by simpa using hlt2)
      rw [List.getElem_map] at hcd
      have hsn := sumC_snoc s y hlt2
      have hsl := sumC_le s y (D.take j)
      have hcl := countV_le s y (ba D[j]) s.pods
      rw [List.length_take] at hsl
      have hmul : min j D.length * s.pods.length ≤ 34 * 130 := Nat.mul_le_mul (by omega) hpl
      obtain ⟨c, hc⟩ : ∃ c, countV s y (ba D[j]) s.pods = c := ⟨_, rfl⟩
      obtain ⟨m, hm⟩ : ∃ m, sumC s y (D.take j) = m := ⟨_, rfl⟩
      rw [hm] at hsn hsl
      rw [hc] at hsn hcl
      rw [hm]
      have HSN := Lib.hid hsn
      have HCC := Lib.hid hc
      clear hsn hc hm
      have hwr : IntKind.i64.wrap ((m : Int) + (c : Int)) = (m : Int) + (c : Int) := IntWalk.i64_in _ (by omega)
      have TAIL : True := trivial
      by_cases hj0 : j = 0
      · subst hj0
        go_upto_region 12 with fail
        go_quiet (fail)
        have HB1 := Lib.hid (drewN_then HB.out nq)
        have hcd' : (wr.drewN nq).cell? ⟨go, gf, none⟩ = some (.string (ba D[0])) := hcd
        generalize wr.drewN nq = X at HB1 hcd' ⊢
        clear HB HQ HQP z zf q qf hcd
        have HB := HB1
        have HQ := Lib.hid ((HB.out.block _ (blk_lt HQ0.out)).trans HQ0.out)
        have HQP := Lib.hid ((HB.out.block _ (blk_lt HQP0.out)).trans HQP0.out)
        clear HB1
        obtain ⟨z, zf⟩ := blk_all HQ.out
        obtain ⟨q, qf⟩ := blk_all HQP.out
        have b1 : (0 : Int) < (D.length : Int) := by omega
        go_upto_region 14 with fail
        go_region_held3 (fun w' => (∀ i, w'.cell? ⟨w.heap.size, i, none⟩ = #[.slice A1 s.nodes.length c1, .slice (some ⟨b, off, none⟩) s.pods.length c2, .slice A3 s.budgets.length c3][i]?) ∧ (∀ i, w'.cell? ⟨w2.heap.size, i, none⟩ = #[.string x.name, .string x.owner, .int .i64 x.prio, .slice B1 x.need.length d1, .slice B2 x.labels.length d2, .slice B3 x.sel.length d3, .slice B4 x.tols.length d4, .string zkey, .int .i64 1, .string x.node, .bool x.hold][i]?) ∧ w'.cell? ⟨go, gf, none⟩ = some (.string (ba D[0])))
          (first | with_reducible exact ⟨z, q, hcd'⟩ | go_keep) (first
          | (go_at_call 18; (with_reducible refine (Count_calls _ _ s y (ba D[0]) _ (by with_reducible exact Kd.V.mono (vw_below (Below.then (Below.then HB0.out HB.out) (drew_below _))) HVS.out) (by with_reducible exact Kd.V.mono (vw_below (Below.then (Below.then HB0.out HB.out) (drew_below _))) HVY.out)).mono ?_); rintro e X2 ⟨rfl, hb⟩; rw [HCC.out]; replace HB := Lib.hid (Below.then (Below.then HB.out (drew_below _)) hb); replace HQ := Lib.hid ((HB.out.block _ (blk_lt HQ0.out)).trans HQ0.out); replace HQP := Lib.hid ((HB.out.block _ (blk_lt HQP0.out)).trans HQP0.out); have hcd2 := keep_cell (w := X.drew) hb hcd'; clear z zf q qf hb hcd'; have hcd' := hcd2; clear hcd2; obtain ⟨z, zf⟩ := blk_all HQ.out; obtain ⟨q, qf⟩ := blk_all HQP.out))
        go_wp2
        go_roundw
        case rel => exact ⟨0 + 1, by omega, by go_num, by rw [HSN.out, Int.natCast_add], HB.out⟩
        case measure => simp [intOf]; omega
      · have hj1 : 0 < j := by omega
        have hjm : ((j : Int) - 1).toNat = j - 1 := by omega
        obtain ⟨go', gf', hA, hcd2, -⟩ := (HDS.out.mono (vw_below HB.out)).elem1 (j - 1) (by simp; omega)
        injection hA with hA
        injection hA with e1 e2
        subst e1 e2
        rw [List.getElem_map] at hcd2
        have hle := le_ltS (ba D[j]) (ba D[j - 1])
        have hlt3 : ltS (ba D[j - 1]) (ba D[j]) = true := by
          unfold ltS
          rw [decide_eq_true_eq]
          exact (List.pairwise_iff_getElem.1 HRIS.out) (j - 1) j (by omega) hlt2 (by omega)
        rw [hlt3] at hle
        have hle2 : (Op.bytesLess (ba D[j]).toList (ba D[j - 1]).toList || ((ba D[j]).toList == (ba D[j - 1]).toList)) = false := hle
        clear hle hlt3
        go_upto_region 12 with fail
        go_quiet (fail)
        clear hle2 hcd2
        have HB1 := Lib.hid (drewN_then HB.out nq)
        have hcd' : (wr.drewN nq).cell? ⟨go, gf + j, none⟩ = some (.string (ba D[j])) := hcd
        generalize wr.drewN nq = X at HB1 hcd' ⊢
        clear HB HQ HQP z zf q qf hcd
        have HB := HB1
        have HQ := Lib.hid ((HB.out.block _ (blk_lt HQ0.out)).trans HQ0.out)
        have HQP := Lib.hid ((HB.out.block _ (blk_lt HQP0.out)).trans HQP0.out)
        clear HB1
        obtain ⟨z, zf⟩ := blk_all HQ.out
        obtain ⟨q, qf⟩ := blk_all HQP.out
        have b1 : (j : Int) < (D.length : Int) := by omega
        go_upto_region 14 with fail
        go_region_held3 (fun w' => (∀ i, w'.cell? ⟨w.heap.size, i, none⟩ = #[.slice A1 s.nodes.length c1, .slice (some ⟨b, off, none⟩) s.pods.length c2, .slice A3 s.budgets.length c3][i]?) ∧ (∀ i, w'.cell? ⟨w2.heap.size, i, none⟩ = #[.string x.name, .string x.owner, .int .i64 x.prio, .slice B1 x.need.length d1, .slice B2 x.labels.length d2, .slice B3 x.sel.length d3, .slice B4 x.tols.length d4, .string zkey, .int .i64 1, .string x.node, .bool x.hold][i]?) ∧ w'.cell? ⟨go, gf + j, none⟩ = some (.string (ba D[j])))
          (first | with_reducible exact ⟨z, q, hcd'⟩ | go_keep) (first
          | (go_at_call 18; (with_reducible refine (Count_calls _ _ s y (ba D[j]) _ (by with_reducible exact Kd.V.mono (vw_below (Below.then (Below.then HB0.out HB.out) (drew_below _))) HVS.out) (by with_reducible exact Kd.V.mono (vw_below (Below.then (Below.then HB0.out HB.out) (drew_below _))) HVY.out)).mono ?_); rintro e X2 ⟨rfl, hb⟩; rw [HCC.out]; replace HB := Lib.hid (Below.then (Below.then HB.out (drew_below _)) hb); replace HQ := Lib.hid ((HB.out.block _ (blk_lt HQ0.out)).trans HQ0.out); replace HQP := Lib.hid ((HB.out.block _ (blk_lt HQP0.out)).trans HQP0.out); have hcd2 := keep_cell (w := X.drew) hb hcd'; clear z zf q qf hb hcd'; have hcd' := hcd2; clear hcd2; obtain ⟨z, zf⟩ := blk_all HQ.out; obtain ⟨q, qf⟩ := blk_all HQP.out))
        go_wp2
        go_roundw
        case rel => exact ⟨j + 1, by omega, by go_num, by rw [HSN.out, Int.natCast_add], HB.out⟩
        case measure => simp [intOf]; omega
    · obtain rfl : j = D.length := by omega
      have HTK : Hid (sumC s y (D.take D.length) = wantV s y s.pods) := by show _ = _; rw [List.take_length]; exact HSE.out
      rw [HTK.out]
      have hwl := wantV_le s y s.pods
      obtain ⟨N, hN⟩ : ∃ N, wantV s y s.pods = N := ⟨_, rfl⟩
      rw [hN] at hwl ⊢
      have HNN := Lib.hid hN
      clear hN
      go_wp2
      have hVV : ∃ V : World, V = wr := ⟨_, rfl⟩
      obtain ⟨V, rfl⟩ := hVV
      have HQ1 := HQ
      have HQP1 := HQP
      have HB1 := Lib.hid (Below.then HB0.out HB.out)
      clear z zf q qf HQ HQP HB HQ0 HQP0 HB0 HTK
      go_loopw [9, 10] (fun o i wi => ∃ j : Nat, j ≤ s.pods.length ∧ i = .int .i64 j ∧ o = .int .i64 (wantV s y (s.pods.take j) : Nat) ∧ Hid (Below V.heap.size V wi)) (fun _ i _ => s.pods.length - (intOf i).toNat)
      case atStart => exact ⟨0, Nat.zero_le _, rfl, rfl, Below.refl _ _⟩
      case round =>
        clear hj hlt2
        obtain ⟨j, hj, rfl, rfl, HB⟩ := hrel
        have HQ := Lib.hid ((HB.out.block _ (blk_lt HQ1.out)).trans HQ1.out)
        have HQP := Lib.hid ((HB.out.block _ (blk_lt HQP1.out)).trans HQP1.out)
        obtain ⟨z, zf⟩ := blk_all HQ.out
        obtain ⟨q, qf⟩ := blk_all HQP.out
        by_cases hlt2 : j < s.pods.length
        · obtain ⟨b', off', cs, hA, hn2, hc⟩ := S2.out.both (Below.then HB1.out HB.out) j hlt2
          injection hA with hA
          injection hA with e1 e2
          subst e1 e2
          have hsn := wantV_snoc s y hlt2
          have hwj := wantV_le s y (s.pods.take j)
          rw [List.length_take] at hwj
          obtain ⟨xx, hxx⟩ : ∃ xx, s.pods[j] = xx := ⟨_, rfl⟩
          rw [hxx] at hn2 hsn
          obtain ⟨F1, f1, F2, f2, F3, f3, F4, f4, rfl, -⟩ := hn2
          obtain ⟨a1, ha1⟩ : ∃ a, decide (xx.name = x.name) = a := ⟨_, rfl⟩
          obtain ⟨a2, ha2⟩ : ∃ a, decide (xx.owner = x.owner) = a := ⟨_, rfl⟩
          obtain ⟨a3, ha3⟩ : ∃ a, decide (xx.owner = ⟨#[]⟩) = a := ⟨_, rfl⟩
          obtain ⟨a4, ha4⟩ : ∃ a, xx.hold = a := ⟨_, rfl⟩
          obtain ⟨a5, ha5⟩ : ∃ a, decide (xx.node = ⟨#[]⟩) = a := ⟨_, rfl⟩
          have HO : Hid (other y xx = (a2 && (!a3 && (!a4 && (!a1 && !a5))))) := by
            show _ = _
            unfold other
            rw [HYN.out.1, HYN.out.2, ha1, ha2, ha4, ha5]
            cases a2 with
            | false => simp
            | true =>
              have he : xx.owner = x.owner := of_decide_eq_true ha2
              rw [← he, ha3]; simp
          have e1 := eq_beq xx.name x.name
          have e2 := eq_beq xx.owner x.owner
          have e3 := empty_beq xx.owner
          have e5 := empty_beq xx.node
          rw [ha1] at e1
          rw [ha2] at e2
          rw [ha3] at e3
          rw [ha5] at e5
          rw [ha4] at hc
          have HC : Hid (wr.rangeAt b (off + j * 11) _) := hc
          obtain ⟨M, hM⟩ : ∃ M, wantV s y (s.pods.take j) = M := ⟨_, rfl⟩
          rw [hM] at hsn hwj ⊢
          have HSN := Lib.hid hsn
          have Z0 : other y xx = false → Hid (wantV s y (s.pods.take (j + 1)) = M) := fun h => by
            show _ = _
            rw [HSN.out, h]; simp
          clear hc hsn hM ha1 ha2 ha3 ha4 ha5 hxx
          go_upto_region 20 with (with_reducible refine wpList_load_mid rfl 35 _ rfl b (off + j * 11) rfl _ _ HC.out Try.underlying35 rfl (by kernel_rfl) ?_)
          obtain ⟨U3, hU3⟩ : ∃ U3 : World, U3 = wr.alloc (.cells #[.string xx.name, .string xx.owner, .int .i64 xx.prio, .slice F1 xx.need.length f1, .slice F2 xx.labels.length f2, .slice F3 xx.sel.length f3, .slice F4 xx.tols.length f4, .string xx.key, .int .i64 xx.most, .string xx.node, .bool a4] 35) := ⟨_, rfl⟩
          rw [← hU3]
          have hub : U3.heap[wr.heap.size]? = some (.cells #[.string xx.name, .string xx.owner, .int .i64 xx.prio, .slice F1 xx.need.length f1, .slice F2 xx.labels.length f2, .slice F3 xx.sel.length f3, .slice F4 xx.tols.length f4, .string xx.key, .int .i64 xx.most, .string xx.node, .bool a4] 35 (0, 0)) := by rw [hU3]; exact blk_last _ _
          have hue : Below wr.heap.size wr U3 := by rw [hU3]; exact alloc_below _ _
          replace HB := Lib.hid (Below.then HB.out hue)
          replace HQ := Lib.hid ((HB.out.block _ (blk_lt HQ1.out)).trans HQ1.out)
          replace HQP := Lib.hid ((HB.out.block _ (blk_lt HQP1.out)).trans HQP1.out)
          have HUB := Lib.hid hub
          clear z zf q qf hU3 hue hub HC
          obtain ⟨z, zf⟩ := blk_all HQ.out
          obtain ⟨q, qf⟩ := blk_all HQP.out
          obtain ⟨u, uf⟩ := blk_all HUB.out
          cases a1 with
          | true =>
            go_wp2
            go_roundw
            case rel => exact ⟨j + 1, by omega, by go_num, by rw [(Z0 (by rw [HO.out]; simp)).out], HB.out⟩
            case measure => simp [intOf]; omega
          | false =>
          cases a2 with
          | false =>
            go_wp2
            go_roundw
            case rel => exact ⟨j + 1, by omega, by go_num, by rw [(Z0 (by rw [HO.out]; simp)).out], HB.out⟩
            case measure => simp [intOf]; omega
          | true =>
          cases a3 with
          | true =>
            go_wp2
            go_roundw
            case rel => exact ⟨j + 1, by omega, by go_num, by rw [(Z0 (by rw [HO.out]; simp)).out], HB.out⟩
            case measure => simp [intOf]; omega
          | false =>
          cases a4 with
          | true =>
            go_wp2
            go_roundw
            case rel => exact ⟨j + 1, by omega, by go_num, by rw [(Z0 (by rw [HO.out]; simp)).out], HB.out⟩
            case measure => simp [intOf]; omega
          | false =>
          cases a5 with
          | true =>
            go_wp2
            go_roundw
            case rel => exact ⟨j + 1, by omega, by go_num, by rw [(Z0 (by rw [HO.out]; simp)).out], HB.out⟩
            case measure => simp [intOf]; omega
          | false =>
          go_wp2_with fail
          refine (Skew_calls _ _ s y xx.node _ (Kd.V.mono (vw_below (Below.then HB1.out HB.out)) HVS.out) (Kd.V.mono (vw_below (Below.then HB1.out HB.out)) HVY.out) (by omega) (by omega)).mono ?_
          rintro e U4 ⟨rfl, hb⟩
          have hsk := skew_ok (s := s) (n := xx.node) (show y.key ≠ ⟨#[]⟩ by rw [HYK.out]; decide)
          obtain ⟨sn, hsn⟩ : ∃ sn, (skewV s y xx.node).1 = sn := ⟨_, rfl⟩
          obtain ⟨so, hso⟩ : ∃ so, (skewV s y xx.node).2 = so := ⟨_, rfl⟩
          rw [hso] at hsk
          rw [hsn, hso]
          have HSN2 : Hid (wantV s y (s.pods.take (j + 1)) = M + if so = true then 1 else 0) := by
            show _ = _
            rw [HSN.out, HO.out, hsk]; simp
          replace HB := Lib.hid (Below.then HB.out hb)
          clear hb z zf q qf u uf hsk hsn hso HQ HQP HUB
          cases so with
          | false =>
            have HS3 : Hid (wantV s y (s.pods.take (j + 1)) = M) := HSN2.out
            go_wp2
            go_roundw
            case rel => exact ⟨j + 1, by omega, by go_num, by rw [HS3.out], HB.out⟩
            case measure => simp [intOf]; omega
          | true =>
            have HS3 : Hid (wantV s y (s.pods.take (j + 1)) = M + 1) := HSN2.out
            go_wp2
            go_roundw
            case rel => exact ⟨j + 1, by omega, by go_num, by rw [HS3.out]; go_num, HB.out⟩
            case measure => simp [intOf]; omega
        · obtain rfl : j = s.pods.length := by omega
          have HTK : Hid (wantV s y (s.pods.take s.pods.length) = N) := by show _ = _; rw [List.take_length]; exact HNN.out
          rw [HTK.out]
          go_wp2_with fail
          refine (Count_calls _ _ s y blank _ (Kd.V.mono (vw_below (Below.then HB1.out HB.out)) HVS.out) (Kd.V.mono (vw_below (Below.then HB1.out HB.out)) HVY.out)).mono ?_
          rintro e X2 ⟨rfl, hb⟩
          rw [no_where HC.out]
          replace HB := Lib.hid (Below.then (Below.then HB1.out HB.out) hb)
          clear hb z zf q qf
          go_wp2
          go_ret
          exact ⟨rfl, HB.out⟩
end Go.Proofs.Ytfbmfjmnpfidoaa
namespace Go.Proofs.Ytfbmfjmnpfidoaa
open Go.RowKit Go.Sort

/-! A region whose calls make memory, and in which variables are made and written: what stays, whatever the order. -/
theorem list6 {α : Type} {l : List α} (h : l.length = 6) : ∃ a b c d e f, l = [a, b, c, d, e, f] := by
  match l, h with
  | [a, b, c, d, e, f], _ => exact ⟨a, b, c, d, e, f, rfl⟩
theorem step_do {P : Program} {ops : Array Oper} {o : Oper} {a : Act} {w : World} {K : Act → World → Prop} {Q : Exit → Act → World → Prop} (hgd : o.guard = none) (h : o.wp P a w K Q) :
    if Region.wanted o (yielded ops a.tmps) = true then o.wp P a w K Q else K (a.put o.dst undef) w := by
  rw [if_pos (by simp [Region.wanted, hgd])]; exact h
structure AnyAt (w : World) (s : St) (p : Pd) (b1 b2 b9 b10 : Nat) (c1 c2 c9 c10 : Array Value) (W : World) : Prop where
  bel : Below w.heap.size w W
  q1 : W.heap[b1]? = some (.cells c1 26 (0, 0))
  q2 : W.heap[b2]? = some (.cells c2 35 (0, 0))
  q9 : W.heap[b9]? = some (.cells c9 51 (0, 0))
  q10 : W.heap[b10]? = some (.cells c10 45 (0, 0))
  v1 : Kd.state.V (vw W []) (.agg c1) s
  v2 : Kd.pod.V (vw W []) (.agg c2) p
  v9 : Kd.state.V (vw W []) (.agg c9) s
  v10 : Kd.pod.V (vw W []) (.agg c10) p
theorem AnyAt.below {w : World} {s : St} {p : Pd} {b1 b2 b9 b10 : Nat} {c1 c2 c9 c10 : Array Value} {W W' : World} (h : AnyAt w s p b1 b2 b9 b10 c1 c2 c9 c10 W) (hb : Below W.heap.size W W') : AnyAt w s p b1 b2 b9 b10 c1 c2 c9 c10 W' :=
  ⟨Below.then h.bel hb, (hb.block _ (blk_lt h.q1)).trans h.q1, (hb.block _ (blk_lt h.q2)).trans h.q2, (hb.block _ (blk_lt h.q9)).trans h.q9, (hb.block _ (blk_lt h.q10)).trans h.q10, h.v1.mono (vw_below hb), h.v2.mono (vw_below hb), h.v9.mono (vw_below hb), h.v10.mono (vw_below hb)⟩
set_option maxHeartbeats 16000000 in
set_option maxRecDepth 100000 in
theorem SpreadAny_calls (vs vp : Value) (s : St) (p : Pd) (key name : ByteArray) (w : World) (hv : Kd.state.V (vw w []) vs s) (hp : Kd.pod.V (vw w []) vp p) :
    Calls Try.prog 3 #[vs, vp, .string key, .string name] w (BoolDone true w) := by
  obtain ⟨cs, rfl, hks⟩ := hv
  obtain ⟨cp, rfl, hkp⟩ := hp
  have hvs : Kd.state.V (vw w []) (.agg cs.toArray) s := ⟨cs, rfl, hks⟩
  have hvp : Kd.pod.V (vw w []) (.agg cp.toArray) p := ⟨cp, rfl, hkp⟩
  obtain ⟨A1, c1, A2, c2, A3, c3, rfl, -⟩ := hks
  obtain ⟨B1, d1, B2, d2, B3, d3, B4, d4, rfl, -, -, sl, -⟩ := hkp
  have HVS := Lib.hid hvs
  have HVP := Lib.hid hvp
  have HSL := Lib.hid sl
  clear hvs hvp sl
  go_enter Try.func3, Try.ntmps3
  go_upto_region 1 with fail
  obtain ⟨W, hW⟩ : ∃ W : World, W = (w.alloc (.cells #[.slice A1 s.nodes.length c1, .slice A2 s.pods.length c2, .slice A3 s.budgets.length c3] 26)).alloc (.cells #[.string p.name, .string p.owner, .int .i64 p.prio, .slice B1 p.need.length d1, .slice B2 p.labels.length d2, .slice B3 p.sel.length d3, .slice B4 p.tols.length d4, .string p.key, .int .i64 p.most, .string p.node, .bool p.hold] 35) := ⟨_, rfl⟩
  rw [← hW]
  have HB : Hid (Below w.heap.size w W) := by rw [hW]; exact Below.then (alloc_below _ _) (alloc_below _ _)
  have HQ : Hid (W.heap[w.heap.size]? = some (.cells #[.slice A1 s.nodes.length c1, .slice A2 s.pods.length c2, .slice A3 s.budgets.length c3] 26 (0, 0))) := by rw [hW]; exact (blk_old _ _ (by simp)).trans (blk_last _ _)
  have HP : Hid (W.heap[w.heap.size + 1]? = some (.cells #[.string p.name, .string p.owner, .int .i64 p.prio, .slice B1 p.need.length d1, .slice B2 p.labels.length d2, .slice B3 p.sel.length d3, .slice B4 p.tols.length d4, .string p.key, .int .i64 p.most, .string p.node, .bool p.hold] 35 (0, 0))) := by
    show _ = _
    rw [hW]
    have := blk_last (w.alloc (.cells #[.slice A1 s.nodes.length c1, .slice A2 s.pods.length c2, .slice A3 s.budgets.length c3] 26)) (.cells #[.string p.name, .string p.owner, .int .i64 p.prio, .slice B1 p.need.length d1, .slice B2 p.labels.length d2, .slice B3 p.sel.length d3, .slice B4 p.tols.length d4, .string p.key, .int .i64 p.most, .string p.node, .bool p.hold] 35)
    simpa using this
  clear hW
  obtain ⟨z, zf⟩ := blk_all HQ.out
  obtain ⟨y, yf⟩ := blk_all HP.out
  go_wp2_with fail
  refine (known_calls _).mono ?_
  rintro e w1 ⟨rfl, hb⟩
  replace HQ := Lib.hid ((hb.block _ (blk_lt HQ.out)).trans HQ.out)
  replace HP := Lib.hid ((hb.block _ (blk_lt HP.out)).trans HP.out)
  replace HB := Lib.hid (Below.then HB.out hb)
  clear hb z zf y yf
  obtain ⟨z, zf⟩ := blk_all HQ.out
  obtain ⟨y, yf⟩ := blk_all HP.out
  go_wp2_with fail
  refine (Good_calls _ s _ (Kd.V.mono (vw_below HB.out) HVS.out)).mono ?_
  rintro e w2 ⟨r, rfl, hr, hb⟩
  replace HQ := Lib.hid ((hb.block _ (blk_lt HQ.out)).trans HQ.out)
  replace HP := Lib.hid ((hb.block _ (blk_lt HP.out)).trans HP.out)
  replace HB := Lib.hid (Below.then HB.out hb)
  clear hb z zf y yf
  obtain ⟨z, zf⟩ := blk_all HQ.out
  obtain ⟨y, yf⟩ := blk_all HP.out
  cases r with
  | false =>
    clear hr
    go_wp2
    go_ret
    exact ⟨rfl, HB.out⟩
  | true =>
  have hf := (hr rfl).1
  have hnl : s.nodes.length ≤ 34 := hf.1
  have hpl : s.pods.length ≤ 130 := hf.2.1
  have HF := Lib.hid hf
  clear hr hf
  go_wp2_with fail
  refine (Few7_calls _ p _ (Kd.V.mono (vw_below HB.out) HVP.out)).mono ?_
  rintro e w3 ⟨r, rfl, hr, hb⟩
  replace HQ := Lib.hid ((hb.block _ (blk_lt HQ.out)).trans HQ.out)
  replace HP := Lib.hid ((hb.block _ (blk_lt HP.out)).trans HP.out)
  replace HB := Lib.hid (Below.then HB.out hb)
  clear hb z zf y yf
  obtain ⟨z, zf⟩ := blk_all HQ.out
  obtain ⟨y, yf⟩ := blk_all HP.out
  cases r with
  | false =>
    clear hr
    go_wp2
    go_ret
    exact ⟨rfl, HB.out⟩
  | true =>
  have HFP := Lib.hid (hr rfl)
  clear hr
  go_wp2_with fail
  refine (Of7_calls _ p _ (Kd.V.mono (vw_below HB.out) HVP.out) HFP.out).mono ?_
  rintro e w4 ⟨cs4, rfl, hk4, hb⟩
  have HV4 : Hid (Kd.pod.V (vw w4 []) (.agg cs4.toArray) p) := ⟨cs4, rfl, Kd.pod.mono (nx_vw (by simp)) hk4⟩
  clear hk4
  replace HQ := Lib.hid ((hb.block _ (blk_lt HQ.out)).trans HQ.out)
  replace HP := Lib.hid ((hb.block _ (blk_lt HP.out)).trans HP.out)
  replace HB := Lib.hid (Below.then HB.out hb)
  clear hb z zf y yf
  obtain ⟨z, zf⟩ := blk_all HQ.out
  obtain ⟨y, yf⟩ := blk_all HP.out
  go_wp2_with fail
  refine (CheckPod_calls _ p _ HV4.out).mono ?_
  rintro e w5 ⟨rfl, hb⟩
  obtain ⟨n, hn⟩ : ∃ n, checkPod p = n := ⟨_, rfl⟩
  rw [hn]
  clear hn HV4
  replace HQ := Lib.hid ((hb.block _ (blk_lt HQ.out)).trans HQ.out)
  replace HP := Lib.hid ((hb.block _ (blk_lt HP.out)).trans HP.out)
  replace HB := Lib.hid (Below.then HB.out hb)
  clear hb z zf y yf
  obtain ⟨z, zf⟩ := blk_all HQ.out
  obtain ⟨y, yf⟩ := blk_all HP.out
  by_cases h0 : ¬ n = 0
  · have t1 : (n == 0) = false := by simp [h0]
    go_wp2
    go_ret
    exact ⟨rfl, HB.out⟩
  obtain rfl : n = 0 := Decidable.not_not.1 h0
  clear h0
  by_cases hk50 : 50 < key.size
  · go_wp2
    go_ret
    exact ⟨rfl, HB.out⟩
  by_cases hn50 : 50 < name.size
  · go_wp2
    go_ret
    exact ⟨rfl, HB.out⟩
  go_upto_region 5 with fail
  have hls := blk_lt HP.out
  have l1 : w.heap.size < w5.heap.size := by omega
  have F6 : ∀ {L : Nat → Bool} {i : Nat} {X Y : Prop}, (L 6 = true → L 1 = true ∧ L 4 = true) → L i = false → (i = 1 ∨ i = 4) → L 6 = false := fun {L i X Y} h hL hi => by
    cases h6 : L 6 with
    | false => rfl
    | true =>
      rcases hi with rfl | rfl
      · rw [(h h6).1] at hL; cases hL
      · rw [(h h6).2] at hL; cases hL
  have F7 : ∀ {L : Nat → Bool} {i : Nat}, (L 7 = true → L 3 = true ∧ L 5 = true) → L i = false → (i = 3 ∨ i = 5) → L 7 = false := fun {L i} h hL hi => by
    cases h7 : L 7 with
    | false => rfl
    | true =>
      rcases hi with rfl | rfl
      · rw [(h h7).1] at hL; cases hL
      · rw [(h h7).2] at hL; cases hL
  refine wp_region_slots [9, 10, 41, 42, 43, 44] (fun L vs W' => ∃ s9 s10 s41 s42 s43 s44 : Value, vs = [s9, s10, s41, s42, s43, s44] ∧ (L 0 = true → s41 = .agg #[.slice A1 s.nodes.length c1, .slice A2 s.pods.length c2, .slice A3 s.budgets.length c3]) ∧ (L 2 = true → s43 = .agg #[.string p.name, .string p.owner, .int .i64 p.prio, .slice B1 p.need.length d1, .slice B2 p.labels.length d2, .slice B3 p.sel.length d3, .slice B4 p.tols.length d4, .string p.key, .int .i64 p.most, .string p.node, .bool p.hold]) ∧ (L 6 = true → L 1 = true ∧ L 4 = true) ∧ (L 7 = true → L 3 = true ∧ L 5 = true) ∧
    PairJ Kd.state s 51 Kd.pod p 45 w5 (L 1) (L 3) (L 4) (L 5) (L 6) (L 7) s42 s44 s9 s10 W') (by kernel_rfl) (by kernel_rfl) ?start (And.intro ?o0 (And.intro ?o1 (And.intro ?o2 (And.intro ?o3 (And.intro ?o4 (And.intro ?o5 (And.intro ?o6 (And.intro ?o7 trivial)))))))) ?rest
  case start =>
    intro L vs hL hlen
    obtain ⟨s9, s10, s41, s42, s43, s44, rfl⟩ := list6 hlen
    have h0 := hL 0 (by simp)
    have h1 := hL 1 (by simp)
    have h2 := hL 2 (by simp)
    have h3 := hL 3 (by simp)
    have h4 := hL 4 (by simp)
    have h5 := hL 5 (by simp)
    have h6 := hL 6 (by simp)
    have h7 := hL 7 (by simp)
    refine ⟨s9, s10, s41, s42, s43, s44, rfl, fun h => ?_, fun h => ?_, fun h => ?_, fun h => ?_, ?_⟩
    · rw [h0] at h; cases h
    · rw [h2] at h; cases h
    · rw [h6] at h; cases h
    · rw [h7] at h; cases h
    · rw [h1, h3, h4, h5, h6, h7]
      exact PairJ.start (drew_below _)
  case o0 =>
    rintro L a' W' K ⟨vs, rfl, s9, s10, s41, s42, s43, s44, rfl, h41, h43, d6, d7, hJ⟩ hL hd hK
    have zz : ∀ j, W'.cell? ⟨w.heap.size, j, none⟩ = #[.slice A1 s.nodes.length c1, .slice A2 s.pods.length c2, .slice A3 s.budgets.length c3][j]? := fun j => (hJ.bel.cell (p := ⟨w.heap.size, j, none⟩) l1).trans (z j)
    simp only [putAll, Act.put, List.setIfInBounds_toArray, List.set_cons_zero, List.set_cons_succ]
    go_simp
    exact hK _ _ ⟨[s9, s10, .agg #[.slice A1 s.nodes.length c1, .slice A2 s.pods.length c2, .slice A3 s.budgets.length c3], s42, s43, s44], rfl, s9, s10, _, s42, s43, s44, rfl, fun _ => rfl, h43, d6, d7, hJ⟩
  case o1 =>
    rintro L a' W' K ⟨vs, rfl, s9, s10, s41, s42, s43, s44, rfl, h41, h43, d6, d7, hJ⟩ hL hd hK
    obtain rfl := h41 (hd 0 (by decide))
    have ht := F6 (X := True) (Y := True) d6 hL (.inl rfl)
    simp only [putAll, Act.put, List.setIfInBounds_toArray, List.set_cons_zero, List.set_cons_succ]
    go_simp
    refine (Of9_calls _ s _ (Kd.V.mono (vw_below (Below.then HB.out hJ.bel)) HVS.out) HF.out).mono ?_
    rintro e w9 ⟨cs9, rfl, hk9, hb9⟩
    exact hK _ _ ⟨[s9, s10, _, .agg cs9.toArray, s43, s44], rfl, s9, s10, _, _, s43, s44, rfl, fun _ => rfl, h43, fun h => ⟨rfl, (d6 h).2⟩, d7, hJ.call1 ht hb9 hk9⟩
  case o2 =>
    rintro L a' W' K ⟨vs, rfl, s9, s10, s41, s42, s43, s44, rfl, h41, h43, d6, d7, hJ⟩ hL hd hK
    have zz : ∀ j, W'.cell? ⟨w.heap.size + 1, j, none⟩ = #[.string p.name, .string p.owner, .int .i64 p.prio, .slice B1 p.need.length d1, .slice B2 p.labels.length d2, .slice B3 p.sel.length d3, .slice B4 p.tols.length d4, .string p.key, .int .i64 p.most, .string p.node, .bool p.hold][j]? := fun j => (hJ.bel.cell (p := ⟨w.heap.size + 1, j, none⟩) hls).trans (y j)
    simp only [putAll, Act.put, List.setIfInBounds_toArray, List.set_cons_zero, List.set_cons_succ]
    go_simp
    exact hK _ _ ⟨[s9, s10, s41, s42, .agg #[.string p.name, .string p.owner, .int .i64 p.prio, .slice B1 p.need.length d1, .slice B2 p.labels.length d2, .slice B3 p.sel.length d3, .slice B4 p.tols.length d4, .string p.key, .int .i64 p.most, .string p.node, .bool p.hold], s44], rfl, s9, s10, s41, s42, _, s44, rfl, h41, fun _ => rfl, d6, d7, hJ⟩
  case o3 =>
    rintro L a' W' K ⟨vs, rfl, s9, s10, s41, s42, s43, s44, rfl, h41, h43, d6, d7, hJ⟩ hL hd hK
    obtain rfl := h43 (hd 2 (by decide))
    have ht := F7 d7 hL (.inl rfl)
    simp only [putAll, Act.put, List.setIfInBounds_toArray, List.set_cons_zero, List.set_cons_succ]
    go_simp
    refine (Of7_calls _ p _ (Kd.V.mono (vw_below (Below.then HB.out hJ.bel)) HVP.out) HFP.out).mono ?_
    rintro e w10 ⟨cs10, rfl, hk10, hb10⟩
    exact hK _ _ ⟨[s9, s10, s41, s42, _, .agg cs10.toArray], rfl, s9, s10, s41, s42, _, _, rfl, h41, fun _ => rfl, d6, fun h => ⟨rfl, (d7 h).2⟩, hJ.call2 ht hb10 hk10⟩
  case o4 =>
    rintro L a' W' K ⟨vs, rfl, s9, s10, s41, s42, s43, s44, rfl, h41, h43, d6, d7, hJ⟩ hL hd hK
    have ht := F6 (X := True) (Y := True) d6 hL (.inr rfl)
    simp only [putAll, Act.put, List.setIfInBounds_toArray, List.set_cons_zero, List.set_cons_succ]
    go_simp
    exact hK _ _ ⟨[_, s10, s41, s42, s43, s44], rfl, _, s10, s41, s42, s43, s44, rfl, h41, h43, fun h => ⟨(d6 h).1, rfl⟩, d7, hJ.alloc1 hL ht (old := [.slice none 0 0, .slice none 0 0, .slice none 0 0]) rfl⟩
  case o5 =>
    rintro L a' W' K ⟨vs, rfl, s9, s10, s41, s42, s43, s44, rfl, h41, h43, d6, d7, hJ⟩ hL hd hK
    have ht := F7 d7 hL (.inr rfl)
    simp only [putAll, Act.put, List.setIfInBounds_toArray, List.set_cons_zero, List.set_cons_succ]
    go_simp
    exact hK _ _ ⟨[s9, _, s41, s42, s43, s44], rfl, s9, _, s41, s42, s43, s44, rfl, h41, h43, d6, fun h => ⟨(d7 h).1, rfl⟩, hJ.alloc2 hL ht (old := [.string ⟨#[]⟩, .string ⟨#[]⟩, .int .i64 0, .slice none 0 0, .slice none 0 0, .slice none 0 0, .slice none 0 0, .string ⟨#[]⟩, .int .i64 0, .string ⟨#[]⟩, .bool false]) rfl⟩
  case o6 =>
    rintro L a' W' K ⟨vs, rfl, s9, s10, s41, s42, s43, s44, rfl, h41, h43, d6, d7, hJ⟩ hL hd hK
    simp only [putAll, Act.put, List.setIfInBounds_toArray, List.set_cons_zero, List.set_cons_succ]
    obtain ⟨b, cs, rfl, rfl, hl, ht, ⟨_, hk⟩, hJ2⟩ := hJ.store1 (hd 1 (by decide)) (hd 4 (by decide)) (fun h => (d7 h).2)
    obtain ⟨E1, x1, E2, x2, E3, x3, rfl, -⟩ := hk
    rw [if_pos (by rfl)]
    refine wp_store_mid 51 (.tmp 9) (.tmp 42) rfl b 0 _ rfl rfl ht (by kernel_rfl) (by simp [Value.oneCell']) ?_
    exact hK _ _ ⟨[.pointer (some ⟨b, 0, none⟩), s10, s41, .agg #[.slice E1 s.nodes.length x1, .slice E2 s.pods.length x2, .slice E3 s.budgets.length x3], s43, s44], rfl, _, s10, s41, _, s43, s44, rfl, h41, h43, fun _ => ⟨hd 1 (by decide), hd 4 (by decide)⟩, d7, hJ2⟩
  case o7 =>
    rintro L a' W' K ⟨vs, rfl, s9, s10, s41, s42, s43, s44, rfl, h41, h43, d6, d7, hJ⟩ hL hd hK
    simp only [putAll, Act.put, List.setIfInBounds_toArray, List.set_cons_zero, List.set_cons_succ]
    obtain ⟨b, cs, rfl, rfl, hl, ht, ⟨_, hk⟩, hJ2⟩ := hJ.store2 (hd 3 (by decide)) (hd 5 (by decide)) (fun h => (d6 h).2)
    obtain ⟨F1, y1, F2, y2, F3, y3, F4, y4, rfl, -⟩ := hk
    rw [if_pos (by rfl)]
    refine wp_store_mid 45 (.tmp 10) (.tmp 44) rfl b 0 _ rfl rfl ht (by kernel_rfl) (by simp [Value.oneCell']) ?_
    exact hK _ _ ⟨[s9, .pointer (some ⟨b, 0, none⟩), s41, s42, s43, .agg #[.string p.name, .string p.owner, .int .i64 p.prio, .slice F1 p.need.length y1, .slice F2 p.labels.length y2, .slice F3 p.sel.length y3, .slice F4 p.tols.length y4, .string p.key, .int .i64 p.most, .string p.node, .bool p.hold]], rfl, s9, _, s41, s42, s43, _, rfl, h41, h43, d6, fun _ => ⟨hd 3 (by decide), hd 5 (by decide)⟩, hJ2⟩
  case rest =>
    rintro L vs W5 ⟨s9, s10, s41, s42, s43, s44, rfl, h41, h43, -, -, hJ⟩ hL
    rw [hL 1, hL 3, hL 4, hL 5, hL 6, hL 7] at hJ
    obtain rfl := h41 (hL 0)
    obtain rfl := h43 (hL 2)
    obtain ⟨b9, b10, cs9, cs10, rfl, rfl, q9, q10, k9, k10, -, -, -, bel⟩ := hJ.done
    have ha : AnyAt w s p w.heap.size (w.heap.size + 1) b9 b10 #[.slice A1 s.nodes.length c1, .slice A2 s.pods.length c2, .slice A3 s.budgets.length c3] #[.string p.name, .string p.owner, .int .i64 p.prio, .slice B1 p.need.length d1, .slice B2 p.labels.length d2, .slice B3 p.sel.length d3, .slice B4 p.tols.length d4, .string p.key, .int .i64 p.most, .string p.node, .bool p.hold] cs9.toArray cs10.toArray W5 := ⟨Below.then HB.out bel, (bel.block _ l1).trans HQ.out, (bel.block _ hls).trans HP.out, q9, q10, HVS.out.mono (vw_below (Below.then HB.out bel)), HVP.out.mono (vw_below (Below.then HB.out bel)), ⟨_, rfl, k9⟩, ⟨_, rfl, k10⟩⟩
    obtain ⟨E1, x1, E2, x2, E3, x3, rfl, -⟩ := id k9
    obtain ⟨F1, y1, F2, y2, F3, y3, F4, y4, rfl, -⟩ := id k10
    have HA : Hid (AnyAt w s p w.heap.size (w.heap.size + 1) b9 b10 #[.slice A1 s.nodes.length c1, .slice A2 s.pods.length c2, .slice A3 s.budgets.length c3] #[.string p.name, .string p.owner, .int .i64 p.prio, .slice B1 p.need.length d1, .slice B2 p.labels.length d2, .slice B3 p.sel.length d3, .slice B4 p.tols.length d4, .string p.key, .int .i64 p.most, .string p.node, .bool p.hold] #[.slice E1 s.nodes.length x1, .slice E2 s.pods.length x2, .slice E3 s.budgets.length x3] #[.string p.name, .string p.owner, .int .i64 p.prio, .slice F1 p.need.length y1, .slice F2 p.labels.length y2, .slice F3 p.sel.length y3, .slice F4 p.tols.length y4, .string p.key, .int .i64 p.most, .string p.node, .bool p.hold] W5) := ha
    clear ha q9 q10 k9 k10 bel hJ hL h41 h43 F6 F7 L
    simp only [putAll, Act.put, List.setIfInBounds_toArray, List.set_cons_zero, List.set_cons_succ]
    have hdm : ∀ d ∈ domsV s.nodes key, d.length ≤ 140737488351232 := fun d hd => by have := doms_small HF.out hd; omega
    have hdl : (domsV s.nodes key).length ≤ 140737488351232 := by have := domsV_len s.nodes key; omega
    have hnm : ∀ x ∈ badL s s.pods, sok x := fun x hx => by
      unfold badL at hx
      obtain ⟨q, hq, rfl⟩ := List.mem_map.1 hx
      have := (HF.out.2.2.2.2 q (List.mem_filter.1 hq).1).1
      unfold sok; omega
    have hbl : (badL s s.pods).length ≤ 140737488351232 := by have := badL_len s s.pods; omega
    have hll : p.labels.length ≤ 1000 := by have := HFP.out.2.2.2.2.2.1.1; omega
    have HDM := Lib.hid hdm
    have HNM := Lib.hid hnm
    clear hdm hnm z zf y yf
    obtain ⟨z1, f1⟩ := blk_all HA.out.q1
    obtain ⟨z2, f2⟩ := blk_all HA.out.q2
    obtain ⟨z3, f3⟩ := blk_all HA.out.q9
    obtain ⟨z4, f4⟩ := blk_all HA.out.q10
    go_wp2_with fail
    refine (Skew_calls _ _ s p name _ HA.out.v1 HA.out.v2 (by omega) (by omega)).mono ?_
    rintro e w6 ⟨rfl, hb⟩
    replace HA := Lib.hid (AnyAt.below HA.out hb)
    clear hb
    clear z1 f1 z2 f2 z3 f3 z4 f4
    obtain ⟨z1, f1⟩ := blk_all HA.out.q1
    obtain ⟨z2, f2⟩ := blk_all HA.out.q2
    obtain ⟨z3, f3⟩ := blk_all HA.out.q9
    obtain ⟨z4, f4⟩ := blk_all HA.out.q10
    go_wp2_with fail
    refine (rSkew_calls _ _ s p name _ HA.out.v9 HA.out.v10 (by omega) (by omega)).mono ?_
    rintro e w7 ⟨rfl, hb⟩
    replace HA := Lib.hid (AnyAt.below HA.out hb)
    clear hb
    clear z1 f1 z2 f2 z3 f3 z4 f4
    obtain ⟨z1, f1⟩ := blk_all HA.out.q1
    obtain ⟨z2, f2⟩ := blk_all HA.out.q2
    obtain ⟨z3, f3⟩ := blk_all HA.out.q9
    obtain ⟨z4, f4⟩ := blk_all HA.out.q10
    obtain ⟨sv, so, hsk⟩ : ∃ a b, skewV s p name = (a, b) := ⟨_, _, rfl⟩
    rw [hsk]
    clear hsk
    go_upto_region 8 with fail
    go_region_held3 (fun w' => (∀ j, w'.cell? ⟨w.heap.size, j, none⟩ = #[.slice A1 s.nodes.length c1, .slice A2 s.pods.length c2, .slice A3 s.budgets.length c3][j]?) ∧ (∀ j, w'.cell? ⟨w.heap.size + 1, j, none⟩ = #[.string p.name, .string p.owner, .int .i64 p.prio, .slice B1 p.need.length d1, .slice B2 p.labels.length d2, .slice B3 p.sel.length d3, .slice B4 p.tols.length d4, .string p.key, .int .i64 p.most, .string p.node, .bool p.hold][j]?) ∧ (∀ j, w'.cell? ⟨b9, j, none⟩ = #[.slice E1 s.nodes.length x1, .slice E2 s.pods.length x2, .slice E3 s.budgets.length x3][j]?) ∧ ∀ j, w'.cell? ⟨b10, j, none⟩ = #[.string p.name, .string p.owner, .int .i64 p.prio, .slice F1 p.need.length y1, .slice F2 p.labels.length y2, .slice F3 p.sel.length y3, .slice F4 p.tols.length y4, .string p.key, .int .i64 p.most, .string p.node, .bool p.hold][j]?)
      (first | with_reducible exact ⟨z1, z2, z3, z4⟩ | go_keep)
      (first
      | (go_at_call 16; (with_reducible refine (Domains_calls _ s key _ (by with_reducible first | exact HA.out.v1 | exact Kd.V.mono (vw_below (drew_below _)) HA.out.v1) (by omega)).mono ?_); rintro e v6 ⟨sl, rfl, ho, hb⟩; have HS1 : Hid (Kd.str.S (vw v6 []) sl ((domsV s.nodes key).map ba)) := (doms_S ho hdl HDM.out); clear ho; (try replace HS2 := Lib.hid (Kd.S.mono (vw_below hb) (Hid.out HS2))); have hA1 : AnyAt w s p w.heap.size (w.heap.size + 1) b9 b10 #[.slice A1 s.nodes.length c1, .slice A2 s.pods.length c2, .slice A3 s.budgets.length c3] #[.string p.name, .string p.owner, .int .i64 p.prio, .slice B1 p.need.length d1, .slice B2 p.labels.length d2, .slice B3 p.sel.length d3, .slice B4 p.tols.length d4, .string p.key, .int .i64 p.most, .string p.node, .bool p.hold] #[.slice E1 s.nodes.length x1, .slice E2 s.pods.length x2, .slice E3 s.budgets.length x3] #[.string p.name, .string p.owner, .int .i64 p.prio, .slice F1 p.need.length y1, .slice F2 p.labels.length y2, .slice F3 p.sel.length y3, .slice F4 p.tols.length y4, .string p.key, .int .i64 p.most, .string p.node, .bool p.hold] v6 := (by with_reducible first | exact AnyAt.below HA.out hb | exact AnyAt.below HA.out (Below.then (drew_below _) hb)); replace HA := Lib.hid hA1; clear hA1 hb; clear z1 f1 z2 f2 z3 f3 z4 f4; obtain ⟨z1, f1⟩ := blk_all HA.out.q1; obtain ⟨z2, f2⟩ := blk_all HA.out.q2; obtain ⟨z3, f3⟩ := blk_all HA.out.q9; obtain ⟨z4, f4⟩ := blk_all HA.out.q10)
      | (go_at_call 17; (with_reducible refine (rDomains_calls _ s key _ (by with_reducible first | exact HA.out.v9 | exact Kd.V.mono (vw_below (drew_below _)) HA.out.v9) (by omega)).mono ?_); rintro e v7 ⟨sl, rfl, ho, hb⟩; have HS2 : Hid (Kd.str.S (vw v7 []) sl ((domsV s.nodes key).map ba)) := (doms_S ho hdl HDM.out); clear ho; (try replace HS1 := Lib.hid (Kd.S.mono (vw_below hb) (Hid.out HS1))); have hA1 : AnyAt w s p w.heap.size (w.heap.size + 1) b9 b10 #[.slice A1 s.nodes.length c1, .slice A2 s.pods.length c2, .slice A3 s.budgets.length c3] #[.string p.name, .string p.owner, .int .i64 p.prio, .slice B1 p.need.length d1, .slice B2 p.labels.length d2, .slice B3 p.sel.length d3, .slice B4 p.tols.length d4, .string p.key, .int .i64 p.most, .string p.node, .bool p.hold] #[.slice E1 s.nodes.length x1, .slice E2 s.pods.length x2, .slice E3 s.budgets.length x3] #[.string p.name, .string p.owner, .int .i64 p.prio, .slice F1 p.need.length y1, .slice F2 p.labels.length y2, .slice F3 p.sel.length y3, .slice F4 p.tols.length y4, .string p.key, .int .i64 p.most, .string p.node, .bool p.hold] v7 := (by with_reducible first | exact AnyAt.below HA.out hb | exact AnyAt.below HA.out (Below.then (drew_below _) hb)); replace HA := Lib.hid hA1; clear hA1 hb; clear z1 f1 z2 f2 z3 f3 z4 f4; obtain ⟨z1, f1⟩ := blk_all HA.out.q1; obtain ⟨z2, f2⟩ := blk_all HA.out.q2; obtain ⟨z3, f3⟩ := blk_all HA.out.q9; obtain ⟨z4, f4⟩ := blk_all HA.out.q10)
      | (go_at_call 15; (with_reducible refine (Names_same _ _ _ _ (by with_reducible first | exact HS1.out | exact Kd.S.mono (vw_below (drew_below _)) HS1.out) (by with_reducible first | exact HS2.out | exact Kd.S.mono (vw_below (drew_below _)) HS2.out)).mono ?_); rintro e v8 ⟨rfl, hb⟩; clear HS1 HS2; have hA1 : AnyAt w s p w.heap.size (w.heap.size + 1) b9 b10 #[.slice A1 s.nodes.length c1, .slice A2 s.pods.length c2, .slice A3 s.budgets.length c3] #[.string p.name, .string p.owner, .int .i64 p.prio, .slice B1 p.need.length d1, .slice B2 p.labels.length d2, .slice B3 p.sel.length d3, .slice B4 p.tols.length d4, .string p.key, .int .i64 p.most, .string p.node, .bool p.hold] #[.slice E1 s.nodes.length x1, .slice E2 s.pods.length x2, .slice E3 s.budgets.length x3] #[.string p.name, .string p.owner, .int .i64 p.prio, .slice F1 p.need.length y1, .slice F2 p.labels.length y2, .slice F3 p.sel.length y3, .slice F4 p.tols.length y4, .string p.key, .int .i64 p.most, .string p.node, .bool p.hold] v8 := (by with_reducible first | exact AnyAt.below HA.out hb | exact AnyAt.below HA.out (Below.then (drew_below _) hb)); replace HA := Lib.hid hA1; clear hA1 hb; clear z1 f1 z2 f2 z3 f3 z4 f4; obtain ⟨z1, f1⟩ := blk_all HA.out.q1; obtain ⟨z2, f2⟩ := blk_all HA.out.q2; obtain ⟨z3, f3⟩ := blk_all HA.out.q9; obtain ⟨z4, f4⟩ := blk_all HA.out.q10)
      | (go_at_call 18; (with_reducible refine (Count_calls _ _ s p name _ (by with_reducible first | exact HA.out.v1 | exact Kd.V.mono (vw_below (drew_below _)) HA.out.v1) (by with_reducible first | exact HA.out.v2 | exact Kd.V.mono (vw_below (drew_below _)) HA.out.v2)).mono ?_); rintro e v9 ⟨rfl, hb⟩; have hA1 : AnyAt w s p w.heap.size (w.heap.size + 1) b9 b10 #[.slice A1 s.nodes.length c1, .slice A2 s.pods.length c2, .slice A3 s.budgets.length c3] #[.string p.name, .string p.owner, .int .i64 p.prio, .slice B1 p.need.length d1, .slice B2 p.labels.length d2, .slice B3 p.sel.length d3, .slice B4 p.tols.length d4, .string p.key, .int .i64 p.most, .string p.node, .bool p.hold] #[.slice E1 s.nodes.length x1, .slice E2 s.pods.length x2, .slice E3 s.budgets.length x3] #[.string p.name, .string p.owner, .int .i64 p.prio, .slice F1 p.need.length y1, .slice F2 p.labels.length y2, .slice F3 p.sel.length y3, .slice F4 p.tols.length y4, .string p.key, .int .i64 p.most, .string p.node, .bool p.hold] v9 := (by with_reducible first | exact AnyAt.below HA.out hb | exact AnyAt.below HA.out (Below.then (drew_below _) hb)); replace HA := Lib.hid hA1; clear hA1 hb; clear z1 f1 z2 f2 z3 f3 z4 f4; obtain ⟨z1, f1⟩ := blk_all HA.out.q1; obtain ⟨z2, f2⟩ := blk_all HA.out.q2; obtain ⟨z3, f3⟩ := blk_all HA.out.q9; obtain ⟨z4, f4⟩ := blk_all HA.out.q10)
      | (go_at_call 19; (with_reducible refine (rCount_calls _ _ s p name _ (by with_reducible first | exact HA.out.v9 | exact Kd.V.mono (vw_below (drew_below _)) HA.out.v9) (by with_reducible first | exact HA.out.v10 | exact Kd.V.mono (vw_below (drew_below _)) HA.out.v10)).mono ?_); rintro e va ⟨rfl, hb⟩; have hA1 : AnyAt w s p w.heap.size (w.heap.size + 1) b9 b10 #[.slice A1 s.nodes.length c1, .slice A2 s.pods.length c2, .slice A3 s.budgets.length c3] #[.string p.name, .string p.owner, .int .i64 p.prio, .slice B1 p.need.length d1, .slice B2 p.labels.length d2, .slice B3 p.sel.length d3, .slice B4 p.tols.length d4, .string p.key, .int .i64 p.most, .string p.node, .bool p.hold] #[.slice E1 s.nodes.length x1, .slice E2 s.pods.length x2, .slice E3 s.budgets.length x3] #[.string p.name, .string p.owner, .int .i64 p.prio, .slice F1 p.need.length y1, .slice F2 p.labels.length y2, .slice F3 p.sel.length y3, .slice F4 p.tols.length y4, .string p.key, .int .i64 p.most, .string p.node, .bool p.hold] va := (by with_reducible first | exact AnyAt.below HA.out hb | exact AnyAt.below HA.out (Below.then (drew_below _) hb)); replace HA := Lib.hid hA1; clear hA1 hb; clear z1 f1 z2 f2 z3 f3 z4 f4; obtain ⟨z1, f1⟩ := blk_all HA.out.q1; obtain ⟨z2, f2⟩ := blk_all HA.out.q2; obtain ⟨z3, f3⟩ := blk_all HA.out.q9; obtain ⟨z4, f4⟩ := blk_all HA.out.q10)
      | (go_at_call 20; (with_reducible refine (Bad_calls _ s _ (by with_reducible first | exact HA.out.v1 | exact Kd.V.mono (vw_below (drew_below _)) HA.out.v1) (by omega) (by omega)).mono ?_); rintro e vb ⟨sl, rfl, ho, hb⟩; have HS1 : Hid (Kd.str.S (vw vb []) sl (badL s s.pods)) := bad_S ho hbl HNM.out; clear ho; (try replace HS2 := Lib.hid (Kd.S.mono (vw_below hb) (Hid.out HS2))); have hA1 : AnyAt w s p w.heap.size (w.heap.size + 1) b9 b10 #[.slice A1 s.nodes.length c1, .slice A2 s.pods.length c2, .slice A3 s.budgets.length c3] #[.string p.name, .string p.owner, .int .i64 p.prio, .slice B1 p.need.length d1, .slice B2 p.labels.length d2, .slice B3 p.sel.length d3, .slice B4 p.tols.length d4, .string p.key, .int .i64 p.most, .string p.node, .bool p.hold] #[.slice E1 s.nodes.length x1, .slice E2 s.pods.length x2, .slice E3 s.budgets.length x3] #[.string p.name, .string p.owner, .int .i64 p.prio, .slice F1 p.need.length y1, .slice F2 p.labels.length y2, .slice F3 p.sel.length y3, .slice F4 p.tols.length y4, .string p.key, .int .i64 p.most, .string p.node, .bool p.hold] vb := (by with_reducible first | exact AnyAt.below HA.out hb | exact AnyAt.below HA.out (Below.then (drew_below _) hb)); replace HA := Lib.hid hA1; clear hA1 hb; clear z1 f1 z2 f2 z3 f3 z4 f4; obtain ⟨z1, f1⟩ := blk_all HA.out.q1; obtain ⟨z2, f2⟩ := blk_all HA.out.q2; obtain ⟨z3, f3⟩ := blk_all HA.out.q9; obtain ⟨z4, f4⟩ := blk_all HA.out.q10)
      | (go_at_call 21; (with_reducible refine (rBad_calls _ s _ (by with_reducible first | exact HA.out.v9 | exact Kd.V.mono (vw_below (drew_below _)) HA.out.v9) (by omega) (by omega)).mono ?_); rintro e vc ⟨sl, rfl, ho, hb⟩; have HS2 : Hid (Kd.str.S (vw vc []) sl (badL s s.pods)) := bad_S ho hbl HNM.out; clear ho; (try replace HS1 := Lib.hid (Kd.S.mono (vw_below hb) (Hid.out HS1))); have hA1 : AnyAt w s p w.heap.size (w.heap.size + 1) b9 b10 #[.slice A1 s.nodes.length c1, .slice A2 s.pods.length c2, .slice A3 s.budgets.length c3] #[.string p.name, .string p.owner, .int .i64 p.prio, .slice B1 p.need.length d1, .slice B2 p.labels.length d2, .slice B3 p.sel.length d3, .slice B4 p.tols.length d4, .string p.key, .int .i64 p.most, .string p.node, .bool p.hold] #[.slice E1 s.nodes.length x1, .slice E2 s.pods.length x2, .slice E3 s.budgets.length x3] #[.string p.name, .string p.owner, .int .i64 p.prio, .slice F1 p.need.length y1, .slice F2 p.labels.length y2, .slice F3 p.sel.length y3, .slice F4 p.tols.length y4, .string p.key, .int .i64 p.most, .string p.node, .bool p.hold] vc := (by with_reducible first | exact AnyAt.below HA.out hb | exact AnyAt.below HA.out (Below.then (drew_below _) hb)); replace HA := Lib.hid hA1; clear hA1 hb; clear z1 f1 z2 f2 z3 f3 z4 f4; obtain ⟨z1, f1⟩ := blk_all HA.out.q1; obtain ⟨z2, f2⟩ := blk_all HA.out.q2; obtain ⟨z3, f3⟩ := blk_all HA.out.q9; obtain ⟨z4, f4⟩ := blk_all HA.out.q10)
      | (go_at_call 15; (with_reducible refine (Names_same _ _ _ _ (by with_reducible first | exact HS1.out | exact Kd.S.mono (vw_below (drew_below _)) HS1.out) (by with_reducible first | exact HS2.out | exact Kd.S.mono (vw_below (drew_below _)) HS2.out)).mono ?_); rintro e vd ⟨rfl, hb⟩; clear HS1 HS2; have hA1 : AnyAt w s p w.heap.size (w.heap.size + 1) b9 b10 #[.slice A1 s.nodes.length c1, .slice A2 s.pods.length c2, .slice A3 s.budgets.length c3] #[.string p.name, .string p.owner, .int .i64 p.prio, .slice B1 p.need.length d1, .slice B2 p.labels.length d2, .slice B3 p.sel.length d3, .slice B4 p.tols.length d4, .string p.key, .int .i64 p.most, .string p.node, .bool p.hold] #[.slice E1 s.nodes.length x1, .slice E2 s.pods.length x2, .slice E3 s.budgets.length x3] #[.string p.name, .string p.owner, .int .i64 p.prio, .slice F1 p.need.length y1, .slice F2 p.labels.length y2, .slice F3 p.sel.length y3, .slice F4 p.tols.length y4, .string p.key, .int .i64 p.most, .string p.node, .bool p.hold] vd := (by with_reducible first | exact AnyAt.below HA.out hb | exact AnyAt.below HA.out (Below.then (drew_below _) hb)); replace HA := Lib.hid hA1; clear hA1 hb; clear z1 f1 z2 f2 z3 f3 z4 f4; obtain ⟨z1, f1⟩ := blk_all HA.out.q1; obtain ⟨z2, f2⟩ := blk_all HA.out.q2; obtain ⟨z3, f3⟩ := blk_all HA.out.q9; obtain ⟨z4, f4⟩ := blk_all HA.out.q10)
      | (go_at_call 22; (with_reducible refine (Of4_calls _ p.labels _ (by with_reducible exact Kd.S.mono (vw_below HA.out.bel) HSL.out) hll).mono ?_); rintro e ve ⟨G1, g1, rfl, -, hb⟩; have hA1 : AnyAt w s p w.heap.size (w.heap.size + 1) b9 b10 #[.slice A1 s.nodes.length c1, .slice A2 s.pods.length c2, .slice A3 s.budgets.length c3] #[.string p.name, .string p.owner, .int .i64 p.prio, .slice B1 p.need.length d1, .slice B2 p.labels.length d2, .slice B3 p.sel.length d3, .slice B4 p.tols.length d4, .string p.key, .int .i64 p.most, .string p.node, .bool p.hold] #[.slice E1 s.nodes.length x1, .slice E2 s.pods.length x2, .slice E3 s.budgets.length x3] #[.string p.name, .string p.owner, .int .i64 p.prio, .slice F1 p.need.length y1, .slice F2 p.labels.length y2, .slice F3 p.sel.length y3, .slice F4 p.tols.length y4, .string p.key, .int .i64 p.most, .string p.node, .bool p.hold] ve := (by with_reducible first | exact AnyAt.below HA.out hb | exact AnyAt.below HA.out (Below.then (drew_below _) hb)); replace HA := Lib.hid hA1; clear hA1 hb; clear z1 f1 z2 f2 z3 f3 z4 f4; obtain ⟨z1, f1⟩ := blk_all HA.out.q1; obtain ⟨z2, f2⟩ := blk_all HA.out.q2; obtain ⟨z3, f3⟩ := blk_all HA.out.q9; obtain ⟨z4, f4⟩ := blk_all HA.out.q10))
    all_goals
      go_wp2
      go_ret
      exact ⟨rfl, HA.out.bel⟩
end Go.Proofs.Ytfbmfjmnpfidoaa
namespace Go.Proofs.Ytfbmfjmnpfidoaa
open Go.RowKit

/-! The program's data, out of what an argument's cells read as. -/
theorem o_str : Kd.str.Opens Try.prog 9 := Kd.opens_str (by kernel_rfl) Try.underlying9
theorem o_bool : Kd.bool.Opens Try.prog 4 := Kd.opens_bool (by kernel_rfl) Try.underlying4
theorem o_int : (Kd.int .i64).Opens Try.prog 3 := Kd.opens_int (by kernel_rfl) Try.underlying3
theorem o_int64 : (Kd.int .i64).Opens Try.prog 2 := Kd.opens_int (by kernel_rfl) Try.underlying2
theorem opens_amt : Kd.amt.Opens Try.prog 114 :=
  (Kd.opens_struct (d := Kd.cons Kd.str (Kd.cons (Kd.int .i64) Kd.unit)) (by kernel_rfl) Try.underlying114 (Kd.opensFs_cons rfl o_str (Kd.opensFs_cons rfl o_int64 Kd.opensFs_nil))).conv rfl (by
    rintro k ⟨a, b, _⟩ cs ⟨c1, r1, rfl, ⟨rfl, h1⟩, c2, r2, rfl, ⟨rfl, h2⟩, rfl⟩
    exact ⟨⟨a, b⟩, rfl, h1, wf_i64 h2⟩)
theorem opens_pair : Kd.pair.Opens Try.prog 109 :=
  (Kd.opens_struct (d := Kd.cons Kd.str (Kd.cons Kd.str Kd.unit)) (by kernel_rfl) Try.underlying109 (Kd.opensFs_cons rfl o_str (Kd.opensFs_cons rfl o_str Kd.opensFs_nil))).conv rfl (by
    rintro k ⟨a, b, _⟩ cs ⟨c1, r1, rfl, ⟨rfl, h1⟩, c2, r2, rfl, ⟨rfl, h2⟩, rfl⟩
    exact ⟨⟨a, b⟩, rfl, h1, h2⟩)
theorem opens_term : Kd.term.Opens Try.prog 125 :=
  (Kd.opens_struct (d := Kd.cons (Kd.int .i64) (Kd.cons Kd.str (Kd.cons Kd.str Kd.unit))) (by kernel_rfl) Try.underlying125 (Kd.opensFs_cons rfl o_int (Kd.opensFs_cons rfl o_str (Kd.opensFs_cons rfl o_str Kd.opensFs_nil)))).conv rfl (by
    rintro k ⟨a, b, c, _⟩ cs ⟨c1, r1, rfl, ⟨rfl, h1⟩, c2, r2, rfl, ⟨rfl, h2⟩, c3, r3, rfl, ⟨rfl, h3⟩, rfl⟩
    exact ⟨⟨a, b, c⟩, rfl, wf_i64 h1, h2, h3⟩)
theorem opens_taint : Kd.tnt.Opens Try.prog 164 :=
  (Kd.opens_struct (d := Kd.cons Kd.str (Kd.cons Kd.str (Kd.cons Kd.bool Kd.unit))) (by kernel_rfl) Try.underlying164 (Kd.opensFs_cons rfl o_str (Kd.opensFs_cons rfl o_str (Kd.opensFs_cons rfl o_bool Kd.opensFs_nil)))).conv rfl (by
    rintro k ⟨a, b, c, _⟩ cs ⟨c1, r1, rfl, ⟨rfl, h1⟩, c2, r2, rfl, ⟨rfl, h2⟩, c3, r3, rfl, ⟨rfl, h3⟩, rfl⟩
    exact ⟨⟨a, b, c⟩, rfl, h1, h2⟩)
theorem opens_tol : Kd.tnt.Opens Try.prog 127 :=
  (Kd.opens_struct (d := Kd.cons Kd.str (Kd.cons Kd.str (Kd.cons Kd.bool Kd.unit))) (by kernel_rfl) Try.underlying127 (Kd.opensFs_cons rfl o_str (Kd.opensFs_cons rfl o_str (Kd.opensFs_cons rfl o_bool Kd.opensFs_nil)))).conv rfl (by
    rintro k ⟨a, b, c, _⟩ cs ⟨c1, r1, rfl, ⟨rfl, h1⟩, c2, r2, rfl, ⟨rfl, h2⟩, c3, r3, rfl, ⟨rfl, h3⟩, rfl⟩
    exact ⟨⟨a, b, c⟩, rfl, h1, h2⟩)
theorem opens_vec : (Kd.slice Kd.amt).Opens Try.prog 28 := Kd.opens_slice (by kernel_rfl) Try.underlying28 (by decide) (of_decide_eq_true (by kernel_rfl)) opens_amt
theorem opens_set : (Kd.slice Kd.pair).Opens Try.prog 30 := Kd.opens_slice (by kernel_rfl) Try.underlying30 (by decide) (of_decide_eq_true (by kernel_rfl)) opens_pair
theorem opens_sel : (Kd.slice Kd.term).Opens Try.prog 32 := Kd.opens_slice (by kernel_rfl) Try.underlying32 (by decide) (of_decide_eq_true (by kernel_rfl)) opens_term
theorem opens_taints : (Kd.slice Kd.tnt).Opens Try.prog 66 := Kd.opens_slice (by kernel_rfl) Try.underlying66 (by decide) (of_decide_eq_true (by kernel_rfl)) opens_taint
theorem opens_tols : (Kd.slice Kd.tnt).Opens Try.prog 33 := Kd.opens_slice (by kernel_rfl) Try.underlying33 (by decide) (of_decide_eq_true (by kernel_rfl)) opens_tol
theorem opens_node : Kd.node.Opens Try.prog 68 :=
  (Kd.opens_struct (d := Kd.cons Kd.str (Kd.cons (Kd.slice Kd.amt) (Kd.cons (Kd.slice Kd.pair) (Kd.cons (Kd.slice Kd.tnt) (Kd.cons Kd.bool Kd.unit))))) (by kernel_rfl) Try.underlying68
    (Kd.opensFs_cons rfl o_str (Kd.opensFs_cons rfl opens_vec (Kd.opensFs_cons rfl opens_set (Kd.opensFs_cons rfl opens_taints (Kd.opensFs_cons rfl o_bool Kd.opensFs_nil)))))).conv rfl (by
    rintro k ⟨a, b, c, d, e, _⟩ cs ⟨c1, r1, rfl, ⟨rfl, h1⟩, c2, r2, rfl, ⟨v2, rfl, h2⟩, c3, r3, rfl, ⟨v3, rfl, h3⟩, c4, r4, rfl, ⟨v4, rfl, h4⟩, c5, r5, rfl, ⟨rfl, -⟩, rfl⟩
    obtain ⟨A2, d2, rfl, h2⟩ := h2.val
    obtain ⟨A3, d3, rfl, h3⟩ := h3.val
    obtain ⟨A4, d4, rfl, h4⟩ := h4.val
    exact ⟨⟨a, b, c, d, e⟩, A2, d2, A3, d3, A4, d4, rfl, h1, h2, h3, h4⟩)
theorem opens_pod : Kd.pod.Opens Try.prog 35 :=
  (Kd.opens_struct (d := Kd.cons Kd.str (Kd.cons Kd.str (Kd.cons (Kd.int .i64) (Kd.cons (Kd.slice Kd.amt) (Kd.cons (Kd.slice Kd.pair) (Kd.cons (Kd.slice Kd.term) (Kd.cons (Kd.slice Kd.tnt) (Kd.cons Kd.str (Kd.cons (Kd.int .i64) (Kd.cons Kd.str (Kd.cons Kd.bool Kd.unit))))))))))) (by kernel_rfl) Try.underlying35
    (Kd.opensFs_cons rfl o_str (Kd.opensFs_cons rfl o_str (Kd.opensFs_cons rfl o_int (Kd.opensFs_cons rfl opens_vec (Kd.opensFs_cons rfl opens_set (Kd.opensFs_cons rfl opens_sel (Kd.opensFs_cons rfl opens_tols (Kd.opensFs_cons rfl o_str (Kd.opensFs_cons rfl o_int (Kd.opensFs_cons rfl o_str (Kd.opensFs_cons rfl o_bool Kd.opensFs_nil)))))))))))).conv rfl (by
    rintro k ⟨a1, a2, a3, a4, a5, a6, a7, a8, a9, a10, a11, _⟩ cs ⟨c1, r1, rfl, ⟨rfl, h1⟩, c2, r2, rfl, ⟨rfl, h2⟩, c3, r3, rfl, ⟨rfl, h3⟩, c4, r4, rfl, ⟨v4, rfl, h4⟩, c5, r5, rfl, ⟨v5, rfl, h5⟩, c6, r6, rfl, ⟨v6, rfl, h6⟩, c7, r7, rfl, ⟨v7, rfl, h7⟩, c8, r8, rfl, ⟨rfl, h8⟩, c9, r9, rfl, ⟨rfl, h9⟩, c10, r10, rfl, ⟨rfl, h10⟩, c11, r11, rfl, ⟨rfl, -⟩, rfl⟩
    obtain ⟨A4, d4, rfl, h4⟩ := h4.val
    obtain ⟨A5, d5, rfl, h5⟩ := h5.val
    obtain ⟨A6, d6, rfl, h6⟩ := h6.val
    obtain ⟨A7, d7, rfl, h7⟩ := h7.val
    exact ⟨⟨a1, a2, a3, a4, a5, a6, a7, a8, a9, a10, a11⟩, A4, d4, A5, d5, A6, d6, A7, d7, rfl, ⟨⟨h1, h2, wf_i64 h3⟩, h8, wf_i64 h9, h10⟩, h4, h5, h6, h7⟩)
theorem opens_budget : Kd.budget.Opens Try.prog 136 :=
  (Kd.opens_struct (d := Kd.cons Kd.str (Kd.cons (Kd.slice Kd.term) (Kd.cons (Kd.int .i64) Kd.unit))) (by kernel_rfl) Try.underlying136
    (Kd.opensFs_cons rfl o_str (Kd.opensFs_cons rfl opens_sel (Kd.opensFs_cons rfl o_int Kd.opensFs_nil)))).conv rfl (by
    rintro k ⟨a, b, c, _⟩ cs ⟨c1, r1, rfl, ⟨rfl, h1⟩, c2, r2, rfl, ⟨v2, rfl, h2⟩, c3, r3, rfl, ⟨rfl, h3⟩, rfl⟩
    obtain ⟨A2, d2, rfl, h2⟩ := h2.val
    exact ⟨⟨a, b, c⟩, A2, d2, rfl, ⟨h1, wf_i64 h3⟩, h2⟩)
theorem opens_nodes : (Kd.slice Kd.node).Opens Try.prog 22 := Kd.opens_slice (by kernel_rfl) Try.underlying22 (by decide) (of_decide_eq_true (by kernel_rfl)) opens_node
theorem opens_pods : (Kd.slice Kd.pod).Opens Try.prog 23 := Kd.opens_slice (by kernel_rfl) Try.underlying23 (by decide) (of_decide_eq_true (by kernel_rfl)) opens_pod
theorem opens_budgets : (Kd.slice Kd.budget).Opens Try.prog 24 := Kd.opens_slice (by kernel_rfl) Try.underlying24 (by decide) (of_decide_eq_true (by kernel_rfl)) opens_budget
theorem opens_state : Kd.state.Opens Try.prog 26 :=
  (Kd.opens_struct (d := Kd.cons (Kd.slice Kd.node) (Kd.cons (Kd.slice Kd.pod) (Kd.cons (Kd.slice Kd.budget) Kd.unit))) (by kernel_rfl) Try.underlying26
    (Kd.opensFs_cons rfl opens_nodes (Kd.opensFs_cons rfl opens_pods (Kd.opensFs_cons rfl opens_budgets Kd.opensFs_nil)))).conv rfl (by
    rintro k ⟨a, b, c, _⟩ cs ⟨c1, r1, rfl, ⟨v1, rfl, h1⟩, c2, r2, rfl, ⟨v2, rfl, h2⟩, c3, r3, rfl, ⟨v3, rfl, h3⟩, rfl⟩
    obtain ⟨A1, d1, rfl, h1⟩ := h1.val
    obtain ⟨A2, d2, rfl, h2⟩ := h2.val
    obtain ⟨A3, d3, rfl, h3⟩ := h3.val
    exact ⟨⟨a, b, c⟩, A1, d1, A2, d2, A3, d3, rfl, h1, h2, h3⟩)
theorem Kd.open_agg_arg {α : Type} {P : Program} {d : Kd α} {t : TypeId} (ho : d.Opens P t) {cs : Array Value} {H : Type} {enc : TypeId × Value → H} {w : World} {base : Nat} {sp : Nat → Bool} {held : Bool} {fuel : Nat} {x : DataW H × List MemPlace}
    (h : DataW.trod enc P w base sp held fuel t (Value.agg cs).cells.toList = some x) (hw : ∀ n ∈ x.1.weights P t, n ≤ reachBytes) : ∃ a, d.V (vw w []) (.agg cs) a := by
  obtain ⟨a, ha⟩ := ho.2 h hw
  exact ⟨a, cs.toList, by simp, ha⟩
end Go.Proofs.Ytfbmfjmnpfidoaa
