import Derived.Test.YtfbmfjmnpfidoaaLawB
namespace Go.Proofs.Ytfbmfjmnpfidoaa
open Go.RowKit Go.Sort

/-- Elements side by side in a block. -/
theorem Kd.S.cells {α : Type} {d : Kd α} {h : View} {b : Nat} {T : TypeId} {css : List (List Value)} {xs : List α} (hb : h b = some (.cells css.flatten.toArray T (0, 0))) (hl : css.length = xs.length)
    (hk : ∀ (j : Nat) (x : α), xs[j]? = some x → ∃ cs, css[j]? = some cs ∧ d.K h x cs) (hx : xs.length ≤ 140737488351232) : d.S h (.slice (some ⟨b, 0, none⟩) xs.length xs.length) xs := by
  have hlen : ∀ c ∈ css, c.length = d.sz := fun c hc => by
    obtain ⟨j, hj, rfl⟩ := List.getElem_of_mem hc
    obtain ⟨cs, a, b⟩ := hk j xs[j] (List.getElem?_eq_getElem (by omega))
    rw [List.getElem?_eq_getElem hj] at a
    injection a with a
    rw [a]; exact d.len b
  refine ⟨_, _, rfl, Nat.le_refl _, hx, fun e => (by cases e), fun _ => ⟨b, 0, rfl, fun j x hj => ?_⟩⟩
  obtain ⟨cs, a, k⟩ := hk j x hj
  refine ⟨cs, k, fun i u hu => ?_⟩
  have hi : i < d.sz := by have := (List.getElem?_eq_some_iff.1 hu).1; rw [d.len k] at this; exact this
  have h4 := flatten_get css hlen j i cs a hi
  rw [hu] at h4
  simp [View.cell?, hb]
  simpa using h4
def k0 : St := ⟨[ndZ (tx [97]) (tx [120]), ndZ (tx [98]) (tx [121]), ndZ (tx [99]) (tx [120]), ndN (tx [100]) 9], [pdO (tx [112]) (tx [97]) 1, pdO (tx [113]) (tx [99]) 1, pdO (tx [114]) ⟨#[]⟩ 1], []⟩
theorem k0_b : skewV k0 (pdO (tx [114]) ⟨#[]⟩ 1) (tx [98]) = (0, true) := by decide +kernel
theorem k0_a : skewV k0 (pdO (tx [114]) ⟨#[]⟩ 1) (tx [97]) = (3, true) := by decide +kernel
theorem k0_d : skewV k0 (pdO (tx [114]) ⟨#[]⟩ 1) (tx [100]) = (0, false) := by decide +kernel
theorem k0_k : skewV k0 (pdP (tx [107]) 1 ⟨#[]⟩) (tx [100]) = (0, true) := by decide +kernel
theorem k0_doms : domsV k0.nodes (tx [122, 111, 110, 101]) = [[120], [121]] := by decide +kernel
theorem k0_c2 : countV k0 (pdO (tx [114]) ⟨#[]⟩ 1) (tx [120]) k0.pods = 2 := by decide +kernel
theorem k0_c1 : countV k0 (pdO (tx [112]) (tx [97]) 1) (tx [120]) k0.pods = 1 := by decide +kernel
theorem k0_bad : badL k0 k0.pods = [tx [112], tx [113]] := by decide +kernel
theorem sok_small {l : List UInt8} (h : l.length ≤ 50) : sok (tx l) := by
  show (tx l).size ≤ _
  have : (tx l).size = l.length := rfl
  omega
theorem doms_S {w : World} {base : Nat} {e : TypeId} {v : Value} {l : List (List UInt8)} (h : w.ownsRow base e 1 v l.length (l.map encStr)) (hl : l.length ≤ 140737488351232) (hp : ∀ x ∈ l, x.length ≤ 140737488351232) : Kd.str.S (vw w []) v (l.map ba) := by
  refine Kd.S.of_own (f := Value.string) (base := base) (e := e) (n := l.length) ?_ (by simpa using hl) (fun x hx => ?_) (by simp)
  · rw [List.map_map]; exact h
  · obtain ⟨y, hy, rfl⟩ := List.mem_map.1 hx
    exact hp y hy
theorem bad_S {w : World} {base : Nat} {e : TypeId} {v : Value} {l : List ByteArray} (h : w.ownsRow base e 1 v l.length (l.map Value.string)) (hl : l.length ≤ 140737488351232) (hp : ∀ x ∈ l, sok x) : Kd.str.S (vw w []) v l :=
  Kd.S.of_own (f := Value.string) h hl hp (by simp)
theorem strs_two {w : World} {b : Nat} {a c : ByteArray} {T : TypeId} (h : w.heap[b]? = some (.cells #[.string a, .string c] T (0, 0))) (ha : sok a := by (unfold sok; decide)) (hc : sok c := by (unfold sok; decide)) : Kd.str.S (vw w []) (.slice (some ⟨b, 0, none⟩) 2 2) [a, c] :=
  Kd.S.of_block (f := Value.string) (xs := [a, c]) h (by simp) (by simp) (fun x hx => by
    rcases List.mem_cons.1 hx with rfl | hx
    · exact ha
    · obtain rfl : x = c := by simpa using hx
      exact hc)
theorem two_ok : ∀ x ∈ [tx [112], tx [113]], sok x := fun x hx => by
  rcases List.mem_cons.1 hx with rfl | hx
  · exact sok_small (by decide)
  · obtain rfl : x = tx [113] := by simpa using hx
    exact sok_small (by decide)
theorem Names_same (va vb : Value) (a : List ByteArray) (w : World) (ha : Kd.str.S (vw w []) va a) (hb : Kd.str.S (vw w []) vb a) : Calls Try.prog 15 #[va, vb] w (BoolDone true w) :=
  (Names_calls va vb a a w ha hb).mono fun _ _ h => ⟨h.1.trans (by simp), h.2⟩
structure KAt (ss ps : Nat) (sc pc c1 c3 : Array Value) (W : World) : Prop where
  qs : W.heap[ss]? = some (.cells sc 26 (0, 0))
  qp : W.heap[ps]? = some (.cells pc 35 (0, 0))
  hv : Kd.state.V (vw W []) (.agg sc) k0
  h1 : Kd.pod.V (vw W []) (.agg c1) (pdO (tx [112]) (tx [97]) 1)
  h3 : Kd.pod.V (vw W []) (.agg c3) (pdO (tx [114]) ⟨#[]⟩ 1)
theorem KAt.below {ss ps : Nat} {sc pc c1 c3 : Array Value} {W W' : World} (h : KAt ss ps sc pc c1 c3 W) (hb : Below W.heap.size W W') : KAt ss ps sc pc c1 c3 W' :=
  ⟨(hb.block _ (blk_lt h.qs)).trans h.qs, (hb.block _ (blk_lt h.qp)).trans h.qp, h.hv.mono (vw_below hb), h.h1.mono (vw_below hb), h.h3.mono (vw_below hb)⟩
theorem kat_alloc {ss ps : Nat} {sc pc c1 c3 : Array Value} {W : World} (h : KAt ss ps sc pc c1 c3 W) (o : Obj) : (∀ j, (W.alloc o).cell? ⟨ss, j, none⟩ = sc[j]?) ∧ ∀ j, (W.alloc o).cell? ⟨ps, j, none⟩ = pc[j]? :=
  ⟨(blk_all ((blk_old _ _ (blk_lt h.qs)).trans h.qs)).1, (blk_all ((blk_old _ _ (blk_lt h.qp)).trans h.qp)).1⟩
theorem kat_alloc_drew {ss ps : Nat} {sc pc c1 c3 : Array Value} {W : World} (h : KAt ss ps sc pc c1 c3 W) (o : Obj) : (∀ j, (W.alloc o).drew.cell? ⟨ss, j, none⟩ = sc[j]?) ∧ ∀ j, (W.alloc o).drew.cell? ⟨ps, j, none⟩ = pc[j]? := kat_alloc h o
set_option maxHeartbeats 8000000 in
set_option maxRecDepth 100000 in
theorem known_calls (w : World) : Calls Try.prog 7 #[] w (BoolDone true w) := by
  go_enter Try.func7, Try.ntmps7
  go_wp2_with fail
  refine (Zoned_calls (tx [97]) (tx [120]) _ (sok_small (by decide)) (sok_small (by decide))).mono ?_
  rintro e w1 ⟨cs, rfl, hk, hb⟩
  have HB1 := Lib.hid (hb)
  have HK1 := Lib.hid (Kd.node.mono (nx_vw (M := []) (by simp)) hk)
  obtain ⟨A1, a1, A2, a2, A3, a3, rfl, -⟩ := hk
  change Hid (Kd.node.K _ _ [.string (tx [97]), .slice A1 1 a1, .slice A2 1 a2, .slice A3 0 a3, .bool false]) at HK1
  clear hb
  go_wp2_with fail
  refine (Zoned_calls (tx [98]) (tx [121]) _ (sok_small (by decide)) (sok_small (by decide))).mono ?_
  rintro e w2 ⟨cs, rfl, hk, hb⟩
  have HB2 := Lib.hid (Below.then HB1.out hb)
  have HK2 := Lib.hid (Kd.node.mono (nx_vw (M := []) (by simp)) hk)
  replace HK1 := Lib.hid (Kd.node.mono (vw_below hb) HK1.out)
  obtain ⟨B1, b1, B2, b2, B3, b3, rfl, -⟩ := hk
  change Hid (Kd.node.K _ _ [.string (tx [98]), .slice B1 1 b1, .slice B2 1 b2, .slice B3 0 b3, .bool false]) at HK2
  clear hb HB1
  go_wp2_with fail
  refine (Zoned_calls (tx [99]) (tx [120]) _ (sok_small (by decide)) (sok_small (by decide))).mono ?_
  rintro e w3 ⟨cs, rfl, hk, hb⟩
  have HB3 := Lib.hid (Below.then HB2.out hb)
  have HK3 := Lib.hid (Kd.node.mono (nx_vw (M := []) (by simp)) hk)
  replace HK1 := Lib.hid (Kd.node.mono (vw_below hb) HK1.out)
  replace HK2 := Lib.hid (Kd.node.mono (vw_below hb) HK2.out)
  obtain ⟨C1, c1, C2, c2, C3, c3, rfl, -⟩ := hk
  change Hid (Kd.node.K _ _ [.string (tx [99]), .slice C1 1 c1, .slice C2 1 c2, .slice C3 0 c3, .bool false]) at HK3
  clear hb HB2
  go_wp2_with fail
  refine (N_calls (tx [100]) 9 _ (sok_small (by decide)) ⟨by decide, by decide⟩).mono ?_
  rintro e w4 ⟨cs, rfl, hk, hb⟩
  have HB4 := Lib.hid (Below.then HB3.out hb)
  have HK4 := Lib.hid (Kd.node.mono (nx_vw (M := []) (by simp)) hk)
  replace HK1 := Lib.hid (Kd.node.mono (vw_below hb) HK1.out)
  replace HK2 := Lib.hid (Kd.node.mono (vw_below hb) HK2.out)
  replace HK3 := Lib.hid (Kd.node.mono (vw_below hb) HK3.out)
  obtain ⟨D1, d1, D2, d2, D3, d3, rfl, -⟩ := hk
  change Hid (Kd.node.K _ _ [.string (tx [100]), .slice D1 1 d1, .slice D2 0 d2, .slice D3 0 d3, .bool false]) at HK4
  clear hb HB3
  go_wp2_with fail
  refine (Owned_calls (tx [112]) (tx [97]) 1 _ (sok_small (by decide)) (sok_small (by decide)) ⟨by decide, by decide⟩).mono ?_
  rintro e w5 ⟨cs, rfl, hk, hb⟩
  have HB5 := Lib.hid (Below.then (alloc_then HB4.out _) hb)
  have hq := (hb.block w4.heap.size (by simp)).trans (blk_last w4 _)
  have HN := Lib.hid hq
  clear hq
  have HK5 := Lib.hid (Kd.pod.mono (nx_vw (M := []) (by simp)) hk)
  replace HK1 := Lib.hid (Kd.node.mono (vw_below (Below.then (alloc_below _ _) hb)) HK1.out)
  replace HK2 := Lib.hid (Kd.node.mono (vw_below (Below.then (alloc_below _ _) hb)) HK2.out)
  replace HK3 := Lib.hid (Kd.node.mono (vw_below (Below.then (alloc_below _ _) hb)) HK3.out)
  replace HK4 := Lib.hid (Kd.node.mono (vw_below (Below.then (alloc_below _ _) hb)) HK4.out)
  obtain ⟨E1, e1, E2, e2, E3, e3, E4, e4, rfl, -⟩ := hk
  change Hid (Kd.pod.K _ _ [.string (tx [112]), .string (tx [119, 101, 98]), .int .i64 0, .slice E1 1 e1, .slice E2 0 e2, .slice E3 0 e3, .slice E4 0 e4, .string (tx [122, 111, 110, 101]), .int .i64 1, .string (tx [97]), .bool false]) at HK5
  clear hb HB4
  go_wp2_with fail
  refine (Owned_calls (tx [113]) (tx [99]) 1 _ (sok_small (by decide)) (sok_small (by decide)) ⟨by decide, by decide⟩).mono ?_
  rintro e w6 ⟨cs, rfl, hk, hb⟩
  have HB6 := Lib.hid (Below.then HB5.out hb)
  replace HN := Lib.hid ((hb.block _ (blk_lt HN.out)).trans HN.out)
  have HK6 := Lib.hid (Kd.pod.mono (nx_vw (M := []) (by simp)) hk)
  replace HK1 := Lib.hid (Kd.node.mono (vw_below hb) HK1.out)
  replace HK2 := Lib.hid (Kd.node.mono (vw_below hb) HK2.out)
  replace HK3 := Lib.hid (Kd.node.mono (vw_below hb) HK3.out)
  replace HK4 := Lib.hid (Kd.node.mono (vw_below hb) HK4.out)
  replace HK5 := Lib.hid (Kd.pod.mono (vw_below hb) HK5.out)
  obtain ⟨F1, f1, F2, f2, F3, f3, F4, f4, rfl, -⟩ := hk
  change Hid (Kd.pod.K _ _ [.string (tx [113]), .string (tx [119, 101, 98]), .int .i64 0, .slice F1 1 f1, .slice F2 0 f2, .slice F3 0 f3, .slice F4 0 f4, .string (tx [122, 111, 110, 101]), .int .i64 1, .string (tx [99]), .bool false]) at HK6
  clear hb HB5
  go_wp2_with fail
  refine (Owned_calls (tx [114]) ⟨#[]⟩ 1 _ (sok_small (by decide)) sok_none ⟨by decide, by decide⟩).mono ?_
  rintro e w7 ⟨cs, rfl, hk, hb⟩
  have HB7 := Lib.hid (Below.then HB6.out hb)
  replace HN := Lib.hid ((hb.block _ (blk_lt HN.out)).trans HN.out)
  have HK7 := Lib.hid (Kd.pod.mono (nx_vw (M := []) (by simp)) hk)
  replace HK1 := Lib.hid (Kd.node.mono (vw_below hb) HK1.out)
  replace HK2 := Lib.hid (Kd.node.mono (vw_below hb) HK2.out)
  replace HK3 := Lib.hid (Kd.node.mono (vw_below hb) HK3.out)
  replace HK4 := Lib.hid (Kd.node.mono (vw_below hb) HK4.out)
  replace HK5 := Lib.hid (Kd.pod.mono (vw_below hb) HK5.out)
  replace HK6 := Lib.hid (Kd.pod.mono (vw_below hb) HK6.out)
  obtain ⟨G1, g1, G2, g2, G3, g3, G4, g4, rfl, -⟩ := hk
  change Hid (Kd.pod.K _ _ [.string (tx [114]), .string (tx [119, 101, 98]), .int .i64 0, .slice G1 1 g1, .slice G2 0 g2, .slice G3 0 g3, .slice G4 0 g4, .string (tx [122, 111, 110, 101]), .int .i64 1, .string ⟨#[]⟩, .bool false]) at HK7
  clear hb HB6
  go_upto_region 2 with fail
  obtain ⟨U, hU⟩ : ∃ U : World, U = ((w7.alloc (.cells #[.string (tx [112]), .string (tx [119, 101, 98]), .int .i64 0, .slice E1 1 e1, .slice E2 0 e2, .slice E3 0 e3, .slice E4 0 e4, .string (tx [122, 111, 110, 101]), .int .i64 1, .string (tx [97]), .bool false, .string (tx [113]), .string (tx [119, 101, 98]), .int .i64 0, .slice F1 1 f1, .slice F2 0 f2, .slice F3 0 f3, .slice F4 0 f4, .string (tx [122, 111, 110, 101]), .int .i64 1, .string (tx [99]), .bool false, .string (tx [114]), .string (tx [119, 101, 98]), .int .i64 0, .slice G1 1 g1, .slice G2 0 g2, .slice G3 0 g3, .slice G4 0 g4, .string (tx [122, 111, 110, 101]), .int .i64 1, .string ⟨#[]⟩, .bool false] 35)).alloc (.cells #[.slice (some ⟨w4.heap.size, 0, none⟩) 4 4, .slice (some ⟨w7.heap.size, 0, none⟩) 3 3, .slice none 0 0] 26)) := ⟨_, rfl⟩
  change Code.wp _ _ _ _ ((w7.alloc (.cells #[.string (tx [112]), .string (tx [119, 101, 98]), .int .i64 0, .slice E1 1 e1, .slice E2 0 e2, .slice E3 0 e3, .slice E4 0 e4, .string (tx [122, 111, 110, 101]), .int .i64 1, .string (tx [97]), .bool false, .string (tx [113]), .string (tx [119, 101, 98]), .int .i64 0, .slice F1 1 f1, .slice F2 0 f2, .slice F3 0 f3, .slice F4 0 f4, .string (tx [122, 111, 110, 101]), .int .i64 1, .string (tx [99]), .bool false, .string (tx [114]), .string (tx [119, 101, 98]), .int .i64 0, .slice G1 1 g1, .slice G2 0 g2, .slice G3 0 g3, .slice G4 0 g4, .string (tx [122, 111, 110, 101]), .int .i64 1, .string ⟨#[]⟩, .bool false] 35)).alloc (.cells #[.slice (some ⟨w4.heap.size, 0, none⟩) 4 4, .slice (some ⟨w7.heap.size, 0, none⟩) 3 3, .slice none 0 0] 26))
  rw [← hU]
  have hbU : Below w7.heap.size w7 U := by rw [hU]; exact Below.then (alloc_below _ _) (alloc_below _ _)
  have qs : U.heap[w7.heap.size + 1]? = some (.cells #[.slice (some ⟨w4.heap.size, 0, none⟩) 4 4, .slice (some ⟨w7.heap.size, 0, none⟩) 3 3, .slice none 0 0] 26 (0, 0)) := by
    rw [hU]
    have := blk_last (w7.alloc (.cells #[.string (tx [112]), .string (tx [119, 101, 98]), .int .i64 0, .slice E1 1 e1, .slice E2 0 e2, .slice E3 0 e3, .slice E4 0 e4, .string (tx [122, 111, 110, 101]), .int .i64 1, .string (tx [97]), .bool false, .string (tx [113]), .string (tx [119, 101, 98]), .int .i64 0, .slice F1 1 f1, .slice F2 0 f2, .slice F3 0 f3, .slice F4 0 f4, .string (tx [122, 111, 110, 101]), .int .i64 1, .string (tx [99]), .bool false, .string (tx [114]), .string (tx [119, 101, 98]), .int .i64 0, .slice G1 1 g1, .slice G2 0 g2, .slice G3 0 g3, .slice G4 0 g4, .string (tx [122, 111, 110, 101]), .int .i64 1, .string ⟨#[]⟩, .bool false] 35)) (.cells #[.slice (some ⟨w4.heap.size, 0, none⟩) 4 4, .slice (some ⟨w7.heap.size, 0, none⟩) 3 3, .slice none 0 0] 26)
    simpa using this
  have qp : U.heap[w7.heap.size]? = some (.cells #[.string (tx [112]), .string (tx [119, 101, 98]), .int .i64 0, .slice E1 1 e1, .slice E2 0 e2, .slice E3 0 e3, .slice E4 0 e4, .string (tx [122, 111, 110, 101]), .int .i64 1, .string (tx [97]), .bool false, .string (tx [113]), .string (tx [119, 101, 98]), .int .i64 0, .slice F1 1 f1, .slice F2 0 f2, .slice F3 0 f3, .slice F4 0 f4, .string (tx [122, 111, 110, 101]), .int .i64 1, .string (tx [99]), .bool false, .string (tx [114]), .string (tx [119, 101, 98]), .int .i64 0, .slice G1 1 g1, .slice G2 0 g2, .slice G3 0 g3, .slice G4 0 g4, .string (tx [122, 111, 110, 101]), .int .i64 1, .string ⟨#[]⟩, .bool false] 35 (0, 0)) := by
    rw [hU]; exact (blk_old _ _ (by simp)).trans (blk_last _ _)
  have qn := (hbU.block _ (blk_lt HN.out)).trans HN.out
  have hv : Kd.state.V (vw U []) (.agg #[.slice (some ⟨w4.heap.size, 0, none⟩) 4 4, .slice (some ⟨w7.heap.size, 0, none⟩) 3 3, .slice none 0 0]) k0 := by
    refine ⟨_, rfl, _, _, _, _, _, _, rfl, ?_, ?_, Kd.S.nil _ _⟩
    · refine Kd.S.cells (d := Kd.node) (css := [[.string (tx [97]), .slice A1 1 a1, .slice A2 1 a2, .slice A3 0 a3, .bool false], [.string (tx [98]), .slice B1 1 b1, .slice B2 1 b2, .slice B3 0 b3, .bool false], [.string (tx [99]), .slice C1 1 c1, .slice C2 1 c2, .slice C3 0 c3, .bool false], [.string (tx [100]), .slice D1 1 d1, .slice D2 0 d2, .slice D3 0 d3, .bool false]]) (vw_mk (by simp) qn) rfl (fun j x hj => ?_) (by decide)
      rcases j with _ | _ | _ | _ | j
      · cases hj; exact ⟨_, rfl, Kd.node.mono (vw_below hbU) HK1.out⟩
      · cases hj; exact ⟨_, rfl, Kd.node.mono (vw_below hbU) HK2.out⟩
      · cases hj; exact ⟨_, rfl, Kd.node.mono (vw_below hbU) HK3.out⟩
      · cases hj; exact ⟨_, rfl, Kd.node.mono (vw_below hbU) HK4.out⟩
      · simp [k0] at hj
    · refine Kd.S.cells (d := Kd.pod) (css := [[.string (tx [112]), .string (tx [119, 101, 98]), .int .i64 0, .slice E1 1 e1, .slice E2 0 e2, .slice E3 0 e3, .slice E4 0 e4, .string (tx [122, 111, 110, 101]), .int .i64 1, .string (tx [97]), .bool false], [.string (tx [113]), .string (tx [119, 101, 98]), .int .i64 0, .slice F1 1 f1, .slice F2 0 f2, .slice F3 0 f3, .slice F4 0 f4, .string (tx [122, 111, 110, 101]), .int .i64 1, .string (tx [99]), .bool false], [.string (tx [114]), .string (tx [119, 101, 98]), .int .i64 0, .slice G1 1 g1, .slice G2 0 g2, .slice G3 0 g3, .slice G4 0 g4, .string (tx [122, 111, 110, 101]), .int .i64 1, .string ⟨#[]⟩, .bool false]]) (vw_mk (by simp) qp) rfl (fun j x hj => ?_) (by decide)
      rcases j with _ | _ | _ | j
      · cases hj; exact ⟨_, rfl, Kd.pod.mono (vw_below hbU) HK5.out⟩
      · cases hj; exact ⟨_, rfl, Kd.pod.mono (vw_below hbU) HK6.out⟩
      · cases hj; exact ⟨_, rfl, Kd.pod.mono (vw_below hbU) HK7.out⟩
      · simp [k0] at hj
  have HK : Hid (KAt (w7.heap.size + 1) w7.heap.size #[.slice (some ⟨w4.heap.size, 0, none⟩) 4 4, .slice (some ⟨w7.heap.size, 0, none⟩) 3 3, .slice none 0 0] #[.string (tx [112]), .string (tx [119, 101, 98]), .int .i64 0, .slice E1 1 e1, .slice E2 0 e2, .slice E3 0 e3, .slice E4 0 e4, .string (tx [122, 111, 110, 101]), .int .i64 1, .string (tx [97]), .bool false, .string (tx [113]), .string (tx [119, 101, 98]), .int .i64 0, .slice F1 1 f1, .slice F2 0 f2, .slice F3 0 f3, .slice F4 0 f4, .string (tx [122, 111, 110, 101]), .int .i64 1, .string (tx [99]), .bool false, .string (tx [114]), .string (tx [119, 101, 98]), .int .i64 0, .slice G1 1 g1, .slice G2 0 g2, .slice G3 0 g3, .slice G4 0 g4, .string (tx [122, 111, 110, 101]), .int .i64 1, .string ⟨#[]⟩, .bool false] #[.string (tx [112]), .string (tx [119, 101, 98]), .int .i64 0, .slice E1 1 e1, .slice E2 0 e2, .slice E3 0 e3, .slice E4 0 e4, .string (tx [122, 111, 110, 101]), .int .i64 1, .string (tx [97]), .bool false] #[.string (tx [114]), .string (tx [119, 101, 98]), .int .i64 0, .slice G1 1 g1, .slice G2 0 g2, .slice G3 0 g3, .slice G4 0 g4, .string (tx [122, 111, 110, 101]), .int .i64 1, .string ⟨#[]⟩, .bool false] U) := ⟨qs, qp, hv, ⟨_, rfl, Kd.pod.mono (vw_below hbU) HK5.out⟩, ⟨_, rfl, Kd.pod.mono (vw_below hbU) HK7.out⟩⟩
  have HB := Lib.hid (Below.then HB7.out hbU)
  clear hU hbU qs qp qn hv HB7 HN HK1 HK2 HK3 HK4 HK5 HK6 HK7
  obtain ⟨z, zf⟩ := blk_all HK.out.qs
  obtain ⟨y, yf⟩ := blk_all HK.out.qp
  go_region_held3 (fun w' => (∀ j, w'.cell? ⟨w7.heap.size + 1, j, none⟩ = #[.slice (some ⟨w4.heap.size, 0, none⟩) 4 4, .slice (some ⟨w7.heap.size, 0, none⟩) 3 3, .slice none 0 0][j]?) ∧ ∀ j, w'.cell? ⟨w7.heap.size, j, none⟩ = #[.string (tx [112]), .string (tx [119, 101, 98]), .int .i64 0, .slice E1 1 e1, .slice E2 0 e2, .slice E3 0 e3, .slice E4 0 e4, .string (tx [122, 111, 110, 101]), .int .i64 1, .string (tx [97]), .bool false, .string (tx [113]), .string (tx [119, 101, 98]), .int .i64 0, .slice F1 1 f1, .slice F2 0 f2, .slice F3 0 f3, .slice F4 0 f4, .string (tx [122, 111, 110, 101]), .int .i64 1, .string (tx [99]), .bool false, .string (tx [114]), .string (tx [119, 101, 98]), .int .i64 0, .slice G1 1 g1, .slice G2 0 g2, .slice G3 0 g3, .slice G4 0 g4, .string (tx [122, 111, 110, 101]), .int .i64 1, .string ⟨#[]⟩, .bool false][j]?) (first | with_reducible exact ⟨z, y⟩ | with_reducible exact kat_alloc HK.out _ | with_reducible exact kat_alloc_drew HK.out _ | go_keep) (first
    | (go_at_call 13; (with_reducible refine (Skew_calls _ _ k0 (pdO (tx [114]) ⟨#[]⟩ 1) ⟨#[98]⟩ _ (by with_reducible exact Kd.V.mono (vw_below (drew_below _)) HK.out.hv) (by with_reducible exact Kd.V.mono (vw_below (drew_below _)) HK.out.h3) (by decide) (by decide)).mono ?_); rintro e v1 ⟨rfl, hb⟩; replace HB := Lib.hid (Below.then HB.out (Below.then (drew_below _) hb)); replace HK := Lib.hid (KAt.below HK.out (Below.then (drew_below _) hb)); clear z zf y yf; obtain ⟨z, zf⟩ := blk_all HK.out.qs; obtain ⟨y, yf⟩ := blk_all HK.out.qp; clear hb))
  simp only [show skewV k0 (pdO (tx [114]) ⟨#[]⟩ 1) ⟨#[98]⟩ = (0, true) from k0_b]
  go_upto_region 3 with fail
  go_region_held3 (fun w' => (∀ j, w'.cell? ⟨w7.heap.size + 1, j, none⟩ = #[.slice (some ⟨w4.heap.size, 0, none⟩) 4 4, .slice (some ⟨w7.heap.size, 0, none⟩) 3 3, .slice none 0 0][j]?) ∧ ∀ j, w'.cell? ⟨w7.heap.size, j, none⟩ = #[.string (tx [112]), .string (tx [119, 101, 98]), .int .i64 0, .slice E1 1 e1, .slice E2 0 e2, .slice E3 0 e3, .slice E4 0 e4, .string (tx [122, 111, 110, 101]), .int .i64 1, .string (tx [97]), .bool false, .string (tx [113]), .string (tx [119, 101, 98]), .int .i64 0, .slice F1 1 f1, .slice F2 0 f2, .slice F3 0 f3, .slice F4 0 f4, .string (tx [122, 111, 110, 101]), .int .i64 1, .string (tx [99]), .bool false, .string (tx [114]), .string (tx [119, 101, 98]), .int .i64 0, .slice G1 1 g1, .slice G2 0 g2, .slice G3 0 g3, .slice G4 0 g4, .string (tx [122, 111, 110, 101]), .int .i64 1, .string ⟨#[]⟩, .bool false][j]?) (first | with_reducible exact ⟨z, y⟩ | with_reducible exact kat_alloc HK.out _ | with_reducible exact kat_alloc_drew HK.out _ | go_keep) (first
    | (go_at_call 13; (with_reducible refine (Skew_calls _ _ k0 (pdO (tx [114]) ⟨#[]⟩ 1) ⟨#[97]⟩ _ (by with_reducible exact Kd.V.mono (vw_below (drew_below _)) HK.out.hv) (by with_reducible exact Kd.V.mono (vw_below (drew_below _)) HK.out.h3) (by decide) (by decide)).mono ?_); rintro e v2 ⟨rfl, hb⟩; replace HB := Lib.hid (Below.then HB.out (Below.then (drew_below _) hb)); replace HK := Lib.hid (KAt.below HK.out (Below.then (drew_below _) hb)); clear z zf y yf; obtain ⟨z, zf⟩ := blk_all HK.out.qs; obtain ⟨y, yf⟩ := blk_all HK.out.qp; clear hb))
  simp only [show skewV k0 (pdO (tx [114]) ⟨#[]⟩ 1) ⟨#[97]⟩ = (3, true) from k0_a]
  go_upto_region 4 with fail
  go_region_held3 (fun w' => (∀ j, w'.cell? ⟨w7.heap.size + 1, j, none⟩ = #[.slice (some ⟨w4.heap.size, 0, none⟩) 4 4, .slice (some ⟨w7.heap.size, 0, none⟩) 3 3, .slice none 0 0][j]?) ∧ ∀ j, w'.cell? ⟨w7.heap.size, j, none⟩ = #[.string (tx [112]), .string (tx [119, 101, 98]), .int .i64 0, .slice E1 1 e1, .slice E2 0 e2, .slice E3 0 e3, .slice E4 0 e4, .string (tx [122, 111, 110, 101]), .int .i64 1, .string (tx [97]), .bool false, .string (tx [113]), .string (tx [119, 101, 98]), .int .i64 0, .slice F1 1 f1, .slice F2 0 f2, .slice F3 0 f3, .slice F4 0 f4, .string (tx [122, 111, 110, 101]), .int .i64 1, .string (tx [99]), .bool false, .string (tx [114]), .string (tx [119, 101, 98]), .int .i64 0, .slice G1 1 g1, .slice G2 0 g2, .slice G3 0 g3, .slice G4 0 g4, .string (tx [122, 111, 110, 101]), .int .i64 1, .string ⟨#[]⟩, .bool false][j]?) (first | with_reducible exact ⟨z, y⟩ | with_reducible exact kat_alloc HK.out _ | with_reducible exact kat_alloc_drew HK.out _ | go_keep) (first
    | (go_at_call 13; (with_reducible refine (Skew_calls _ _ k0 (pdO (tx [114]) ⟨#[]⟩ 1) ⟨#[100]⟩ _ (by with_reducible exact Kd.V.mono (vw_below (drew_below _)) HK.out.hv) (by with_reducible exact Kd.V.mono (vw_below (drew_below _)) HK.out.h3) (by decide) (by decide)).mono ?_); rintro e v3 ⟨rfl, hb⟩; replace HB := Lib.hid (Below.then HB.out (Below.then (drew_below _) hb)); replace HK := Lib.hid (KAt.below HK.out (Below.then (drew_below _) hb)); clear z zf y yf; obtain ⟨z, zf⟩ := blk_all HK.out.qs; obtain ⟨y, yf⟩ := blk_all HK.out.qp; clear hb))
  simp only [show skewV k0 (pdO (tx [114]) ⟨#[]⟩ 1) ⟨#[100]⟩ = (0, false) from k0_d]
  have hs107 : Hid (sok ⟨#[107]⟩) := sok_small (l := [107]) (by decide)
  have hi1 : Hid (i64 1) := ⟨by decide, by decide⟩
  go_upto_region 5 with fail
  go_region_held3 (fun w' => (∀ j, w'.cell? ⟨w7.heap.size + 1, j, none⟩ = #[.slice (some ⟨w4.heap.size, 0, none⟩) 4 4, .slice (some ⟨w7.heap.size, 0, none⟩) 3 3, .slice none 0 0][j]?) ∧ ∀ j, w'.cell? ⟨w7.heap.size, j, none⟩ = #[.string (tx [112]), .string (tx [119, 101, 98]), .int .i64 0, .slice E1 1 e1, .slice E2 0 e2, .slice E3 0 e3, .slice E4 0 e4, .string (tx [122, 111, 110, 101]), .int .i64 1, .string (tx [97]), .bool false, .string (tx [113]), .string (tx [119, 101, 98]), .int .i64 0, .slice F1 1 f1, .slice F2 0 f2, .slice F3 0 f3, .slice F4 0 f4, .string (tx [122, 111, 110, 101]), .int .i64 1, .string (tx [99]), .bool false, .string (tx [114]), .string (tx [119, 101, 98]), .int .i64 0, .slice G1 1 g1, .slice G2 0 g2, .slice G3 0 g3, .slice G4 0 g4, .string (tx [122, 111, 110, 101]), .int .i64 1, .string ⟨#[]⟩, .bool false][j]?) (first | with_reducible exact ⟨z, y⟩ | with_reducible exact kat_alloc HK.out _ | with_reducible exact kat_alloc_drew HK.out _ | go_keep) (first
    | (go_at_call 28; (with_reducible refine (P_calls ⟨#[107]⟩ 1 ⟨#[]⟩ _ hs107.out hi1.out sok_none).mono ?_); rintro e v4 ⟨cs, rfl, hk, hb⟩; have HPK : Hid (Kd.pod.V (vw v4 []) (.agg cs.toArray) (pdP ⟨#[107]⟩ 1 ⟨#[]⟩)) := ⟨cs, rfl, Kd.pod.mono (nx_vw (by simp)) hk⟩; clear hk; have hK1 : KAt (w7.heap.size + 1) w7.heap.size #[.slice (some ⟨w4.heap.size, 0, none⟩) 4 4, .slice (some ⟨w7.heap.size, 0, none⟩) 3 3, .slice none 0 0] #[.string (tx [112]), .string (tx [119, 101, 98]), .int .i64 0, .slice E1 1 e1, .slice E2 0 e2, .slice E3 0 e3, .slice E4 0 e4, .string (tx [122, 111, 110, 101]), .int .i64 1, .string (tx [97]), .bool false, .string (tx [113]), .string (tx [119, 101, 98]), .int .i64 0, .slice F1 1 f1, .slice F2 0 f2, .slice F3 0 f3, .slice F4 0 f4, .string (tx [122, 111, 110, 101]), .int .i64 1, .string (tx [99]), .bool false, .string (tx [114]), .string (tx [119, 101, 98]), .int .i64 0, .slice G1 1 g1, .slice G2 0 g2, .slice G3 0 g3, .slice G4 0 g4, .string (tx [122, 111, 110, 101]), .int .i64 1, .string ⟨#[]⟩, .bool false] #[.string (tx [112]), .string (tx [119, 101, 98]), .int .i64 0, .slice E1 1 e1, .slice E2 0 e2, .slice E3 0 e3, .slice E4 0 e4, .string (tx [122, 111, 110, 101]), .int .i64 1, .string (tx [97]), .bool false] #[.string (tx [114]), .string (tx [119, 101, 98]), .int .i64 0, .slice G1 1 g1, .slice G2 0 g2, .slice G3 0 g3, .slice G4 0 g4, .string (tx [122, 111, 110, 101]), .int .i64 1, .string ⟨#[]⟩, .bool false] v4 := (by with_reducible first | exact KAt.below HK.out hb | exact KAt.below HK.out (Below.then (drew_below _) hb) | exact KAt.below HK.out (Below.then (alloc_below _ _) hb) | exact KAt.below HK.out (Below.then (Below.then (alloc_below _ _) (drew_below _)) hb)); have hB1 : Below w.heap.size w v4 := (by with_reducible first | exact Below.then HB.out hb | exact Below.then HB.out (Below.then (drew_below _) hb) | exact Below.then HB.out (Below.then (alloc_below _ _) hb) | exact Below.then HB.out (Below.then (Below.then (alloc_below _ _) (drew_below _)) hb)); replace HB := Lib.hid hB1; replace HK := Lib.hid hK1; clear z zf y yf hK1 hB1;  obtain ⟨z, zf⟩ := blk_all HK.out.qs; obtain ⟨y, yf⟩ := blk_all HK.out.qp; clear hb)
    | (go_at_call 13; (with_reducible refine (Skew_calls _ _ k0 (pdP ⟨#[107]⟩ 1 ⟨#[]⟩) ⟨#[100]⟩ _ (by with_reducible first | exact HK.out.hv | exact Kd.V.mono (vw_below (drew_below _)) HK.out.hv | exact Kd.V.mono (vw_below (alloc_below _ _)) HK.out.hv | exact Kd.V.mono (vw_below (Below.then (alloc_below _ _) (drew_below _))) HK.out.hv) (by with_reducible exact HPK.out) (by decide) (by decide)).mono ?_); rintro e v5 ⟨rfl, hb⟩; clear HPK; have hK1 : KAt (w7.heap.size + 1) w7.heap.size #[.slice (some ⟨w4.heap.size, 0, none⟩) 4 4, .slice (some ⟨w7.heap.size, 0, none⟩) 3 3, .slice none 0 0] #[.string (tx [112]), .string (tx [119, 101, 98]), .int .i64 0, .slice E1 1 e1, .slice E2 0 e2, .slice E3 0 e3, .slice E4 0 e4, .string (tx [122, 111, 110, 101]), .int .i64 1, .string (tx [97]), .bool false, .string (tx [113]), .string (tx [119, 101, 98]), .int .i64 0, .slice F1 1 f1, .slice F2 0 f2, .slice F3 0 f3, .slice F4 0 f4, .string (tx [122, 111, 110, 101]), .int .i64 1, .string (tx [99]), .bool false, .string (tx [114]), .string (tx [119, 101, 98]), .int .i64 0, .slice G1 1 g1, .slice G2 0 g2, .slice G3 0 g3, .slice G4 0 g4, .string (tx [122, 111, 110, 101]), .int .i64 1, .string ⟨#[]⟩, .bool false] #[.string (tx [112]), .string (tx [119, 101, 98]), .int .i64 0, .slice E1 1 e1, .slice E2 0 e2, .slice E3 0 e3, .slice E4 0 e4, .string (tx [122, 111, 110, 101]), .int .i64 1, .string (tx [97]), .bool false] #[.string (tx [114]), .string (tx [119, 101, 98]), .int .i64 0, .slice G1 1 g1, .slice G2 0 g2, .slice G3 0 g3, .slice G4 0 g4, .string (tx [122, 111, 110, 101]), .int .i64 1, .string ⟨#[]⟩, .bool false] v5 := (by with_reducible first | exact KAt.below HK.out hb | exact KAt.below HK.out (Below.then (drew_below _) hb) | exact KAt.below HK.out (Below.then (alloc_below _ _) hb) | exact KAt.below HK.out (Below.then (Below.then (alloc_below _ _) (drew_below _)) hb)); have hB1 : Below w.heap.size w v5 := (by with_reducible first | exact Below.then HB.out hb | exact Below.then HB.out (Below.then (drew_below _) hb) | exact Below.then HB.out (Below.then (alloc_below _ _) hb) | exact Below.then HB.out (Below.then (Below.then (alloc_below _ _) (drew_below _)) hb)); replace HB := Lib.hid hB1; replace HK := Lib.hid hK1; clear z zf y yf hK1 hB1;  obtain ⟨z, zf⟩ := blk_all HK.out.qs; obtain ⟨y, yf⟩ := blk_all HK.out.qp; clear hb))
  simp only [show skewV k0 (pdP ⟨#[107]⟩ 1 ⟨#[]⟩) ⟨#[100]⟩ = (0, true) from k0_k]
  go_upto_region 6 with fail
  go_region_held3 (fun w' => (∀ j, w'.cell? ⟨w7.heap.size + 1, j, none⟩ = #[.slice (some ⟨w4.heap.size, 0, none⟩) 4 4, .slice (some ⟨w7.heap.size, 0, none⟩) 3 3, .slice none 0 0][j]?) ∧ ∀ j, w'.cell? ⟨w7.heap.size, j, none⟩ = #[.string (tx [112]), .string (tx [119, 101, 98]), .int .i64 0, .slice E1 1 e1, .slice E2 0 e2, .slice E3 0 e3, .slice E4 0 e4, .string (tx [122, 111, 110, 101]), .int .i64 1, .string (tx [97]), .bool false, .string (tx [113]), .string (tx [119, 101, 98]), .int .i64 0, .slice F1 1 f1, .slice F2 0 f2, .slice F3 0 f3, .slice F4 0 f4, .string (tx [122, 111, 110, 101]), .int .i64 1, .string (tx [99]), .bool false, .string (tx [114]), .string (tx [119, 101, 98]), .int .i64 0, .slice G1 1 g1, .slice G2 0 g2, .slice G3 0 g3, .slice G4 0 g4, .string (tx [122, 111, 110, 101]), .int .i64 1, .string ⟨#[]⟩, .bool false][j]?) (first | with_reducible exact ⟨z, y⟩ | with_reducible exact kat_alloc HK.out _ | with_reducible exact kat_alloc_drew HK.out _ | go_keep) (first
    | (go_at_call 16; (with_reducible refine (Domains_calls _ k0 ⟨#[122, 111, 110, 101]⟩ _ (by with_reducible first | exact HK.out.hv | exact Kd.V.mono (vw_below (drew_below _)) HK.out.hv | exact Kd.V.mono (vw_below (alloc_below _ _)) HK.out.hv | exact Kd.V.mono (vw_below (Below.then (alloc_below _ _) (drew_below _))) HK.out.hv) (by decide)).mono ?_); rintro e v6 ⟨sv, rfl, ho, hb⟩; (try have HX := Lib.hid (strs_two ((hb.block v5.heap.size (by simp)).trans (blk_last _ _)))); have HS := Lib.hid (doms_S ho (by decide +kernel) (by decide +kernel)); rw [show (domsV k0.nodes ⟨#[122, 111, 110, 101]⟩).map ba = [⟨#[120]⟩, ⟨#[121]⟩] by rw [show domsV k0.nodes ⟨#[122, 111, 110, 101]⟩ = [[120], [121]] from k0_doms]; rfl] at HS; clear ho; have hK1 : KAt (w7.heap.size + 1) w7.heap.size #[.slice (some ⟨w4.heap.size, 0, none⟩) 4 4, .slice (some ⟨w7.heap.size, 0, none⟩) 3 3, .slice none 0 0] #[.string (tx [112]), .string (tx [119, 101, 98]), .int .i64 0, .slice E1 1 e1, .slice E2 0 e2, .slice E3 0 e3, .slice E4 0 e4, .string (tx [122, 111, 110, 101]), .int .i64 1, .string (tx [97]), .bool false, .string (tx [113]), .string (tx [119, 101, 98]), .int .i64 0, .slice F1 1 f1, .slice F2 0 f2, .slice F3 0 f3, .slice F4 0 f4, .string (tx [122, 111, 110, 101]), .int .i64 1, .string (tx [99]), .bool false, .string (tx [114]), .string (tx [119, 101, 98]), .int .i64 0, .slice G1 1 g1, .slice G2 0 g2, .slice G3 0 g3, .slice G4 0 g4, .string (tx [122, 111, 110, 101]), .int .i64 1, .string ⟨#[]⟩, .bool false] #[.string (tx [112]), .string (tx [119, 101, 98]), .int .i64 0, .slice E1 1 e1, .slice E2 0 e2, .slice E3 0 e3, .slice E4 0 e4, .string (tx [122, 111, 110, 101]), .int .i64 1, .string (tx [97]), .bool false] #[.string (tx [114]), .string (tx [119, 101, 98]), .int .i64 0, .slice G1 1 g1, .slice G2 0 g2, .slice G3 0 g3, .slice G4 0 g4, .string (tx [122, 111, 110, 101]), .int .i64 1, .string ⟨#[]⟩, .bool false] v6 := (by with_reducible first | exact KAt.below HK.out hb | exact KAt.below HK.out (Below.then (drew_below _) hb) | exact KAt.below HK.out (Below.then (alloc_below _ _) hb) | exact KAt.below HK.out (Below.then (Below.then (alloc_below _ _) (drew_below _)) hb)); have hB1 : Below w.heap.size w v6 := (by with_reducible first | exact Below.then HB.out hb | exact Below.then HB.out (Below.then (drew_below _) hb) | exact Below.then HB.out (Below.then (alloc_below _ _) hb) | exact Below.then HB.out (Below.then (Below.then (alloc_below _ _) (drew_below _)) hb)); replace HB := Lib.hid hB1; replace HK := Lib.hid hK1; clear z zf y yf hK1 hB1;  obtain ⟨z, zf⟩ := blk_all HK.out.qs; obtain ⟨y, yf⟩ := blk_all HK.out.qp; clear hb)
    | (go_at_call 15; (with_reducible refine (Names_same _ _ _ _ (by with_reducible first | exact HS.out | exact Kd.S.mono (vw_below (alloc_below _ _)) HS.out) (by first | exact HX.out | exact strs_two (blk_last _ _))).mono ?_); rintro e v7 ⟨rfl, hb⟩; clear HS; (try clear HX); have hK1 : KAt (w7.heap.size + 1) w7.heap.size #[.slice (some ⟨w4.heap.size, 0, none⟩) 4 4, .slice (some ⟨w7.heap.size, 0, none⟩) 3 3, .slice none 0 0] #[.string (tx [112]), .string (tx [119, 101, 98]), .int .i64 0, .slice E1 1 e1, .slice E2 0 e2, .slice E3 0 e3, .slice E4 0 e4, .string (tx [122, 111, 110, 101]), .int .i64 1, .string (tx [97]), .bool false, .string (tx [113]), .string (tx [119, 101, 98]), .int .i64 0, .slice F1 1 f1, .slice F2 0 f2, .slice F3 0 f3, .slice F4 0 f4, .string (tx [122, 111, 110, 101]), .int .i64 1, .string (tx [99]), .bool false, .string (tx [114]), .string (tx [119, 101, 98]), .int .i64 0, .slice G1 1 g1, .slice G2 0 g2, .slice G3 0 g3, .slice G4 0 g4, .string (tx [122, 111, 110, 101]), .int .i64 1, .string ⟨#[]⟩, .bool false] #[.string (tx [112]), .string (tx [119, 101, 98]), .int .i64 0, .slice E1 1 e1, .slice E2 0 e2, .slice E3 0 e3, .slice E4 0 e4, .string (tx [122, 111, 110, 101]), .int .i64 1, .string (tx [97]), .bool false] #[.string (tx [114]), .string (tx [119, 101, 98]), .int .i64 0, .slice G1 1 g1, .slice G2 0 g2, .slice G3 0 g3, .slice G4 0 g4, .string (tx [122, 111, 110, 101]), .int .i64 1, .string ⟨#[]⟩, .bool false] v7 := (by with_reducible first | exact KAt.below HK.out hb | exact KAt.below HK.out (Below.then (drew_below _) hb) | exact KAt.below HK.out (Below.then (alloc_below _ _) hb) | exact KAt.below HK.out (Below.then (Below.then (alloc_below _ _) (drew_below _)) hb)); have hB1 : Below w.heap.size w v7 := (by with_reducible first | exact Below.then HB.out hb | exact Below.then HB.out (Below.then (drew_below _) hb) | exact Below.then HB.out (Below.then (alloc_below _ _) hb) | exact Below.then HB.out (Below.then (Below.then (alloc_below _ _) (drew_below _)) hb)); replace HB := Lib.hid hB1; replace HK := Lib.hid hK1; clear z zf y yf hK1 hB1;  obtain ⟨z, zf⟩ := blk_all HK.out.qs; obtain ⟨y, yf⟩ := blk_all HK.out.qp; clear hb)
    | (go_at_call 18; (with_reducible refine (Count_calls _ _ k0 (pdO (tx [114]) ⟨#[]⟩ 1) ⟨#[120]⟩ _ (by with_reducible first | exact HK.out.hv | exact Kd.V.mono (vw_below (drew_below _)) HK.out.hv | exact Kd.V.mono (vw_below (alloc_below _ _)) HK.out.hv | exact Kd.V.mono (vw_below (Below.then (alloc_below _ _) (drew_below _))) HK.out.hv) (by with_reducible first | exact HK.out.h3 | exact Kd.V.mono (vw_below (drew_below _)) HK.out.h3 | exact Kd.V.mono (vw_below (alloc_below _ _)) HK.out.h3 | exact Kd.V.mono (vw_below (Below.then (alloc_below _ _) (drew_below _))) HK.out.h3)).mono ?_); rintro e v8 ⟨rfl, hb⟩; rw [show countV k0 (pdO (tx [114]) ⟨#[]⟩ 1) ⟨#[120]⟩ k0.pods = 2 from k0_c2]; have hK1 : KAt (w7.heap.size + 1) w7.heap.size #[.slice (some ⟨w4.heap.size, 0, none⟩) 4 4, .slice (some ⟨w7.heap.size, 0, none⟩) 3 3, .slice none 0 0] #[.string (tx [112]), .string (tx [119, 101, 98]), .int .i64 0, .slice E1 1 e1, .slice E2 0 e2, .slice E3 0 e3, .slice E4 0 e4, .string (tx [122, 111, 110, 101]), .int .i64 1, .string (tx [97]), .bool false, .string (tx [113]), .string (tx [119, 101, 98]), .int .i64 0, .slice F1 1 f1, .slice F2 0 f2, .slice F3 0 f3, .slice F4 0 f4, .string (tx [122, 111, 110, 101]), .int .i64 1, .string (tx [99]), .bool false, .string (tx [114]), .string (tx [119, 101, 98]), .int .i64 0, .slice G1 1 g1, .slice G2 0 g2, .slice G3 0 g3, .slice G4 0 g4, .string (tx [122, 111, 110, 101]), .int .i64 1, .string ⟨#[]⟩, .bool false] #[.string (tx [112]), .string (tx [119, 101, 98]), .int .i64 0, .slice E1 1 e1, .slice E2 0 e2, .slice E3 0 e3, .slice E4 0 e4, .string (tx [122, 111, 110, 101]), .int .i64 1, .string (tx [97]), .bool false] #[.string (tx [114]), .string (tx [119, 101, 98]), .int .i64 0, .slice G1 1 g1, .slice G2 0 g2, .slice G3 0 g3, .slice G4 0 g4, .string (tx [122, 111, 110, 101]), .int .i64 1, .string ⟨#[]⟩, .bool false] v8 := (by with_reducible first | exact KAt.below HK.out hb | exact KAt.below HK.out (Below.then (drew_below _) hb) | exact KAt.below HK.out (Below.then (alloc_below _ _) hb) | exact KAt.below HK.out (Below.then (Below.then (alloc_below _ _) (drew_below _)) hb)); have hB1 : Below w.heap.size w v8 := (by with_reducible first | exact Below.then HB.out hb | exact Below.then HB.out (Below.then (drew_below _) hb) | exact Below.then HB.out (Below.then (alloc_below _ _) hb) | exact Below.then HB.out (Below.then (Below.then (alloc_below _ _) (drew_below _)) hb)); replace HB := Lib.hid hB1; replace HK := Lib.hid hK1; clear z zf y yf hK1 hB1;  obtain ⟨z, zf⟩ := blk_all HK.out.qs; obtain ⟨y, yf⟩ := blk_all HK.out.qp; clear hb)
    | (go_at_call 18; (with_reducible refine (Count_calls _ _ k0 (pdO (tx [112]) (tx [97]) 1) ⟨#[120]⟩ _ (by with_reducible first | exact HK.out.hv | exact Kd.V.mono (vw_below (drew_below _)) HK.out.hv | exact Kd.V.mono (vw_below (alloc_below _ _)) HK.out.hv | exact Kd.V.mono (vw_below (Below.then (alloc_below _ _) (drew_below _))) HK.out.hv) (by with_reducible first | exact HK.out.h1 | exact Kd.V.mono (vw_below (drew_below _)) HK.out.h1 | exact Kd.V.mono (vw_below (alloc_below _ _)) HK.out.h1 | exact Kd.V.mono (vw_below (Below.then (alloc_below _ _) (drew_below _))) HK.out.h1)).mono ?_); rintro e v9 ⟨rfl, hb⟩; rw [show countV k0 (pdO (tx [112]) (tx [97]) 1) ⟨#[120]⟩ k0.pods = 1 from k0_c1]; have hK1 : KAt (w7.heap.size + 1) w7.heap.size #[.slice (some ⟨w4.heap.size, 0, none⟩) 4 4, .slice (some ⟨w7.heap.size, 0, none⟩) 3 3, .slice none 0 0] #[.string (tx [112]), .string (tx [119, 101, 98]), .int .i64 0, .slice E1 1 e1, .slice E2 0 e2, .slice E3 0 e3, .slice E4 0 e4, .string (tx [122, 111, 110, 101]), .int .i64 1, .string (tx [97]), .bool false, .string (tx [113]), .string (tx [119, 101, 98]), .int .i64 0, .slice F1 1 f1, .slice F2 0 f2, .slice F3 0 f3, .slice F4 0 f4, .string (tx [122, 111, 110, 101]), .int .i64 1, .string (tx [99]), .bool false, .string (tx [114]), .string (tx [119, 101, 98]), .int .i64 0, .slice G1 1 g1, .slice G2 0 g2, .slice G3 0 g3, .slice G4 0 g4, .string (tx [122, 111, 110, 101]), .int .i64 1, .string ⟨#[]⟩, .bool false] #[.string (tx [112]), .string (tx [119, 101, 98]), .int .i64 0, .slice E1 1 e1, .slice E2 0 e2, .slice E3 0 e3, .slice E4 0 e4, .string (tx [122, 111, 110, 101]), .int .i64 1, .string (tx [97]), .bool false] #[.string (tx [114]), .string (tx [119, 101, 98]), .int .i64 0, .slice G1 1 g1, .slice G2 0 g2, .slice G3 0 g3, .slice G4 0 g4, .string (tx [122, 111, 110, 101]), .int .i64 1, .string ⟨#[]⟩, .bool false] v9 := (by with_reducible first | exact KAt.below HK.out hb | exact KAt.below HK.out (Below.then (drew_below _) hb) | exact KAt.below HK.out (Below.then (alloc_below _ _) hb) | exact KAt.below HK.out (Below.then (Below.then (alloc_below _ _) (drew_below _)) hb)); have hB1 : Below w.heap.size w v9 := (by with_reducible first | exact Below.then HB.out hb | exact Below.then HB.out (Below.then (drew_below _) hb) | exact Below.then HB.out (Below.then (alloc_below _ _) hb) | exact Below.then HB.out (Below.then (Below.then (alloc_below _ _) (drew_below _)) hb)); replace HB := Lib.hid hB1; replace HK := Lib.hid hK1; clear z zf y yf hK1 hB1;  obtain ⟨z, zf⟩ := blk_all HK.out.qs; obtain ⟨y, yf⟩ := blk_all HK.out.qp; clear hb)
    | (go_at_call 20; (with_reducible refine (Bad_calls _ k0 _ (by with_reducible first | exact HK.out.hv | exact Kd.V.mono (vw_below (drew_below _)) HK.out.hv | exact Kd.V.mono (vw_below (alloc_below _ _)) HK.out.hv | exact Kd.V.mono (vw_below (Below.then (alloc_below _ _) (drew_below _))) HK.out.hv) (by decide) (by decide)).mono ?_); rintro e va ⟨sv, rfl, ho, hb⟩; (try have HX := Lib.hid (strs_two ((hb.block v9.heap.size (by simp)).trans (blk_last _ _)))); rw [k0_bad] at ho; have HS : Hid (Kd.str.S (vw va []) sv [⟨#[112]⟩, ⟨#[113]⟩]) := bad_S ho (by decide) two_ok; clear ho; have hK1 : KAt (w7.heap.size + 1) w7.heap.size #[.slice (some ⟨w4.heap.size, 0, none⟩) 4 4, .slice (some ⟨w7.heap.size, 0, none⟩) 3 3, .slice none 0 0] #[.string (tx [112]), .string (tx [119, 101, 98]), .int .i64 0, .slice E1 1 e1, .slice E2 0 e2, .slice E3 0 e3, .slice E4 0 e4, .string (tx [122, 111, 110, 101]), .int .i64 1, .string (tx [97]), .bool false, .string (tx [113]), .string (tx [119, 101, 98]), .int .i64 0, .slice F1 1 f1, .slice F2 0 f2, .slice F3 0 f3, .slice F4 0 f4, .string (tx [122, 111, 110, 101]), .int .i64 1, .string (tx [99]), .bool false, .string (tx [114]), .string (tx [119, 101, 98]), .int .i64 0, .slice G1 1 g1, .slice G2 0 g2, .slice G3 0 g3, .slice G4 0 g4, .string (tx [122, 111, 110, 101]), .int .i64 1, .string ⟨#[]⟩, .bool false] #[.string (tx [112]), .string (tx [119, 101, 98]), .int .i64 0, .slice E1 1 e1, .slice E2 0 e2, .slice E3 0 e3, .slice E4 0 e4, .string (tx [122, 111, 110, 101]), .int .i64 1, .string (tx [97]), .bool false] #[.string (tx [114]), .string (tx [119, 101, 98]), .int .i64 0, .slice G1 1 g1, .slice G2 0 g2, .slice G3 0 g3, .slice G4 0 g4, .string (tx [122, 111, 110, 101]), .int .i64 1, .string ⟨#[]⟩, .bool false] va := (by with_reducible first | exact KAt.below HK.out hb | exact KAt.below HK.out (Below.then (drew_below _) hb) | exact KAt.below HK.out (Below.then (alloc_below _ _) hb) | exact KAt.below HK.out (Below.then (Below.then (alloc_below _ _) (drew_below _)) hb)); have hB1 : Below w.heap.size w va := (by with_reducible first | exact Below.then HB.out hb | exact Below.then HB.out (Below.then (drew_below _) hb) | exact Below.then HB.out (Below.then (alloc_below _ _) hb) | exact Below.then HB.out (Below.then (Below.then (alloc_below _ _) (drew_below _)) hb)); replace HB := Lib.hid hB1; replace HK := Lib.hid hK1; clear z zf y yf hK1 hB1;  obtain ⟨z, zf⟩ := blk_all HK.out.qs; obtain ⟨y, yf⟩ := blk_all HK.out.qp; clear hb))
  all_goals
    go_wp2
    go_ret
    exact ⟨rfl, HB.out⟩
end Go.Proofs.Ytfbmfjmnpfidoaa
