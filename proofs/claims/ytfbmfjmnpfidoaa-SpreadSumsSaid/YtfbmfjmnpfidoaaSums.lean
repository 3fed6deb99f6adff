import Derived.Test.YtfbmfjmnpfidoaaSumsP
import Derived.Test.YtfbmfjmnpfidoaaKnown
import Derived.IntWalk
namespace Go.Proofs.Ytfbmfjmnpfidoaa
open Go.RowKit Go.Sort

def zkey : ByteArray := ⟨#[122, 111, 110, 101]⟩
theorem skew_ok {s : St} {p : Pd} {n : ByteArray} (h : p.key ≠ ⟨#[]⟩) : (skewV s p n).2 = (domV s n p.key).2 := by
  unfold skewV
  rw [if_neg h]
  cases hd : (domV s n p.key).2 <;> simp
theorem i64_1 : i64 1 := by unfold i64; decide
theorem doms_small {s : St} (h : s.Few) {key : ByteArray} {d : List UInt8} (hd : d ∈ domsV s.nodes key) : d.length ≤ 50 := by
  unfold domsV at hd
  rw [insAll_mem] at hd
  obtain ⟨v, hv, rfl⟩ := List.mem_map.1 hd
  unfold domsL at hv
  obtain ⟨n, hn, he⟩ := List.mem_filterMap.1 hv
  split at he
  · rename_i hg
    injection he with he
    obtain ⟨x, hx, e⟩ := getV_mem hg
    have := ((h.2.2.2.1 n hn).2.2.1.2 x hx).2
    rw [← he, e]
    exact this
  · cases he
set_option maxHeartbeats 8000000 in
set_option maxRecDepth 100000 in
theorem SpreadSums_calls (v : Value) (s : St) (n : Int) (w : World) (hv : Kd.state.V (vw w []) v s) (h0 : 0 ≤ n) (h1 : n ≤ 255) :
    Calls Try.prog 5 #[v, .int .u8 n] w (BoolDone true w) := by
  obtain ⟨cs, rfl, hks⟩ := hv
  have hvs : Kd.state.V (vw w []) (.agg cs.toArray) s := ⟨cs, rfl, hks⟩
  obtain ⟨A1, c1, A2, c2, A3, c3, rfl, -, s2, -⟩ := hks
  have HVS := Lib.hid hvs
  have S2 := Lib.hid s2
  clear hvs s2
  go_enter Try.func5, Try.ntmps5
  have HB : Hid (Below w.heap.size w (w.alloc (.cells #[.slice A1 s.nodes.length c1, .slice A2 s.pods.length c2, .slice A3 s.budgets.length c3] 26))) := alloc_below _ _
  have HQ : Hid ((w.alloc (.cells #[.slice A1 s.nodes.length c1, .slice A2 s.pods.length c2, .slice A3 s.budgets.length c3] 26)).heap[w.heap.size]? = some (.cells #[.slice A1 s.nodes.length c1, .slice A2 s.pods.length c2, .slice A3 s.budgets.length c3] 26 (0, 0))) := blk_last _ _
  go_upto_region 1 with fail
  generalize w.alloc (.cells #[.slice A1 s.nodes.length c1, .slice A2 s.pods.length c2, .slice A3 s.budgets.length c3] 26) = W at HB HQ ⊢
  obtain ⟨z, zf⟩ := blk_all HQ.out
  go_wp2_with fail
  refine (known_calls _).mono ?_
  rintro e w1 ⟨rfl, hb⟩
  replace HQ := Lib.hid ((hb.block _ (blk_lt HQ.out)).trans HQ.out)
  replace HB := Lib.hid (Below.then HB.out hb)
  clear hb z zf
  obtain ⟨z, zf⟩ := blk_all HQ.out
  go_wp2_with fail
  refine (Good_calls _ s _ (Kd.V.mono (vw_below HB.out) HVS.out)).mono ?_
  rintro e w2 ⟨r, rfl, hr, hb⟩
  replace HQ := Lib.hid ((hb.block _ (blk_lt HQ.out)).trans HQ.out)
  replace HB := Lib.hid (Below.then HB.out hb)
  clear hb z zf
  obtain ⟨z, zf⟩ := blk_all HQ.out
  cases r with
  | false =>
    clear hr
    go_wp2
    go_ret
    exact ⟨rfl, HB.out⟩
  | true =>
  obtain ⟨hf, hc⟩ := hr rfl
  have hnl : s.nodes.length ≤ 34 := hf.1
  have hpl : s.pods.length ≤ 130 := hf.2.1
  have HC := Lib.hid hc
  have HF := Lib.hid hf
  clear hr hf hc
  by_cases hp : s.pods.length < 1
  · go_wp2
    go_ret
    exact ⟨rfl, HB.out⟩
  obtain ⟨k, hk⟩ : ∃ k : Nat, n.tmod (s.pods.length : Int) = (k : Int) := ⟨(n.tmod (s.pods.length : Int)).toNat, by
    have := Int.tmod_nonneg (s.pods.length : Int) h0
    omega⟩
  have hlt : k < s.pods.length := by
    have := Int.tmod_lt_of_pos n (show (0 : Int) < s.pods.length by omega)
    omega
  obtain ⟨b, off, cs, rfl, hn2, hc⟩ := S2.out.both HB.out k hlt
  obtain ⟨x, hx⟩ : ∃ x, s.pods[k] = x := ⟨_, rfl⟩
  rw [hx] at hn2
  have HKX : Hid (Kd.pod.K (vw w []) x cs) := hn2
  obtain ⟨B1, d1, B2, d2, B3, d3, B4, d4, rfl, -⟩ := hn2
  have m0 : w2.cell? ⟨b, off + k * 11, none⟩ = some (.string x.name) := hc 0 _ rfl
  have m1 : w2.cell? ⟨b, off + k * 11 + 1, none⟩ = some (.string x.owner) := hc 1 _ rfl
  have m2 : w2.cell? ⟨b, off + k * 11 + 2, none⟩ = some (.int .i64 x.prio) := hc 2 _ rfl
  have m3 : w2.cell? ⟨b, off + k * 11 + 3, none⟩ = some (.slice B1 x.need.length d1) := hc 3 _ rfl
  have m4 : w2.cell? ⟨b, off + k * 11 + 4, none⟩ = some (.slice B2 x.labels.length d2) := hc 4 _ rfl
  have m5 : w2.cell? ⟨b, off + k * 11 + 5, none⟩ = some (.slice B3 x.sel.length d3) := hc 5 _ rfl
  have m6 : w2.cell? ⟨b, off + k * 11 + 6, none⟩ = some (.slice B4 x.tols.length d4) := hc 6 _ rfl
  have m7 : w2.cell? ⟨b, off + k * 11 + 7, none⟩ = some (.string x.key) := hc 7 _ rfl
  have m8 : w2.cell? ⟨b, off + k * 11 + 8, none⟩ = some (.int .i64 x.most) := hc 8 _ rfl
  have m9 : w2.cell? ⟨b, off + k * 11 + 9, none⟩ = some (.string x.node) := hc 9 _ rfl
  have m10 : w2.cell? ⟨b, off + k * 11 + 10, none⟩ = some (.bool x.hold) := hc 10 _ rfl
  have HX := Lib.hid hx
  clear hc hx
  have hw1 : IntKind.i64.wrap n = n := IntWalk.i64_in _ (by omega)
  have b1 : (0 : Int) ≤ (k : Int) := by omega
  have b2 : (k : Int) < (s.pods.length : Int) := by omega
  have hp0 : ((s.pods.length : Int) == 0) = false := beq_false_of_ne (by omega)
  have hpe : s.pods ≠ [] := fun h => by rw [h] at hp; exact hp (by decide)
  have hwk : IntKind.i64.wrap (k : Int) = (k : Int) := IntWalk.i64_in _ (by omega)
  have hp9 : ¬ (s.pods.length : Int) = 0 := by omega
  go_upto_region 5 with fail
  go_region_held3 (fun w' => w'.cell? ⟨w.heap.size, 1, none⟩ = some (.slice (some ⟨b, off, none⟩) s.pods.length c2) ∧ w'.cell? ⟨b, off + k * 11, none⟩ = some (.string x.name) ∧ w'.cell? ⟨b, off + k * 11 + 1, none⟩ = some (.string x.owner) ∧ w'.cell? ⟨b, off + k * 11 + 2, none⟩ = some (.int .i64 x.prio) ∧ w'.cell? ⟨b, off + k * 11 + 3, none⟩ = some (.slice B1 x.need.length d1) ∧ w'.cell? ⟨b, off + k * 11 + 4, none⟩ = some (.slice B2 x.labels.length d2) ∧ w'.cell? ⟨b, off + k * 11 + 5, none⟩ = some (.slice B3 x.sel.length d3) ∧ w'.cell? ⟨b, off + k * 11 + 6, none⟩ = some (.slice B4 x.tols.length d4) ∧ w'.cell? ⟨b, off + k * 11 + 7, none⟩ = some (.string x.key) ∧ w'.cell? ⟨b, off + k * 11 + 8, none⟩ = some (.int .i64 x.most) ∧ w'.cell? ⟨b, off + k * 11 + 9, none⟩ = some (.string x.node) ∧ w'.cell? ⟨b, off + k * 11 + 10, none⟩ = some (.bool x.hold)) (first | with_reducible exact ⟨z 1, m0, m1, m2, m3, m4, m5, m6, m7, m8, m9, m10⟩ | go_keep) (fail)
  go_upto_region 8 with fail
  change Code.wp _ _ _ _ (w2.alloc (.cells #[.string x.name, .string x.owner, .int .i64 x.prio, .slice B1 x.need.length d1, .slice B2 x.labels.length d2, .slice B3 x.sel.length d3, .slice B4 x.tols.length d4, .string zkey, .int .i64 1, .string x.node, .bool x.hold] 35)).drew
  obtain ⟨U, hU⟩ : ∃ U : World, U = (w2.alloc (.cells #[.string x.name, .string x.owner, .int .i64 x.prio, .slice B1 x.need.length d1, .slice B2 x.labels.length d2, .slice B3 x.sel.length d3, .slice B4 x.tols.length d4, .string zkey, .int .i64 1, .string x.node, .bool x.hold] 35)).drew := ⟨_, rfl⟩
  rw [← hU]
  have hbU : Below w2.heap.size w2 U := by rw [hU]; exact Below.then (alloc_below _ _) (drew_below _)
  have HQP : Hid (U.heap[w2.heap.size]? = some (.cells #[.string x.name, .string x.owner, .int .i64 x.prio, .slice B1 x.need.length d1, .slice B2 x.labels.length d2, .slice B3 x.sel.length d3, .slice B4 x.tols.length d4, .string zkey, .int .i64 1, .string x.node, .bool x.hold] 35 (0, 0))) := by rw [hU]; exact blk_last _ _
  replace HQ := Lib.hid ((hbU.block _ (blk_lt HQ.out)).trans HQ.out)
  replace HB := Lib.hid (Below.then HB.out hbU)
  obtain ⟨y, hy⟩ : ∃ y : Pd, y = { x with key := zkey, most := 1 } := ⟨_, rfl⟩
  have hyk : y.key = zkey := by rw [hy]
  have HYK := Lib.hid hyk
  have HVY : Hid (Kd.pod.V (vw w []) (.agg #[.string x.name, .string x.owner, .int .i64 x.prio, .slice B1 x.need.length d1, .slice B2 x.labels.length d2, .slice B3 x.sel.length d3, .slice B4 x.tols.length d4, .string zkey, .int .i64 1, .string x.node, .bool x.hold]) y) := by
    obtain ⟨E1, g1, E2, g2, E3, g3, E4, g4, he, hok, t1, t2, t3, t4⟩ := HKX.out
    injection he with _ he
    injection he with _ he
    injection he with _ he
    injection he with e3 he
    injection he with e4 he
    injection he with e5 he
    injection he with e6 he
    rw [← e3] at t1
    rw [← e4] at t2
    rw [← e5] at t3
    rw [← e6] at t4
    subst hy
    exact ⟨_, rfl, B1, d1, B2, d2, B3, d3, B4, d4, rfl, ⟨⟨hok.1.1, hok.1.2.1, hok.1.2.2⟩, zone_ok, i64_1, hok.2.2.2⟩, t1, t2, t3, t4⟩
  have HYN : Hid (y.name = x.name ∧ y.owner = x.owner) := by rw [hy]; exact ⟨rfl, rfl⟩
  clear hU hbU hy hyk m0 m1 m2 m3 m4 m5 m6 m7 m8 m9 m10 z zf hw1 hwk hp0 hp9 hpe b1 b2 hk HX HKX
  obtain ⟨z, zf⟩ := blk_all HQ.out
  obtain ⟨q, qf⟩ := blk_all HQP.out
  go_wp2_with fail
  refine (Domains_calls _ s zkey _ (Kd.V.mono (vw_below HB.out) HVS.out) (by omega)).mono ?_
  rintro e U2 ⟨sv, rfl, ho, hb⟩
  have hdl := domsV_len s.nodes zkey
  have hds := doms_S ho (by omega) (fun d hd => by have := doms_small HF.out hd; omega)
  replace HQ := Lib.hid ((hb.block _ (blk_lt HQ.out)).trans HQ.out)
  replace HQP := Lib.hid ((hb.block _ (blk_lt HQP.out)).trans HQP.out)
  replace HB := Lib.hid (Below.then HB.out hb)
  have hris := domsV_rises s.nodes zkey
  have hse : sumC s y (domsV s.nodes zkey) = wantV s y s.pods := by rw [← HYK.out]; exact sums_eq s y
  obtain ⟨D, hD⟩ : ∃ D, domsV s.nodes zkey = D := ⟨_, rfl⟩
  rw [hD] at hds hdl hris hse
  have hlm : (D.map ba).length = D.length := List.length_map _
  obtain ⟨G, gc, rfl, hds⟩ := hds.val
  rw [hlm] at hds ⊢
  obtain ⟨-, gl1, gl2⟩ := hds.form
  rw [hlm] at gl1 gl2
  have HDS := Lib.hid hds
  have HRIS := Lib.hid hris
  have HSE := Lib.hid hse
  clear hb ho z zf q qf hds hris hse hD hlm
  obtain ⟨z, zf⟩ := blk_all HQ.out
  obtain ⟨q, qf⟩ := blk_all HQP.out
  go_wp2
  clear z zf q qf
  have HQ0 := HQ
  have HQP0 := HQP
  have HB0 := HB
  clear HQ HQP HB
  go_loopw [6, 8] (fun o i wr => ∃ j : Nat, j ≤ D.length ∧ i = .int .i64 j ∧ o = .int .i64 (sumC s y (D.take j) : Nat) ∧ Hid (Below U2.heap.size U2 wr)) (fun _ i _ => D.length - (intOf i).toNat)
  case atStart => exact ⟨0, Nat.zero_le _, rfl, rfl, Below.refl _ _⟩
  case round =>
    obtain ⟨j, hj, rfl, rfl, HB⟩ := hrel
    have HQ := Lib.hid ((HB.out.block _ (blk_lt HQ0.out)).trans HQ0.out)
    have HQP := Lib.hid ((HB.out.block _ (blk_lt HQP0.out)).trans HQP0.out)
    obtain ⟨z, zf⟩ := blk_all HQ.out
    obtain ⟨q, qf⟩ := blk_all HQP.out
    by_cases hlt2 : j < D.length
    · obtain ⟨go, gf, rfl, hcd, -⟩ := (HDS.out.mono (vw_below HB.out)).elem1 j (by simpa using hlt2)
      rw [List.getElem_map] at hcd
      have hsn := sumC_snoc s y hlt2
      have hsl := sumC_le s y (D.take j)
      have hcl := countV_le s y (ba D[j]) s.pods
      rw [List.length_take] at hsl
      have hmul : min j D.length * s.pods.length ≤ 34 * 130 := Nat.mul_le_mul (by omega) hpl
      obtain ⟨c, hc⟩ : ∃ c, countV s y (ba D[j]) s.pods = c := ⟨_, rfl⟩
      obtain ⟨m, hm⟩ : ∃ m, sumC s y (D.take j) = m := ⟨_, rfl⟩
      rw [hm] at hsn hsl
      rw [hc] at hsn hcl
      rw [hm]
      have HSN := Lib.hid hsn
      have HCC := Lib.hid hc
      clear hsn hc hm
      have hwr : IntKind.i64.wrap ((m : Int) + (c : Int)) = (m : Int) + (c : Int) := IntWalk.i64_in _ (by omega)
      have TAIL : True := trivial
      by_cases hj0 : j = 0
      · subst hj0
        go_upto_region 12 with fail
        go_quiet (fail)
        have HB1 := Lib.hid (drewN_then HB.out nq)
        have hcd' : (wr.drewN nq).cell? ⟨go, gf, none⟩ = some (.string (ba D[0])) := hcd
        generalize wr.drewN nq = X at HB1 hcd' ⊢
        clear HB HQ HQP z zf q qf hcd
        have HB := HB1
        have HQ := Lib.hid ((HB.out.block _ (blk_lt HQ0.out)).trans HQ0.out)
        have HQP := Lib.hid ((HB.out.block _ (blk_lt HQP0.out)).trans HQP0.out)
        clear HB1
        obtain ⟨z, zf⟩ := blk_all HQ.out
        obtain ⟨q, qf⟩ := blk_all HQP.out
        have b1 : (0 : Int) < (D.length : Int) := by omega
        go_upto_region 14 with fail
        go_region_held3 (fun w' => (∀ i, w'.cell? ⟨w.heap.size, i, none⟩ = #[.slice A1 s.nodes.length c1, .slice (some ⟨b, off, none⟩) s.pods.length c2, .slice A3 s.budgets.length c3][i]?) ∧ (∀ i, w'.cell? ⟨w2.heap.size, i, none⟩ = #[.string x.name, .string x.owner, .int .i64 x.prio, .slice B1 x.need.length d1, .slice B2 x.labels.length d2, .slice B3 x.sel.length d3, .slice B4 x.tols.length d4, .string zkey, .int .i64 1, .string x.node, .bool x.hold][i]?) ∧ w'.cell? ⟨go, gf, none⟩ = some (.string (ba D[0])))
          (first | with_reducible exact ⟨z, q, hcd'⟩ | go_keep) (first
          | (go_at_call 18; (with_reducible refine (Count_calls _ _ s y (ba D[0]) _ (by with_reducible exact Kd.V.mono (vw_below (Below.then (Below.then HB0.out HB.out) (drew_below _))) HVS.out) (by with_reducible exact Kd.V.mono (vw_below (Below.then (Below.then HB0.out HB.out) (drew_below _))) HVY.out)).mono ?_); rintro e X2 ⟨rfl, hb⟩; rw [HCC.out]; replace HB := Lib.hid (Below.then (Below.then HB.out (drew_below _)) hb); replace HQ := Lib.hid ((HB.out.block _ (blk_lt HQ0.out)).trans HQ0.out); replace HQP := Lib.hid ((HB.out.block _ (blk_lt HQP0.out)).trans HQP0.out); have hcd2 := keep_cell (w := X.drew) hb hcd'; clear z zf q qf hb hcd'; have hcd' := hcd2; clear hcd2; obtain ⟨z, zf⟩ := blk_all HQ.out; obtain ⟨q, qf⟩ := blk_all HQP.out))
        go_wp2
        go_roundw
        case rel => exact ⟨0 + 1, by omega, by go_num, by rw [HSN.out, Int.natCast_add], HB.out⟩
        case measure => simp [intOf]; omega
      · have hj1 : 0 < j := by omega
        have hjm : ((j : Int) - 1).toNat = j - 1 := by omega
        obtain ⟨go', gf', hA, hcd2, -⟩ := (HDS.out.mono (vw_below HB.out)).elem1 (j - 1) (by simp; omega)
        injection hA with hA
        injection hA with e1 e2
        subst e1 e2
        rw [List.getElem_map] at hcd2
        have hle := le_ltS (ba D[j]) (ba D[j - 1])
        have hlt3 : ltS (ba D[j - 1]) (ba D[j]) = true := by
          unfold ltS
          rw [decide_eq_true_eq]
          exact (List.pairwise_iff_getElem.1 HRIS.out) (j - 1) j (by omega) hlt2 (by omega)
        rw [hlt3] at hle
        have hle2 : (Op.bytesLess (ba D[j]).toList (ba D[j - 1]).toList || ((ba D[j]).toList == (ba D[j - 1]).toList)) = false := hle
        clear hle hlt3
        go_upto_region 12 with fail
        go_quiet (fail)
        clear hle2 hcd2
        have HB1 := Lib.hid (drewN_then HB.out nq)
        have hcd' : (wr.drewN nq).cell? ⟨go, gf + j, none⟩ = some (.string (ba D[j])) := hcd
        generalize wr.drewN nq = X at HB1 hcd' ⊢
        clear HB HQ HQP z zf q qf hcd
        have HB := HB1
        have HQ := Lib.hid ((HB.out.block _ (blk_lt HQ0.out)).trans HQ0.out)
        have HQP := Lib.hid ((HB.out.block _ (blk_lt HQP0.out)).trans HQP0.out)
        clear HB1
        obtain ⟨z, zf⟩ := blk_all HQ.out
        obtain ⟨q, qf⟩ := blk_all HQP.out
        have b1 : (j : Int) < (D.length : Int) := by omega
        go_upto_region 14 with fail
        go_region_held3 (fun w' => (∀ i, w'.cell? ⟨w.heap.size, i, none⟩ = #[.slice A1 s.nodes.length c1, .slice (some ⟨b, off, none⟩) s.pods.length c2, .slice A3 s.budgets.length c3][i]?) ∧ (∀ i, w'.cell? ⟨w2.heap.size, i, none⟩ = #[.string x.name, .string x.owner, .int .i64 x.prio, .slice B1 x.need.length d1, .slice B2 x.labels.length d2, .slice B3 x.sel.length d3, .slice B4 x.tols.length d4, .string zkey, .int .i64 1, .string x.node, .bool x.hold][i]?) ∧ w'.cell? ⟨go, gf + j, none⟩ = some (.string (ba D[j])))
          (first | with_reducible exact ⟨z, q, hcd'⟩ | go_keep) (first
          | (go_at_call 18; (with_reducible refine (Count_calls _ _ s y (ba D[j]) _ (by with_reducible exact Kd.V.mono (vw_below (Below.then (Below.then HB0.out HB.out) (drew_below _))) HVS.out) (by with_reducible exact Kd.V.mono (vw_below (Below.then (Below.then HB0.out HB.out) (drew_below _))) HVY.out)).mono ?_); rintro e X2 ⟨rfl, hb⟩; rw [HCC.out]; replace HB := Lib.hid (Below.then (Below.then HB.out (drew_below _)) hb); replace HQ := Lib.hid ((HB.out.block _ (blk_lt HQ0.out)).trans HQ0.out); replace HQP := Lib.hid ((HB.out.block _ (blk_lt HQP0.out)).trans HQP0.out); have hcd2 := keep_cell (w := X.drew) hb hcd'; clear z zf q qf hb hcd'; have hcd' := hcd2; clear hcd2; obtain ⟨z, zf⟩ := blk_all HQ.out; obtain ⟨q, qf⟩ := blk_all HQP.out))
        go_wp2
        go_roundw
        case rel => exact ⟨j + 1, by omega, by go_num, by rw [HSN.out, Int.natCast_add], HB.out⟩
        case measure => simp [intOf]; omega
    · obtain rfl : j = D.length := by omega
      have HTK : Hid (sumC s y (D.take D.length) = wantV s y s.pods) := by show _ = _; rw [List.take_length]; exact HSE.out
      rw [HTK.out]
      have hwl := wantV_le s y s.pods
      obtain ⟨N, hN⟩ : ∃ N, wantV s y s.pods = N := ⟨_, rfl⟩
      rw [hN] at hwl ⊢
      have HNN := Lib.hid hN
      clear hN
      go_wp2
      have hVV : ∃ V : World, V = wr := ⟨_, rfl⟩
      obtain ⟨V, rfl⟩ := hVV
      have HQ1 := HQ
      have HQP1 := HQP
      have HB1 := Lib.hid (Below.then HB0.out HB.out)
      clear z zf q qf HQ HQP HB HQ0 HQP0 HB0 HTK
      go_loopw [9, 10] (fun o i wi => ∃ j : Nat, j ≤ s.pods.length ∧ i = .int .i64 j ∧ o = .int .i64 (wantV s y (s.pods.take j) : Nat) ∧ Hid (Below V.heap.size V wi)) (fun _ i _ => s.pods.length - (intOf i).toNat)
      case atStart => exact ⟨0, Nat.zero_le _, rfl, rfl, Below.refl _ _⟩
      case round =>
        clear hj hlt2
        obtain ⟨j, hj, rfl, rfl, HB⟩ := hrel
        have HQ := Lib.hid ((HB.out.block _ (blk_lt HQ1.out)).trans HQ1.out)
        have HQP := Lib.hid ((HB.out.block _ (blk_lt HQP1.out)).trans HQP1.out)
        obtain ⟨z, zf⟩ := blk_all HQ.out
        obtain ⟨q, qf⟩ := blk_all HQP.out
        by_cases hlt2 : j < s.pods.length
        · obtain ⟨b', off', cs, hA, hn2, hc⟩ := S2.out.both (Below.then HB1.out HB.out) j hlt2
          injection hA with hA
          injection hA with e1 e2
          subst e1 e2
          have hsn := wantV_snoc s y hlt2
          have hwj := wantV_le s y (s.pods.take j)
          rw [List.length_take] at hwj
          obtain ⟨xx, hxx⟩ : ∃ xx, s.pods[j] = xx := ⟨_, rfl⟩
          rw [hxx] at hn2 hsn
          obtain ⟨F1, f1, F2, f2, F3, f3, F4, f4, rfl, -⟩ := hn2
          obtain ⟨a1, ha1⟩ : ∃ a, decide (xx.name = x.name) = a := ⟨_, rfl⟩
          obtain ⟨a2, ha2⟩ : ∃ a, decide (xx.owner = x.owner) = a := ⟨_, rfl⟩
          obtain ⟨a3, ha3⟩ : ∃ a, decide (xx.owner = ⟨#[]⟩) = a := ⟨_, rfl⟩
          obtain ⟨a4, ha4⟩ : ∃ a, xx.hold = a := ⟨_, rfl⟩
          obtain ⟨a5, ha5⟩ : ∃ a, decide (xx.node = ⟨#[]⟩) = a := ⟨_, rfl⟩
          have HO : Hid (other y xx = (a2 && (!a3 && (!a4 && (!a1 && !a5))))) := by
            show _ = _
            unfold other
            rw [HYN.out.1, HYN.out.2, ha1, ha2, ha4, ha5]
            cases a2 with
            | false => simp
            | true =>
              have he : xx.owner = x.owner := of_decide_eq_true ha2
              rw [← he, ha3]; simp
          have e1 := eq_beq xx.name x.name
          have e2 := eq_beq xx.owner x.owner
          have e3 := empty_beq xx.owner
          have e5 := empty_beq xx.node
          rw [ha1] at e1
          rw [ha2] at e2
          rw [ha3] at e3
          rw [ha5] at e5
          rw [ha4] at hc
          have HC : Hid (wr.rangeAt b (off + j * 11) _) := hc
          obtain ⟨M, hM⟩ : ∃ M, wantV s y (s.pods.take j) = M := ⟨_, rfl⟩
          rw [hM] at hsn hwj ⊢
          have HSN := Lib.hid hsn
          have Z0 : other y xx = false → Hid (wantV s y (s.pods.take (j + 1)) = M) := fun h => by
            show _ = _
            rw [HSN.out, h]; simp
          clear hc hsn hM ha1 ha2 ha3 ha4 ha5 hxx
          go_upto_region 20 with (with_reducible refine wpList_load_mid rfl 35 _ rfl b (off + j * 11) rfl _ _ HC.out Try.underlying35 rfl (by kernel_rfl) ?_)
          obtain ⟨U3, hU3⟩ : ∃ U3 : World, U3 = wr.alloc (.cells #[.string xx.name, .string xx.owner, .int .i64 xx.prio, .slice F1 xx.need.length f1, .slice F2 xx.labels.length f2, .slice F3 xx.sel.length f3, .slice F4 xx.tols.length f4, .string xx.key, .int .i64 xx.most, .string xx.node, .bool a4] 35) := ⟨_, rfl⟩
          rw [← hU3]
          have hub : U3.heap[wr.heap.size]? = some (.cells #[.string xx.name, .string xx.owner, .int .i64 xx.prio, .slice F1 xx.need.length f1, .slice F2 xx.labels.length f2, .slice F3 xx.sel.length f3, .slice F4 xx.tols.length f4, .string xx.key, .int .i64 xx.most, .string xx.node, .bool a4] 35 (0, 0)) := by rw [hU3]; exact blk_last _ _
          have hue : Below wr.heap.size wr U3 := by rw [hU3]; exact alloc_below _ _
          replace HB := Lib.hid (Below.then HB.out hue)
          replace HQ := Lib.hid ((HB.out.block _ (blk_lt HQ1.out)).trans HQ1.out)
          replace HQP := Lib.hid ((HB.out.block _ (blk_lt HQP1.out)).trans HQP1.out)
          have HUB := Lib.hid hub
          clear z zf q qf hU3 hue hub HC
          obtain ⟨z, zf⟩ := blk_all HQ.out
          obtain ⟨q, qf⟩ := blk_all HQP.out
          obtain ⟨u, uf⟩ := blk_all HUB.out
          cases a1 with
          | true =>
            go_wp2
            go_roundw
            case rel => exact ⟨j + 1, by omega, by go_num, by rw [(Z0 (by rw [HO.out]; simp)).out], HB.out⟩
            case measure => simp [intOf]; omega
          | false =>
          cases a2 with
          | false =>
            go_wp2
            go_roundw
            case rel => exact ⟨j + 1, by omega, by go_num, by rw [(Z0 (by rw [HO.out]; simp)).out], HB.out⟩
            case measure => simp [intOf]; omega
          | true =>
          cases a3 with
          | true =>
            go_wp2
            go_roundw
            case rel => exact ⟨j + 1, by omega, by go_num, by rw [(Z0 (by rw [HO.out]; simp)).out], HB.out⟩
            case measure => simp [intOf]; omega
          | false =>
          cases a4 with
          | true =>
            go_wp2
            go_roundw
            case rel => exact ⟨j + 1, by omega, by go_num, by rw [(Z0 (by rw [HO.out]; simp)).out], HB.out⟩
            case measure => simp [intOf]; omega
          | false =>
          cases a5 with
          | true =>
            go_wp2
            go_roundw
            case rel => exact ⟨j + 1, by omega, by go_num, by rw [(Z0 (by rw [HO.out]; simp)).out], HB.out⟩
            case measure => simp [intOf]; omega
          | false =>
          go_wp2_with fail
          refine (Skew_calls _ _ s y xx.node _ (Kd.V.mono (vw_below (Below.then HB1.out HB.out)) HVS.out) (Kd.V.mono (vw_below (Below.then HB1.out HB.out)) HVY.out) (by omega) (by omega)).mono ?_
          rintro e U4 ⟨rfl, hb⟩
          have hsk := skew_ok (s := s) (n := xx.node) (show y.key ≠ ⟨#[]⟩ by rw [HYK.out]; decide)
          obtain ⟨sn, hsn⟩ : ∃ sn, (skewV s y xx.node).1 = sn := ⟨_, rfl⟩
          obtain ⟨so, hso⟩ : ∃ so, (skewV s y xx.node).2 = so := ⟨_, rfl⟩
          rw [hso] at hsk
          rw [hsn, hso]
          have HSN2 : Hid (wantV s y (s.pods.take (j + 1)) = M + if so = true then 1 else 0) := by
            show _ = _
            rw [HSN.out, HO.out, hsk]; simp
          replace HB := Lib.hid (Below.then HB.out hb)
          clear hb z zf q qf u uf hsk hsn hso HQ HQP HUB
          cases so with
          | false =>
            have HS3 : Hid (wantV s y (s.pods.take (j + 1)) = M) := HSN2.out
            go_wp2
            go_roundw
            case rel => exact ⟨j + 1, by omega, by go_num, by rw [HS3.out], HB.out⟩
            case measure => simp [intOf]; omega
          | true =>
            have HS3 : Hid (wantV s y (s.pods.take (j + 1)) = M + 1) := HSN2.out
            go_wp2
            go_roundw
            case rel => exact ⟨j + 1, by omega, by go_num, by rw [HS3.out]; go_num, HB.out⟩
            case measure => simp [intOf]; omega
        · obtain rfl : j = s.pods.length := by omega
          have HTK : Hid (wantV s y (s.pods.take s.pods.length) = N) := by show _ = _; rw [List.take_length]; exact HNN.out
          rw [HTK.out]
          go_wp2_with fail
          refine (Count_calls _ _ s y blank _ (Kd.V.mono (vw_below (Below.then HB1.out HB.out)) HVS.out) (Kd.V.mono (vw_below (Below.then HB1.out HB.out)) HVY.out)).mono ?_
          rintro e X2 ⟨rfl, hb⟩
          rw [no_where HC.out]
          replace HB := Lib.hid (Below.then (Below.then HB1.out HB.out) hb)
          clear hb z zf q qf
          go_wp2
          go_ret
          exact ⟨rfl, HB.out⟩
end Go.Proofs.Ytfbmfjmnpfidoaa
