import Derived.Test.YtfbmfjmnpfidoaaUsed
namespace Go.Proofs.Ytfbmfjmnpfidoaa
open Go.RowKit Go.Sort

theorem drew_below (w : World) : Below w.heap.size w w.drew := drewN_below w 1
theorem set5_below {B : Nat} {w0 w : World} {b : Nat} (h : Below B w0 w) (hb : B ≤ b) (v0 v1 v2 v3 v4 : Value) : Below B w0 (((((w.setCell ⟨b, 0, none⟩ v0).setCell ⟨b, 1, none⟩ v1).setCell ⟨b, 2, none⟩ v2).setCell ⟨b, 3, none⟩ v3).setCell ⟨b, 4, none⟩ v4) :=
  Below.setCells h hb [v0, v1, v2, v3, v4] 0
theorem set5_far {w : World} {b k : Nat} (h : k ≠ b) (v0 v1 v2 v3 v4 : Value) : (((((w.setCell ⟨b, 0, none⟩ v0).setCell ⟨b, 1, none⟩ v1).setCell ⟨b, 2, none⟩ v2).setCell ⟨b, 3, none⟩ v3).setCell ⟨b, 4, none⟩ v4).heap[k]? = w.heap[k]? :=
  setCells_far b [v0, v1, v2, v3, v4] 0 w k h
theorem cell_lt {w : World} {p : Addr} {v : Value} (h : w.cell? p = some v) : p.block < w.heap.size := by
  unfold World.cell? at h
  split at h
  · rename_i e; exact blk_lt e
  · cases h
theorem keep_cell {w w1 : World} (hb : Below w.heap.size w w1) {p : Addr} {v : Value} (h : w.cell? p = some v) : w1.cell? p = some v := by
  refine (hb.cell ?_).trans h
  unfold World.cell? at h
  split at h
  · rename_i e; exact blk_lt e
  · cases h
set_option maxHeartbeats 8000000 in
set_option maxRecDepth 100000 in
theorem Check_calls (v : Value) (s : St) (w : World) (hs : Kd.state.V (vw w []) v s) :
    Calls Try.prog 30 #[v] w (NumDone (checkSt s) w) := by
  obtain ⟨cs, rfl, hks⟩ := hs
  have hvs : Kd.state.V (vw w []) (.agg cs.toArray) s := ⟨cs, rfl, hks⟩
  obtain ⟨A1, c1, A2, c2, A3, c3, rfl, s1, s2, s3⟩ := hks
  have HVS := Lib.hid hvs
  clear hvs
  have S1 := Lib.hid s1
  have S2 := Lib.hid s2
  have S3 := Lib.hid s3
  clear s1 s2 s3
  have HX : Hid (orV (checkNodes s.nodes) (orV (checkPods s.pods) (orV (checkBudgets s.budgets) (orV (firstV (podV s) s.pods) (orV (firstV (roomV s) s.nodes) (totalV s).2)))) = checkSt s) := rfl
  go_enter Try.func30, Try.ntmps30
  have HB : Hid (Below w.heap.size w (w.alloc (.cells #[.slice A1 s.nodes.length c1, .slice A2 s.pods.length c2, .slice A3 s.budgets.length c3] 51))) := alloc_below _ _
  have HQ : Hid ((w.alloc (.cells #[.slice A1 s.nodes.length c1, .slice A2 s.pods.length c2, .slice A3 s.budgets.length c3] 51)).heap[w.heap.size]? = some (.cells #[.slice A1 s.nodes.length c1, .slice A2 s.pods.length c2, .slice A3 s.budgets.length c3] 51 (0, 0))) := blk_last _ _
  go_upto_region 1 with fail
  generalize w.alloc (.cells #[.slice A1 s.nodes.length c1, .slice A2 s.pods.length c2, .slice A3 s.budgets.length c3] 51) = W at HB HQ ⊢
  obtain ⟨z, zf⟩ := blk_all HQ.out
  go_wp2_with fail
  refine (CheckNodes_calls _ s.nodes _ (S1.out.mono (vw_below HB.out))).mono ?_
  rintro e w1 ⟨rfl, hb⟩
  obtain ⟨n1, hn1⟩ : ∃ n1, checkNodes s.nodes = n1 := ⟨_, rfl⟩
  rw [hn1]
  have hx := HX.out
  rw [hn1] at hx
  have HB1 := Lib.hid (Below.then HB.out hb)
  have q := (hb.block _ (blk_lt HQ.out)).trans HQ.out
  clear z zf HX HB HQ hb hn1
  have HB := HB1
  have HQ := Lib.hid q
  clear HB1
  obtain ⟨z, zf⟩ := blk_all q
  clear q
  by_cases h0 : n1 ≠ 0
  · rw [orV_l h0] at hx
    have HX := Lib.hid hx
    clear hx
    have t1 : (n1 == 0) = false := by simp [h0]
    go_wp2
    go_ret
    exact ⟨ret_i HX.out, HB.out⟩
  obtain rfl : n1 = 0 := Decidable.not_not.1 h0
  rw [orV_r rfl] at hx
  have HX := Lib.hid hx
  clear hx h0
  go_wp2_with fail
  refine (CheckPods_calls _ s.pods _ (S2.out.mono (vw_below HB.out))).mono ?_
  rintro e w1 ⟨rfl, hb⟩
  obtain ⟨n1, hn1⟩ : ∃ n1, checkPods s.pods = n1 := ⟨_, rfl⟩
  rw [hn1]
  have hx := HX.out
  rw [hn1] at hx
  have HB1 := Lib.hid (Below.then HB.out hb)
  have q := (hb.block _ (blk_lt HQ.out)).trans HQ.out
  clear z zf HX HB HQ hb hn1
  have HB := HB1
  have HQ := Lib.hid q
  clear HB1
  obtain ⟨z, zf⟩ := blk_all q
  clear q
  by_cases h0 : n1 ≠ 0
  · rw [orV_l h0] at hx
    have HX := Lib.hid hx
    clear hx
    have t1 : (n1 == 0) = false := by simp [h0]
    go_wp2
    go_ret
    exact ⟨ret_i HX.out, HB.out⟩
  obtain rfl : n1 = 0 := Decidable.not_not.1 h0
  rw [orV_r rfl] at hx
  have HX := Lib.hid hx
  clear hx h0
  go_wp2_with fail
  refine (CheckBudgets_calls _ s.budgets _ (S3.out.mono (vw_below HB.out))).mono ?_
  rintro e w1 ⟨rfl, hb⟩
  obtain ⟨n1, hn1⟩ : ∃ n1, checkBudgets s.budgets = n1 := ⟨_, rfl⟩
  rw [hn1]
  have hx := HX.out
  rw [hn1] at hx
  have HB1 := Lib.hid (Below.then HB.out hb)
  have q := (hb.block _ (blk_lt HQ.out)).trans HQ.out
  clear z zf HX HB HQ hb hn1
  have HB := HB1
  have HQ := Lib.hid q
  clear HB1
  obtain ⟨z, zf⟩ := blk_all q
  clear q
  by_cases h0 : n1 ≠ 0
  · rw [orV_l h0] at hx
    have HX := Lib.hid hx
    clear hx
    have t1 : (n1 == 0) = false := by simp [h0]
    go_wp2
    go_ret
    exact ⟨ret_i HX.out, HB.out⟩
  obtain rfl : n1 = 0 := Decidable.not_not.1 h0
  rw [orV_r rfl] at hx
  have HX := Lib.hid hx
  clear hx h0
  obtain ⟨-, f1, f1'⟩ := S1.out.form
  obtain ⟨-, f2, f2'⟩ := S2.out.form
  obtain ⟨R1, hR1⟩ : ∃ R1, orV (firstV (roomV s) s.nodes) (totalV s).2 = R1 := ⟨_, rfl⟩
  have hx := HX.out
  rw [hR1] at hx
  have HR1 := Lib.hid hR1
  clear HX hR1
  have HX := Lib.hid hx
  clear hx z zf
  obtain ⟨z, zf⟩ := blk_all HQ.out
  go_wp2
  clear z zf
  go_loopw [4] (fun i wr => ∃ k : Nat, k ≤ s.pods.length ∧ i = .int .i64 k ∧ Hid (orV (firstV (podV s) (s.pods.drop k)) R1 = checkSt s) ∧ Hid (Below w.heap.size w wr) ∧ Hid (wr.heap[w.heap.size]? = some (.cells #[.slice A1 s.nodes.length c1, .slice A2 s.pods.length c2, .slice A3 s.budgets.length c3] 51 (0, 0)))) (fun i _ => s.pods.length - (intOf i).toNat)
  case atStart => exact ⟨0, Nat.zero_le _, rfl, HX.out, HB.out, HQ.out⟩
  case round =>
    clear HX HB HQ
    obtain ⟨k, hk, rfl, HR, HB, HQ⟩ := hrel
    obtain ⟨z, zf⟩ := blk_all HQ.out
    by_cases hlt : k < s.pods.length
    · obtain ⟨b, off, cs, rfl, hn, hc⟩ := S2.out.both HB.out k hlt
      obtain ⟨E1, x1, E2, x2, E3, x3, E4, x4, rfl, -⟩ := hn
      have c9 : wr.cell? ⟨b, off + k * 11 + 9, none⟩ = some (.string s.pods[k].node) := hc 9 _ rfl
      have hr := HR.out
      rw [firstV_at _ hlt] at hr
      have e1 := empty_beq s.pods[k].node
      have hpv : podV s s.pods[k] = if decide (s.pods[k].node = ⟨#[]⟩) = false ∧ (findV s.nodes s.pods[k].node).2 = false then 3 else 0 := rfl
      obtain ⟨m, hm⟩ : ∃ m, decide (s.pods[k].node = ⟨#[]⟩) = m := ⟨_, rfl⟩
      rw [hm] at e1 hpv
      rw [hpv] at hr
      clear hc hm hpv
      cases m with
      | true =>
        rw [if_neg (by simp), orV_r rfl] at hr
        have HX := Lib.hid hr
        clear hr
        go_wp2
        go_roundw
        case rel => exact ⟨k + 1, by omega, by go_num, HX.out, HB.out, HQ.out⟩
        case measure => simp [intOf]; omega
      | false =>
        have HX := Lib.hid hr
        clear hr
        have HBL := Lib.hid (blk_lt HQ.out)
        have b1 : (0 : Int) ≤ (k : Int) := by omega
        have b2 : (k : Int) < (s.pods.length : Int) := by omega
        go_upto_region 14 with fail
        have hl0 := blk_lt HQ.out
        have hb0 : b < wr.heap.size := cell_lt c9
        have hle : w.heap.size ≤ wr.heap.size := by omega
        have hn1 : w.heap.size ≠ wr.heap.size := by omega
        have hn2 : b ≠ wr.heap.size := by omega
        have hn3 : wr.heap.size ≠ w.heap.size := by omega
        have hn4 : wr.heap.size ≠ b := by omega
        go_region_held3 (fun w' => w'.cell? ⟨w.heap.size, 0, none⟩ = some (.slice A1 s.nodes.length c1) ∧ w'.cell? ⟨w.heap.size, 1, none⟩ = some (.slice (some ⟨b, off, none⟩) s.pods.length c2) ∧ w'.cell? ⟨b, off + k * 11 + 9, none⟩ = some (.string s.pods[k].node))
          (first | with_reducible exact ⟨z 0, z 1, c9⟩ | go_keep | with_reducible exact ⟨keep_cell (alloc_below _ _) (z 0), keep_cell (alloc_below _ _) (z 1), keep_cell (alloc_below _ _) c9⟩) (first
          | (go_at_call 49; (with_reducible refine (FindNode_calls _ s.nodes s.pods[k].node _ (by with_reducible exact S1.out.mono (vw_below (Below.then HB.out (drew_below _))))).mono ?_); rintro e w1 ⟨cs, rfl, hk, hb⟩; obtain ⟨D1, g1, D2, g2, D3, g3, rfl, -⟩ := hk; replace HB := Lib.hid (Below.then (Below.then HB.out (drew_below _)) hb); have hq := (hb.block _ (blk_lt (w := wr.drew) HQ.out)).trans HQ.out; have c9' := keep_cell (w := wr.drew) hb c9; have hl1 := blk_lt hq; have hb1 := cell_lt c9'; replace HQ := Lib.hid hq; clear hb z zf c9 hq; have c9 := c9'; clear c9'; obtain ⟨z, zf⟩ := blk_all HQ.out)
          | (go_at_call 49; (with_reducible refine (FindNode_calls _ s.nodes s.pods[k].node _ (by with_reducible exact S1.out.mono (vw_below (Below.then (Below.then HB.out (alloc_below _ _)) (drew_below _))))).mono ?_); rintro e w1 ⟨cs, rfl, hk, hb⟩; obtain ⟨D1, g1, D2, g2, D3, g3, rfl, -⟩ := hk; have hq := (hb.block _ (by show _ < (World.alloc _ _).heap.size; simp; omega)).trans ((blk_old wr _ hl0).trans HQ.out); have hy := (hb.block wr.heap.size (by show _ < (World.alloc _ _).heap.size; simp)).trans (blk_last wr _); have hl2 := blk_lt hy; obtain ⟨y, yf⟩ := blk_all hy; have HY := Lib.hid hy; clear hy; have c9' := keep_cell hb (show (World.drew _).cell? _ = _ from keep_cell (alloc_below _ _) c9); replace HB := Lib.hid (Below.then (Below.then (Below.then HB.out (alloc_below _ _)) (drew_below _)) hb);  have hl1 := blk_lt hq; have hb1 := cell_lt c9'; replace HQ := Lib.hid hq; clear hb z zf c9 hq; have c9 := c9'; clear c9'; obtain ⟨z, zf⟩ := blk_all HQ.out))
        all_goals
          obtain ⟨fk, hfk⟩ : ∃ fk, (findV s.nodes s.pods[k].node).2 = fk := ⟨_, rfl⟩
          rw [hfk]
          have hx := HX.out
          rw [hfk] at hx
          clear HX hfk
          cases fk with
          | false =>
            have HX : Hid (3 = checkSt s) := hx
            clear hx
            go_wp2
            go_ret
            exact ⟨ret_i HX.out, by first | with_reducible exact alloc_then HB.out _ | with_reducible exact set5_below HB.out hle _ _ _ _ _⟩
          | true =>
            rw [if_neg (by simp), orV_r rfl] at hx
            have HX := Lib.hid hx
            clear hx
            go_wp2
            go_roundw
            case rel => exact ⟨k + 1, by omega, by go_num, HX.out, by first | with_reducible exact Lib.hid (alloc_then HB.out _) | with_reducible exact Lib.hid (set5_below HB.out hle _ _ _ _ _), by first | with_reducible exact Lib.hid ((blk_old _ _ hl1).trans HQ.out) | with_reducible exact Lib.hid ((set5_far hn1 _ _ _ _ _).trans HQ.out)⟩
            case measure => simp [intOf]; omega
    · obtain rfl : k = s.pods.length := by omega
      have hr := HR.out
      rw [List.drop_length, show firstV (podV s) [] = 0 from rfl, orV_r rfl, ← HR1.out] at hr
      obtain ⟨R2, hR2⟩ : ∃ R2, (totalV s).2 = R2 := ⟨_, rfl⟩
      rw [hR2] at hr
      have HX := Lib.hid hr
      have HR2 := Lib.hid hR2
      clear hr hR2 HR HR1
      go_wp2
      clear z zf
      go_loopw [7] (fun i wi => ∃ k : Nat, k ≤ s.nodes.length ∧ i = .int .i64 k ∧ Hid (orV (firstV (roomV s) (s.nodes.drop k)) R2 = checkSt s) ∧ Hid (Below w.heap.size w wi) ∧ Hid (wi.heap[w.heap.size]? = some (.cells #[.slice A1 s.nodes.length c1, .slice A2 s.pods.length c2, .slice A3 s.budgets.length c3] 51 (0, 0)))) (fun i _ => s.nodes.length - (intOf i).toNat)
      case atStart => exact ⟨0, Nat.zero_le _, rfl, HX.out, HB.out, HQ.out⟩
      case round =>
        clear HX HB HQ hk hlt
        obtain ⟨k, hk, rfl, HR, HB, HQ⟩ := hrel
        obtain ⟨z, zf⟩ := blk_all HQ.out
        by_cases hlt : k < s.nodes.length
        · obtain ⟨b, off, cs, rfl, hn, hc⟩ := S1.out.both HB.out k hlt
          obtain ⟨E1, x1, E2, x2, E3, x3, rfl, -, t1, -⟩ := hn
          have c9 : wr.cell? ⟨b, off + k * 5, none⟩ = some (.string s.nodes[k].name) := hc 0 _ rfl
          have T1 := Lib.hid t1
          have hr := HR.out
          rw [firstV_at _ hlt] at hr
          have hrv : roomV s s.nodes[k] = orV (usedV s s.nodes[k].name).2 (if fitsV (usedV s s.nodes[k].name).1 s.nodes[k].cap = false then 7 else 0) := rfl
          rw [hrv] at hr
          have HX := Lib.hid hr
          clear hc hr hrv t1
          have b1 : (0 : Int) ≤ (k : Int) := by omega
          have b2 : (k : Int) < (s.nodes.length : Int) := by omega
          go_upto_region 20 with fail
          go_region_held3 (fun w' => w'.cell? ⟨w.heap.size, 0, none⟩ = some (.slice (some ⟨b, off, none⟩) s.nodes.length c1) ∧ w'.cell? ⟨w.heap.size, 1, none⟩ = some (.slice A2 s.pods.length c2) ∧ w'.cell? ⟨w.heap.size, 2, none⟩ = some (.slice A3 s.budgets.length c3) ∧ w'.cell? ⟨b, off + k * 5, none⟩ = some (.string s.nodes[k].name))
            (first | with_reducible exact ⟨z 0, z 1, z 2, c9⟩ | go_keep) (first
            | (go_at_call 64; (with_reducible refine (Used_calls _ s s.nodes[k].name _ (by with_reducible exact Kd.V.mono (vw_below (Below.then HB.out (drew_below _))) HVS.out)).mono ?_); rintro e w1 ⟨C, cc, rfl, hs, hb⟩; replace HB := Lib.hid (Below.then (Below.then HB.out (drew_below _)) hb); have hq := (hb.block _ (blk_lt (w := wr.drew) HQ.out)).trans HQ.out; have c9' := keep_cell (w := wr.drew) hb c9; have HS := Lib.hid hs; replace HQ := Lib.hid hq; clear hb z zf c9 hq hs; have c9 := c9'; clear c9'; obtain ⟨z, zf⟩ := blk_all HQ.out))
          obtain ⟨l2, hl2⟩ : ∃ l2, (usedV s s.nodes[k].name).1 = l2 := ⟨_, rfl⟩
          obtain ⟨n1, hn1⟩ : ∃ n1, (usedV s s.nodes[k].name).2 = n1 := ⟨_, rfl⟩
          have hx := HX.out
          have hs := HS.out
          rw [hl2, hn1] at hx
          rw [hl2] at hs
          rw [hl2, hn1]
          clear HX HS hl2 hn1
          have HS := Lib.hid hs
          clear hs
          by_cases h0 : n1 ≠ 0
          · rw [orV_l h0, orV_l h0, orV_l h0] at hx
            have HX := Lib.hid hx
            clear hx
            have t1 : (n1 == 0) = false := by simp [h0]
            go_wp2
            go_ret
            exact ⟨ret_i HX.out, HB.out⟩
          obtain rfl : n1 = 0 := Decidable.not_not.1 h0
          rw [orV_r rfl] at hx
          have HX := Lib.hid hx
          clear hx h0
          obtain ⟨b', off', cs, hA, ⟨F1, y1, F2, y2, F3, y3, rfl, -, t1, -⟩, hc⟩ := S1.out.both HB.out k hlt
          injection hA with hA
          injection hA with e1 e2
          subst e1 e2
          have c8 : w1.cell? ⟨b, off + k * 5 + 1, none⟩ = some (.slice F1 s.nodes[k].cap.length y1) := hc 1 _ rfl
          have T2 := Lib.hid t1
          clear hc t1
          go_wp2_with fail
          refine (Fits_calls _ _ l2 s.nodes[k].cap _ HS.out (T2.out.mono (vw_below HB.out))).mono ?_
          rintro e w2 ⟨rfl, hb⟩
          obtain ⟨ft, hft⟩ : ∃ ft, fitsV l2 s.nodes[k].cap = ft := ⟨_, rfl⟩
          have hx := HX.out
          rw [hft] at hx
          rw [hft]
          have hq := (hb.block _ (blk_lt HQ.out)).trans HQ.out
          replace HB := Lib.hid (Below.then HB.out hb)
          replace HQ := Lib.hid hq
          clear hb hq hft HX z zf c8 c9
          obtain ⟨z, zf⟩ := blk_all HQ.out
          cases ft with
          | false =>
            have HX : Hid (7 = checkSt s) := hx
            clear hx
            go_wp2
            go_ret
            exact ⟨ret_i HX.out, HB.out⟩
          | true =>
            rw [if_neg (by simp), orV_r rfl] at hx
            have HX := Lib.hid hx
            clear hx
            go_wp2
            go_roundw
            case rel => exact ⟨k + 1, by omega, by go_num, HX.out, HB.out, HQ.out⟩
            case measure => simp [intOf]; omega
        · obtain rfl : k = s.nodes.length := by omega
          have hr := HR.out
          rw [List.drop_length, show firstV (roomV s) [] = 0 from rfl, orV_r rfl, ← HR2.out] at hr
          have HX := Lib.hid hr
          clear hr HR HR2
          go_wp2_with fail
          refine (Total_calls _ s _ (Kd.V.mono (vw_below HB.out) HVS.out)).mono ?_
          rintro e w2 ⟨C, cc, rfl, -, hb⟩
          replace HB := Lib.hid (Below.then HB.out hb)
          clear hb z zf
          go_wp2
          go_ret
          exact ⟨ret_i HX.out, HB.out⟩
end Go.Proofs.Ytfbmfjmnpfidoaa
