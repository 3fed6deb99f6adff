import Derived.Test.YtnmhicgbdalniaaGreatDoorMf1
import Derived.Test.YtnmhicgbdalniaaGreatDoorMf2
import Derived.Test.YtnmhicgbdalniaaGreatDoorMf3
import Derived.BigQuiet
import Derived.Deep.DeepMust
import Derived.IntWalk
import Derived.Deep.RegionHeld3
import Derived.Deep.DeepCutAuto
import Derived.Deep.CutBlock
import Derived.RegionDies
namespace Go.Proofs.YtnmhicgbdalniaaGreatDoor
open Go.RowKit Go.Sort

theorem drew_below (w : World) : Below w.heap.size w w.drew := drewN_below w 1
theorem set5_below {B : Nat} {w0 w : World} {b : Nat} (h : Below B w0 w) (hb : B ≤ b) (v0 v1 v2 v3 v4 : Value) : Below B w0 (((((w.setCell ⟨b, 0, none⟩ v0).setCell ⟨b, 1, none⟩ v1).setCell ⟨b, 2, none⟩ v2).setCell ⟨b, 3, none⟩ v3).setCell ⟨b, 4, none⟩ v4) :=
  Below.setCells h hb [v0, v1, v2, v3, v4] 0
theorem set5_far {w : World} {b k : Nat} (h : k ≠ b) (v0 v1 v2 v3 v4 : Value) : (((((w.setCell ⟨b, 0, none⟩ v0).setCell ⟨b, 1, none⟩ v1).setCell ⟨b, 2, none⟩ v2).setCell ⟨b, 3, none⟩ v3).setCell ⟨b, 4, none⟩ v4).heap[k]? = w.heap[k]? :=
  setCells_far b [v0, v1, v2, v3, v4] 0 w k h
theorem cell_lt {w : World} {p : Addr} {v : Value} (h : w.cell? p = some v) : p.block < w.heap.size := by
  unfold World.cell? at h
  split at h
  · rename_i e; exact blk_lt e
  · cases h
theorem keep_cell {w w1 : World} (hb : Below w.heap.size w w1) {p : Addr} {v : Value} (h : w.cell? p = some v) : w1.cell? p = some v := by
  refine (hb.cell ?_).trans h
  unfold World.cell? at h
  split at h
  · rename_i e; exact blk_lt e
  · cases h
set_option maxHeartbeats 8000000 in
set_option maxRecDepth 100000 in
theorem Check_calls (v : Value) (s : St) (w : World) (hs : Kd.state.V (vw w []) v s) :
    Calls Tryz.prog 69 #[v] w (NumDone (checkSt s) w) := by
  obtain ⟨cs, rfl, hks⟩ := hs
  have hvs : Kd.state.V (vw w []) (.agg cs.toArray) s := ⟨cs, rfl, hks⟩
  obtain ⟨A1, c1, A2, c2, A3, c3, rfl, s1, s2, s3⟩ := hks
  have HVS := Lib.hid hvs
  clear hvs
  have S1 := Lib.hid s1
  have S2 := Lib.hid s2
  have S3 := Lib.hid s3
  clear s1 s2 s3
  have HX : Hid (orV (checkNodes s.nodes) (orV (checkPods s.pods) (orV (checkBudgets s.budgets) (orV (firstV (podV s) s.pods) (orV (firstV (roomV s) s.nodes) (totalV s).2)))) = checkSt s) := rfl
  go_enter Tryz.func69, Tryz.ntmps69
  have HB : Hid (Below w.heap.size w (w.alloc (.cells #[.slice A1 s.nodes.length c1, .slice A2 s.pods.length c2, .slice A3 s.budgets.length c3] 51))) := alloc_below _ _
  have HQ : Hid ((w.alloc (.cells #[.slice A1 s.nodes.length c1, .slice A2 s.pods.length c2, .slice A3 s.budgets.length c3] 51)).heap[w.heap.size]? = some (.cells #[.slice A1 s.nodes.length c1, .slice A2 s.pods.length c2, .slice A3 s.budgets.length c3] 51 (0, 0))) := blk_last _ _
  go_upto_region 1 with fail
  generalize w.alloc (.cells #[.slice A1 s.nodes.length c1, .slice A2 s.pods.length c2, .slice A3 s.budgets.length c3] 51) = W at HB HQ ⊢
  obtain ⟨z, zf⟩ := blk_all HQ.out
  go_wp2_with fail
  refine (CheckNodes_calls _ s.nodes _ (S1.out.mono (vw_below HB.out))).mono ?_
  rintro e w1 ⟨rfl, hb⟩
  obtain ⟨n1, hn1⟩ : ∃ n1, checkNodes s.nodes = n1 := ⟨_, rfl⟩
  rw [hn1]
  have hx := HX.out
  rw [hn1] at hx
  have HB1 := Lib.hid (Below.then HB.out hb)
  have q := (hb.block _ (blk_lt HQ.out)).trans HQ.out
  clear z zf HX HB HQ hb hn1
  have HB := HB1
  have HQ := Lib.hid q
  clear HB1
  obtain ⟨z, zf⟩ := blk_all q
  clear q
  by_cases h0 : n1 ≠ 0
  · rw [orV_l h0] at hx
    have HX := Lib.hid hx
    clear hx
    have t1 : (n1 == 0) = false := by simp [h0]
    go_wp2
    go_ret
    exact ⟨ret_i HX.out, HB.out⟩
  obtain rfl : n1 = 0 := Decidable.not_not.1 h0
  rw [orV_r rfl] at hx
  have HX := Lib.hid hx
  clear hx h0
  go_wp2_with fail
  refine (CheckPods_calls _ s.pods _ (S2.out.mono (vw_below HB.out))).mono ?_
  rintro e w1 ⟨rfl, hb⟩
  obtain ⟨n1, hn1⟩ : ∃ n1, checkPods s.pods = n1 := ⟨_, rfl⟩
  rw [hn1]
  have hx := HX.out
  rw [hn1] at hx
  have HB1 := Lib.hid (Below.then HB.out hb)
  have q := (hb.block _ (blk_lt HQ.out)).trans HQ.out
  clear z zf HX HB HQ hb hn1
  have HB := HB1
  have HQ := Lib.hid q
  clear HB1
  obtain ⟨z, zf⟩ := blk_all q
  clear q
  by_cases h0 : n1 ≠ 0
  · rw [orV_l h0] at hx
    have HX := Lib.hid hx
    clear hx
    have t1 : (n1 == 0) = false := by simp [h0]
    go_wp2
    go_ret
    exact ⟨ret_i HX.out, HB.out⟩
  obtain rfl : n1 = 0 := Decidable.not_not.1 h0
  rw [orV_r rfl] at hx
  have HX := Lib.hid hx
  clear hx h0
  go_wp2_with fail
  refine (CheckBudgets_calls _ s.budgets _ (S3.out.mono (vw_below HB.out))).mono ?_
  rintro e w1 ⟨rfl, hb⟩
  obtain ⟨n1, hn1⟩ : ∃ n1, checkBudgets s.budgets = n1 := ⟨_, rfl⟩
  rw [hn1]
  have hx := HX.out
  rw [hn1] at hx
  have HB1 := Lib.hid (Below.then HB.out hb)
  have q := (hb.block _ (blk_lt HQ.out)).trans HQ.out
  clear z zf HX HB HQ hb hn1
  have HB := HB1
  have HQ := Lib.hid q
  clear HB1
  obtain ⟨z, zf⟩ := blk_all q
  clear q
  by_cases h0 : n1 ≠ 0
  · rw [orV_l h0] at hx
    have HX := Lib.hid hx
    clear hx
    have t1 : (n1 == 0) = false := by simp [h0]
    go_wp2
    go_ret
    exact ⟨ret_i HX.out, HB.out⟩
  obtain rfl : n1 = 0 := Decidable.not_not.1 h0
  rw [orV_r rfl] at hx
  have HX := Lib.hid hx
  clear hx h0
  obtain ⟨-, f1, f1'⟩ := S1.out.form
  obtain ⟨-, f2, f2'⟩ := S2.out.form
  obtain ⟨R1, hR1⟩ : ∃ R1, orV (firstV (roomV s) s.nodes) (totalV s).2 = R1 := ⟨_, rfl⟩
  have hx := HX.out
  rw [hR1] at hx
  have HR1 := Lib.hid hR1
  clear HX hR1
  have HX := Lib.hid hx
  clear hx z zf
  obtain ⟨z, zf⟩ := blk_all HQ.out
  go_wp2
  clear z zf
  go_loopw [4] (fun i wr => ∃ k : Nat, k ≤ s.pods.length ∧ i = .int .i64 k ∧ Hid (orV (firstV (podV s) (s.pods.drop k)) R1 = checkSt s) ∧ Hid (Below w.heap.size w wr) ∧ Hid (wr.heap[w.heap.size]? = some (.cells #[.slice A1 s.nodes.length c1, .slice A2 s.pods.length c2, .slice A3 s.budgets.length c3] 51 (0, 0)))) (fun i _ => s.pods.length - (intOf i).toNat)
  case atStart => exact ⟨0, Nat.zero_le _, rfl, HX.out, HB.out, HQ.out⟩
  case round =>
    clear HX HB HQ
    obtain ⟨k, hk, rfl, HR, HB, HQ⟩ := hrel
    obtain ⟨z, zf⟩ := blk_all HQ.out
    by_cases hlt : k < s.pods.length
    · obtain ⟨b, off, cs, rfl, hn, hc⟩ := S2.out.both HB.out k hlt
      obtain ⟨E1, x1, E2, x2, E3, x3, E4, x4, rfl, -⟩ := hn
      have c9 : wr.cell? ⟨b, off + k * 11 + 9, none⟩ = some (.string s.pods[k].node) := hc 9 _ rfl
      have hr := HR.out
      rw [firstV_at _ hlt] at hr
      have e1 := empty_beq s.pods[k].node
      have hpv : podV s s.pods[k] = if decide (s.pods[k].node = ⟨#[]⟩) = false ∧ (findV s.nodes s.pods[k].node).2 = false then 3 else 0 := rfl
      obtain ⟨m, hm⟩ : ∃ m, decide (s.pods[k].node = ⟨#[]⟩) = m := ⟨_, rfl⟩
      rw [hm] at e1 hpv
      rw [hpv] at hr
      clear hc hm hpv
      cases m with
      | true =>
        rw [if_neg (by simp), orV_r rfl] at hr
        have HX := Lib.hid hr
        clear hr
        go_wp2
        go_roundw
        case rel => exact ⟨k + 1, by omega, by go_num, HX.out, HB.out, HQ.out⟩
        case measure => simp [intOf]; omega
      | false =>
        have HX := Lib.hid hr
        clear hr
        have HBL := Lib.hid (blk_lt HQ.out)
        have b1 : (0 : Int) ≤ (k : Int) := by omega
        have b2 : (k : Int) < (s.pods.length : Int) := by omega
        go_upto_region 14 with fail
        have hl0 := blk_lt HQ.out
        have hb0 : b < wr.heap.size := cell_lt c9
        have hle : w.heap.size ≤ wr.heap.size := by omega
        have hn1 : w.heap.size ≠ wr.heap.size := by omega
        have hn2 : b ≠ wr.heap.size := by omega
        have hn3 : wr.heap.size ≠ w.heap.size := by omega
        have hn4 : wr.heap.size ≠ b := by omega
        go_region_held3 (fun w' => w'.cell? ⟨w.heap.size, 0, none⟩ = some (.slice A1 s.nodes.length c1) ∧ w'.cell? ⟨w.heap.size, 1, none⟩ = some (.slice (some ⟨b, off, none⟩) s.pods.length c2) ∧ w'.cell? ⟨b, off + k * 11 + 9, none⟩ = some (.string s.pods[k].node))
          (first | with_reducible exact ⟨z 0, z 1, c9⟩ | go_keep | with_reducible exact ⟨keep_cell (alloc_below _ _) (z 0), keep_cell (alloc_below _ _) (z 1), keep_cell (alloc_below _ _) c9⟩) (first
          | (go_at_call 129; (with_reducible refine (FindNode_calls _ s.nodes s.pods[k].node _ (by with_reducible exact S1.out.mono (vw_below (Below.then HB.out (drew_below _))))).mono ?_); rintro e w1 ⟨cs, rfl, hk, hb⟩; obtain ⟨D1, g1, D2, g2, D3, g3, rfl, -⟩ := hk; replace HB := Lib.hid (Below.then (Below.then HB.out (drew_below _)) hb); have hq := (hb.block _ (blk_lt (w := wr.drew) HQ.out)).trans HQ.out; have c9' := keep_cell (w := wr.drew) hb c9; have hl1 := blk_lt hq; have hb1 := cell_lt c9'; replace HQ := Lib.hid hq; clear hb z zf c9 hq; have c9 := c9'; clear c9'; obtain ⟨z, zf⟩ := blk_all HQ.out)
          | (go_at_call 129; (with_reducible refine (FindNode_calls _ s.nodes s.pods[k].node _ (by with_reducible exact S1.out.mono (vw_below (Below.then (Below.then HB.out (alloc_below _ _)) (drew_below _))))).mono ?_); rintro e w1 ⟨cs, rfl, hk, hb⟩; obtain ⟨D1, g1, D2, g2, D3, g3, rfl, -⟩ := hk; have hq := (hb.block _ (by show _ < (World.alloc _ _).heap.size; simp; omega)).trans ((blk_old wr _ hl0).trans HQ.out); have hy := (hb.block wr.heap.size (by show _ < (World.alloc _ _).heap.size; simp)).trans (blk_last wr _); have hl2 := blk_lt hy; obtain ⟨y, yf⟩ := blk_all hy; have HY := Lib.hid hy; clear hy; have c9' := keep_cell hb (show (World.drew _).cell? _ = _ from keep_cell (alloc_below _ _) c9); replace HB := Lib.hid (Below.then (Below.then (Below.then HB.out (alloc_below _ _)) (drew_below _)) hb);  have hl1 := blk_lt hq; have hb1 := cell_lt c9'; replace HQ := Lib.hid hq; clear hb z zf c9 hq; have c9 := c9'; clear c9'; obtain ⟨z, zf⟩ := blk_all HQ.out))
        all_goals
          obtain ⟨fk, hfk⟩ : ∃ fk, (findV s.nodes s.pods[k].node).2 = fk := ⟨_, rfl⟩
          rw [hfk]
          have hx := HX.out
          rw [hfk] at hx
          clear HX hfk
          cases fk with
          | false =>
            have HX : Hid (3 = checkSt s) := hx
            clear hx
            go_wp2
            go_ret
            exact ⟨ret_i HX.out, by first | with_reducible exact alloc_then HB.out _ | with_reducible exact set5_below HB.out hle _ _ _ _ _⟩
          | true =>
            rw [if_neg (by simp), orV_r rfl] at hx
            have HX := Lib.hid hx
            clear hx
            go_wp2
            go_roundw
            case rel => exact ⟨k + 1, by omega, by go_num, HX.out, by first | with_reducible exact Lib.hid (alloc_then HB.out _) | with_reducible exact Lib.hid (set5_below HB.out hle _ _ _ _ _), by first | with_reducible exact Lib.hid ((blk_old _ _ hl1).trans HQ.out) | with_reducible exact Lib.hid ((set5_far hn1 _ _ _ _ _).trans HQ.out)⟩
            case measure => simp [intOf]; omega
    · obtain rfl : k = s.pods.length := by omega
      have hr := HR.out
      rw [List.drop_length, show firstV (podV s) [] = 0 from rfl, orV_r rfl, ← HR1.out] at hr
      obtain ⟨R2, hR2⟩ : ∃ R2, (totalV s).2 = R2 := ⟨_, rfl⟩
      rw [hR2] at hr
      have HX := Lib.hid hr
      have HR2 := Lib.hid hR2
      clear hr hR2 HR HR1
      go_wp2
      clear z zf
      go_loopw [7] (fun i wi => ∃ k : Nat, k ≤ s.nodes.length ∧ i = .int .i64 k ∧ Hid (orV (firstV (roomV s) (s.nodes.drop k)) R2 = checkSt s) ∧ Hid (Below w.heap.size w wi) ∧ Hid (wi.heap[w.heap.size]? = some (.cells #[.slice A1 s.nodes.length c1, .slice A2 s.pods.length c2, .slice A3 s.budgets.length c3] 51 (0, 0)))) (fun i _ => s.nodes.length - (intOf i).toNat)
      case atStart => exact ⟨0, Nat.zero_le _, rfl, HX.out, HB.out, HQ.out⟩
      case round =>
        clear HX HB HQ hk hlt
        obtain ⟨k, hk, rfl, HR, HB, HQ⟩ := hrel
        obtain ⟨z, zf⟩ := blk_all HQ.out
        by_cases hlt : k < s.nodes.length
        · obtain ⟨b, off, cs, rfl, hn, hc⟩ := S1.out.both HB.out k hlt
          obtain ⟨E1, x1, E2, x2, E3, x3, rfl, -, t1, -⟩ := hn
          have c9 : wr.cell? ⟨b, off + k * 5, none⟩ = some (.string s.nodes[k].name) := hc 0 _ rfl
          have T1 := Lib.hid t1
          have hr := HR.out
          rw [firstV_at _ hlt] at hr
          have hrv : roomV s s.nodes[k] = orV (usedV s s.nodes[k].name).2 (if fitsV (usedV s s.nodes[k].name).1 s.nodes[k].cap = false then 7 else 0) := rfl
          rw [hrv] at hr
          have HX := Lib.hid hr
          clear hc hr hrv t1
          have b1 : (0 : Int) ≤ (k : Int) := by omega
          have b2 : (k : Int) < (s.nodes.length : Int) := by omega
          go_upto_region 20 with fail
          go_region_held3 (fun w' => w'.cell? ⟨w.heap.size, 0, none⟩ = some (.slice (some ⟨b, off, none⟩) s.nodes.length c1) ∧ w'.cell? ⟨w.heap.size, 1, none⟩ = some (.slice A2 s.pods.length c2) ∧ w'.cell? ⟨w.heap.size, 2, none⟩ = some (.slice A3 s.budgets.length c3) ∧ w'.cell? ⟨b, off + k * 5, none⟩ = some (.string s.nodes[k].name))
            (first | with_reducible exact ⟨z 0, z 1, z 2, c9⟩ | go_keep) (first
            | (go_at_call 131; (with_reducible refine (Used_calls _ s s.nodes[k].name _ (by with_reducible exact Kd.V.mono (vw_below (Below.then HB.out (drew_below _))) HVS.out)).mono ?_); rintro e w1 ⟨C, cc, rfl, hs, hb⟩; replace HB := Lib.hid (Below.then (Below.then HB.out (drew_below _)) hb); have hq := (hb.block _ (blk_lt (w := wr.drew) HQ.out)).trans HQ.out; have c9' := keep_cell (w := wr.drew) hb c9; have HS := Lib.hid hs; replace HQ := Lib.hid hq; clear hb z zf c9 hq hs; have c9 := c9'; clear c9'; obtain ⟨z, zf⟩ := blk_all HQ.out))
          obtain ⟨l2, hl2⟩ : ∃ l2, (usedV s s.nodes[k].name).1 = l2 := ⟨_, rfl⟩
          obtain ⟨n1, hn1⟩ : ∃ n1, (usedV s s.nodes[k].name).2 = n1 := ⟨_, rfl⟩
          have hx := HX.out
          have hs := HS.out
          rw [hl2, hn1] at hx
          rw [hl2] at hs
          rw [hl2, hn1]
          clear HX HS hl2 hn1
          have HS := Lib.hid hs
          clear hs
          by_cases h0 : n1 ≠ 0
          · rw [orV_l h0, orV_l h0, orV_l h0] at hx
            have HX := Lib.hid hx
            clear hx
            have t1 : (n1 == 0) = false := by simp [h0]
            go_wp2
            go_ret
            exact ⟨ret_i HX.out, HB.out⟩
          obtain rfl : n1 = 0 := Decidable.not_not.1 h0
          rw [orV_r rfl] at hx
          have HX := Lib.hid hx
          clear hx h0
          obtain ⟨b', off', cs, hA, ⟨F1, y1, F2, y2, F3, y3, rfl, -, t1, -⟩, hc⟩ := S1.out.both HB.out k hlt
          injection hA with hA
          injection hA with e1 e2
          subst e1 e2
          have c8 : w1.cell? ⟨b, off + k * 5 + 1, none⟩ = some (.slice F1 s.nodes[k].cap.length y1) := hc 1 _ rfl
          have T2 := Lib.hid t1
          clear hc t1
          go_wp2_with fail
          refine (Fits_calls _ _ l2 s.nodes[k].cap _ HS.out (T2.out.mono (vw_below HB.out))).mono ?_
          rintro e w2 ⟨rfl, hb⟩
          obtain ⟨ft, hft⟩ : ∃ ft, fitsV l2 s.nodes[k].cap = ft := ⟨_, rfl⟩
          have hx := HX.out
          rw [hft] at hx
          rw [hft]
          have hq := (hb.block _ (blk_lt HQ.out)).trans HQ.out
          replace HB := Lib.hid (Below.then HB.out hb)
          replace HQ := Lib.hid hq
          clear hb hq hft HX z zf c8 c9
          obtain ⟨z, zf⟩ := blk_all HQ.out
          cases ft with
          | false =>
            have HX : Hid (7 = checkSt s) := hx
            clear hx
            go_wp2
            go_ret
            exact ⟨ret_i HX.out, HB.out⟩
          | true =>
            rw [if_neg (by simp), orV_r rfl] at hx
            have HX := Lib.hid hx
            clear hx
            go_wp2
            go_roundw
            case rel => exact ⟨k + 1, by omega, by go_num, HX.out, HB.out, HQ.out⟩
            case measure => simp [intOf]; omega
        · obtain rfl : k = s.nodes.length := by omega
          have hr := HR.out
          rw [List.drop_length, show firstV (roomV s) [] = 0 from rfl, orV_r rfl, ← HR2.out] at hr
          have HX := Lib.hid hr
          clear hr HR HR2
          go_wp2_with fail
          refine (Total_calls _ s _ (Kd.V.mono (vw_below HB.out) HVS.out)).mono ?_
          rintro e w2 ⟨C, cc, rfl, -, hb⟩
          replace HB := Lib.hid (Below.then HB.out hb)
          clear hb z zf
          go_wp2
          go_ret
          exact ⟨ret_i HX.out, HB.out⟩
end Go.Proofs.YtnmhicgbdalniaaGreatDoor
namespace Go.Proofs.YtnmhicgbdalniaaGreatDoor
open Go.RowKit

/-- What a test tells: where it is true, this holds. -/
def FewIf (P : Prop) (w : World) (e : Ending) (w' : World) : Prop := ∃ r, e = .returned (.bool r) ∧ (r = true → P) ∧ w = w'
def FewL {α : Type} (l : List α) (p : α → Prop) : Prop := l.length ≤ 20 ∧ ∀ x ∈ l, p x
def Amt.Few (x : Amt) : Prop := x.name.size ≤ 50
def Pair.Few (x : Pair) : Prop := x.key.size ≤ 50 ∧ x.val.size ≤ 50
def Term.Few (x : Term) : Prop := x.key.size ≤ 50 ∧ x.val.size ≤ 50
def Tnt.Few (x : Tnt) : Prop := x.key.size ≤ 50 ∧ x.val.size ≤ 50

set_option maxHeartbeats 1000000 in
theorem Few2_calls (v : Value) (l : List Amt) (w : World) (hs : Kd.amt.S (vw w []) v l) : Calls Tryz.prog 70 #[v] w (FewIf (FewL l Amt.Few) w) := by
  obtain ⟨A, cap, rfl, hs⟩ := hs.val
  obtain ⟨-, hcap, hlen⟩ := hs.form
  have HS := Lib.hid hs
  clear hs
  go_enter Tryz.func70, Tryz.ntmps70
  by_cases h60 : 20 < l.length
  · go_wp2
    go_ret
    exact ⟨_, rfl, (fun h => by cases h), rfl⟩
  · go_wp2
    go_loop [3] (fun i => ∃ k : Nat, k ≤ l.length ∧ i = .int .i64 k ∧ Hid (∀ j, (h : j < l.length) → j < k → (l[j]).Few)) (fun i => l.length - (intOf i).toNat)
    case atStart => exact ⟨0, Nat.zero_le _, rfl, fun _ _ h => by omega⟩
    case round =>
      obtain ⟨k, hk, rfl, HR⟩ := hrel
      by_cases hlt : k < l.length
      · obtain ⟨b, off, rfl, hc, hp⟩ := HS.out.elemN k hlt
        have c0 : w.cell? ⟨b, off + k * 2, none⟩ = some (.string l[k].name) := hc 0 _ rfl
        clear hc
        by_cases h5 : 50 < (l[k].name).size
        · go_wp2
          go_ret
          exact ⟨_, rfl, (fun h => by cases h), rfl⟩
        have HF : Hid ((l[k]).Few) := by show (l[k]).name.size ≤ 50; omega
        go_wp2
        go_round
        case rel => exact ⟨k + 1, by omega, by go_num, fun j h hj => by
          by_cases e : j = k
          · subst e; exact HF.out
          · exact HR.out j h (by omega)⟩
        case measure => simp [intOf]; omega
      · go_wp2
        go_ret
        exact ⟨_, rfl, fun _ => ⟨by omega, fun x hx => by
          obtain ⟨j, hj, rfl⟩ := List.getElem_of_mem hx
          exact HR.out j hj (by omega)⟩, rfl⟩

set_option maxHeartbeats 1000000 in
theorem Few4_calls (v : Value) (l : List Pair) (w : World) (hs : Kd.pair.S (vw w []) v l) : Calls Tryz.prog 71 #[v] w (FewIf (FewL l Pair.Few) w) := by
  obtain ⟨A, cap, rfl, hs⟩ := hs.val
  obtain ⟨-, hcap, hlen⟩ := hs.form
  have HS := Lib.hid hs
  clear hs
  go_enter Tryz.func71, Tryz.ntmps71
  by_cases h60 : 20 < l.length
  · go_wp2
    go_ret
    exact ⟨_, rfl, (fun h => by cases h), rfl⟩
  · go_wp2
    go_loop [3] (fun i => ∃ k : Nat, k ≤ l.length ∧ i = .int .i64 k ∧ Hid (∀ j, (h : j < l.length) → j < k → (l[j]).Few)) (fun i => l.length - (intOf i).toNat)
    case atStart => exact ⟨0, Nat.zero_le _, rfl, fun _ _ h => by omega⟩
    case round =>
      obtain ⟨k, hk, rfl, HR⟩ := hrel
      by_cases hlt : k < l.length
      · obtain ⟨b, off, rfl, hc, hp⟩ := HS.out.elemN k hlt
        have c0 : w.cell? ⟨b, off + k * 2, none⟩ = some (.string l[k].key) := hc 0 _ rfl
        have c1 : w.cell? ⟨b, off + k * 2 + 1, none⟩ = some (.string l[k].val) := hc 1 _ rfl
        clear hc
        by_cases h5 : 50 < (l[k].key).size
        · go_wp2
          go_ret
          exact ⟨_, rfl, (fun h => by cases h), rfl⟩
        by_cases h6 : 50 < (l[k].val).size
        · go_wp2
          go_ret
          exact ⟨_, rfl, (fun h => by cases h), rfl⟩
        have HF : Hid ((l[k]).Few) := ⟨by omega, by omega⟩
        go_wp2
        go_round
        case rel => exact ⟨k + 1, by omega, by go_num, fun j h hj => by
          by_cases e : j = k
          · subst e; exact HF.out
          · exact HR.out j h (by omega)⟩
        case measure => simp [intOf]; omega
      · go_wp2
        go_ret
        exact ⟨_, rfl, fun _ => ⟨by omega, fun x hx => by
          obtain ⟨j, hj, rfl⟩ := List.getElem_of_mem hx
          exact HR.out j hj (by omega)⟩, rfl⟩

set_option maxHeartbeats 1000000 in
theorem FewSel4_calls (v : Value) (l : List Term) (w : World) (hs : Kd.term.S (vw w []) v l) : Calls Tryz.prog 72 #[v] w (FewIf (FewL l Term.Few) w) := by
  obtain ⟨A, cap, rfl, hs⟩ := hs.val
  obtain ⟨-, hcap, hlen⟩ := hs.form
  have HS := Lib.hid hs
  clear hs
  go_enter Tryz.func72, Tryz.ntmps72
  by_cases h60 : 20 < l.length
  · go_wp2
    go_ret
    exact ⟨_, rfl, (fun h => by cases h), rfl⟩
  · go_wp2
    go_loop [3] (fun i => ∃ k : Nat, k ≤ l.length ∧ i = .int .i64 k ∧ Hid (∀ j, (h : j < l.length) → j < k → (l[j]).Few)) (fun i => l.length - (intOf i).toNat)
    case atStart => exact ⟨0, Nat.zero_le _, rfl, fun _ _ h => by omega⟩
    case round =>
      obtain ⟨k, hk, rfl, HR⟩ := hrel
      by_cases hlt : k < l.length
      · obtain ⟨b, off, rfl, hc, hp⟩ := HS.out.elemN k hlt
        have c1 : w.cell? ⟨b, off + k * 3 + 1, none⟩ = some (.string l[k].key) := hc 1 _ rfl
        have c2 : w.cell? ⟨b, off + k * 3 + 2, none⟩ = some (.string l[k].val) := hc 2 _ rfl
        clear hc
        by_cases h5 : 50 < (l[k].key).size
        · go_wp2
          go_ret
          exact ⟨_, rfl, (fun h => by cases h), rfl⟩
        by_cases h6 : 50 < (l[k].val).size
        · go_wp2
          go_ret
          exact ⟨_, rfl, (fun h => by cases h), rfl⟩
        have HF : Hid ((l[k]).Few) := ⟨by omega, by omega⟩
        go_wp2
        go_round
        case rel => exact ⟨k + 1, by omega, by go_num, fun j h hj => by
          by_cases e : j = k
          · subst e; exact HF.out
          · exact HR.out j h (by omega)⟩
        case measure => simp [intOf]; omega
      · go_wp2
        go_ret
        exact ⟨_, rfl, fun _ => ⟨by omega, fun x hx => by
          obtain ⟨j, hj, rfl⟩ := List.getElem_of_mem hx
          exact HR.out j hj (by omega)⟩, rfl⟩

set_option maxHeartbeats 1000000 in
theorem Few5_calls (v : Value) (l : List Tnt) (w : World) (hs : Kd.tnt.S (vw w []) v l) : Calls Tryz.prog 236 #[v] w (FewIf (FewL l Tnt.Few) w) := by
  obtain ⟨A, cap, rfl, hs⟩ := hs.val
  obtain ⟨-, hcap, hlen⟩ := hs.form
  have HS := Lib.hid hs
  clear hs
  go_enter Tryz.func236, Tryz.ntmps236
  by_cases h60 : 20 < l.length
  · go_wp2
    go_ret
    exact ⟨_, rfl, (fun h => by cases h), rfl⟩
  · go_wp2
    go_loop [3] (fun i => ∃ k : Nat, k ≤ l.length ∧ i = .int .i64 k ∧ Hid (∀ j, (h : j < l.length) → j < k → (l[j]).Few)) (fun i => l.length - (intOf i).toNat)
    case atStart => exact ⟨0, Nat.zero_le _, rfl, fun _ _ h => by omega⟩
    case round =>
      obtain ⟨k, hk, rfl, HR⟩ := hrel
      by_cases hlt : k < l.length
      · obtain ⟨b, off, rfl, hc, hp⟩ := HS.out.elemN k hlt
        have c0 : w.cell? ⟨b, off + k * 3, none⟩ = some (.string l[k].key) := hc 0 _ rfl
        have c1 : w.cell? ⟨b, off + k * 3 + 1, none⟩ = some (.string l[k].val) := hc 1 _ rfl
        clear hc
        by_cases h5 : 50 < (l[k].key).size
        · go_wp2
          go_ret
          exact ⟨_, rfl, (fun h => by cases h), rfl⟩
        by_cases h6 : 50 < (l[k].val).size
        · go_wp2
          go_ret
          exact ⟨_, rfl, (fun h => by cases h), rfl⟩
        have HF : Hid ((l[k]).Few) := ⟨by omega, by omega⟩
        go_wp2
        go_round
        case rel => exact ⟨k + 1, by omega, by go_num, fun j h hj => by
          by_cases e : j = k
          · subst e; exact HF.out
          · exact HR.out j h (by omega)⟩
        case measure => simp [intOf]; omega
      · go_wp2
        go_ret
        exact ⟨_, rfl, fun _ => ⟨by omega, fun x hx => by
          obtain ⟨j, hj, rfl⟩ := List.getElem_of_mem hx
          exact HR.out j hj (by omega)⟩, rfl⟩

set_option maxHeartbeats 1000000 in
theorem FewTols5_calls (v : Value) (l : List Tnt) (w : World) (hs : Kd.tnt.S (vw w []) v l) : Calls Tryz.prog 73 #[v] w (FewIf (FewL l Tnt.Few) w) := by
  obtain ⟨A, cap, rfl, hs⟩ := hs.val
  obtain ⟨-, hcap, hlen⟩ := hs.form
  have HS := Lib.hid hs
  clear hs
  go_enter Tryz.func73, Tryz.ntmps73
  by_cases h60 : 20 < l.length
  · go_wp2
    go_ret
    exact ⟨_, rfl, (fun h => by cases h), rfl⟩
  · go_wp2
    go_loop [3] (fun i => ∃ k : Nat, k ≤ l.length ∧ i = .int .i64 k ∧ Hid (∀ j, (h : j < l.length) → j < k → (l[j]).Few)) (fun i => l.length - (intOf i).toNat)
    case atStart => exact ⟨0, Nat.zero_le _, rfl, fun _ _ h => by omega⟩
    case round =>
      obtain ⟨k, hk, rfl, HR⟩ := hrel
      by_cases hlt : k < l.length
      · obtain ⟨b, off, rfl, hc, hp⟩ := HS.out.elemN k hlt
        have c0 : w.cell? ⟨b, off + k * 3, none⟩ = some (.string l[k].key) := hc 0 _ rfl
        have c1 : w.cell? ⟨b, off + k * 3 + 1, none⟩ = some (.string l[k].val) := hc 1 _ rfl
        clear hc
        by_cases h5 : 50 < (l[k].key).size
        · go_wp2
          go_ret
          exact ⟨_, rfl, (fun h => by cases h), rfl⟩
        by_cases h6 : 50 < (l[k].val).size
        · go_wp2
          go_ret
          exact ⟨_, rfl, (fun h => by cases h), rfl⟩
        have HF : Hid ((l[k]).Few) := ⟨by omega, by omega⟩
        go_wp2
        go_round
        case rel => exact ⟨k + 1, by omega, by go_num, fun j h hj => by
          by_cases e : j = k
          · subst e; exact HF.out
          · exact HR.out j h (by omega)⟩
        case measure => simp [intOf]; omega
      · go_wp2
        go_ret
        exact ⟨_, rfl, fun _ => ⟨by omega, fun x hx => by
          obtain ⟨j, hj, rfl⟩ := List.getElem_of_mem hx
          exact HR.out j hj (by omega)⟩, rfl⟩

end Go.Proofs.YtnmhicgbdalniaaGreatDoor
namespace Go.Proofs.YtnmhicgbdalniaaGreatDoor
open Go.RowKit

def FewIfB (P : Prop) (w : World) (e : Ending) (w' : World) : Prop := ∃ r, e = .returned (.bool r) ∧ (r = true → P) ∧ Below w.heap.size w w'
def Nd.Few (x : Nd) : Prop := x.name.size ≤ 50 ∧ FewL x.cap Amt.Few ∧ FewL x.labels Pair.Few ∧ FewL x.taints Tnt.Few
def Pd.Few (x : Pd) : Prop := x.name.size ≤ 50 ∧ x.owner.size ≤ 50 ∧ x.key.size ≤ 50 ∧ x.node.size ≤ 50 ∧ FewL x.need Amt.Few ∧ FewL x.labels Pair.Few ∧ FewL x.sel Term.Few ∧ FewL x.tols Tnt.Few
def Bd.Few (x : Bd) : Prop := x.name.size ≤ 50 ∧ FewL x.sel Term.Few
def St.Few (x : St) : Prop := x.nodes.length ≤ 34 ∧ x.pods.length ≤ 130 ∧ FewL x.budgets Bd.Few ∧ (∀ n ∈ x.nodes, n.Few) ∧ ∀ p ∈ x.pods, p.Few

set_option maxHeartbeats 2000000 in
set_option maxRecDepth 100000 in
theorem Few6_calls (v : Value) (x : Nd) (w : World) (hv : Kd.node.V (vw w []) v x) : Calls Tryz.prog 158 #[v] w (FewIfB x.Few w) := by
  obtain ⟨cs, rfl, A0, c0, A1, c1, A2, c2, rfl, -, s0, s1, s2⟩ := hv
  have S0 := Lib.hid s0
  have S1 := Lib.hid s1
  have S2 := Lib.hid s2
  clear s0 s1 s2
  go_enter Tryz.func158, Tryz.ntmps158
  by_cases h_name : 50 < x.name.size
  · go_wp2
    go_ret
    exact ⟨_, rfl, (fun h => by cases h), alloc_below _ _⟩
  go_wp2_with fail
  refine (Few2_calls _ x.cap _ (S0.out.mono (vw_alloc _))).mono ?_
  rintro e w' ⟨r, rfl, h, rfl⟩
  cases r with
  | false =>
    clear h
    go_wp2
    go_ret
    exact ⟨_, rfl, (fun h => by cases h), alloc_below _ _⟩
  | true =>
  have H0 := Lib.hid (h rfl)
  clear h
  go_wp2_with fail
  refine (Few4_calls _ x.labels _ (S1.out.mono (vw_alloc _))).mono ?_
  rintro e w' ⟨r, rfl, h, rfl⟩
  cases r with
  | false =>
    clear h
    go_wp2
    go_ret
    exact ⟨_, rfl, (fun h => by cases h), alloc_below _ _⟩
  | true =>
  have H1 := Lib.hid (h rfl)
  clear h
  go_wp2_with fail
  refine (Few5_calls _ x.taints _ (S2.out.mono (vw_alloc _))).mono ?_
  rintro e w' ⟨r, rfl, h, rfl⟩
  cases r with
  | false =>
    clear h
    go_wp2
    go_ret
    exact ⟨_, rfl, (fun h => by cases h), alloc_below _ _⟩
  | true =>
  have H2 := Lib.hid (h rfl)
  clear h
  go_wp2
  go_ret
  exact ⟨_, rfl, (fun _ => ⟨by omega, H0.out, H1.out, H2.out⟩), alloc_below _ _⟩

set_option maxHeartbeats 2000000 in
set_option maxRecDepth 100000 in
theorem Few7_calls (v : Value) (x : Pd) (w : World) (hv : Kd.pod.V (vw w []) v x) : Calls Tryz.prog 17 #[v] w (FewIfB x.Few w) := by
  obtain ⟨cs, rfl, A0, c0, A1, c1, A2, c2, A3, c3, rfl, -, s0, s1, s2, s3⟩ := hv
  have S0 := Lib.hid s0
  have S1 := Lib.hid s1
  have S2 := Lib.hid s2
  have S3 := Lib.hid s3
  clear s0 s1 s2 s3
  go_enter Tryz.func17, Tryz.ntmps17
  by_cases h_name : 50 < x.name.size
  · go_wp2
    go_ret
    exact ⟨_, rfl, (fun h => by cases h), alloc_below _ _⟩
  by_cases h_owner : 50 < x.owner.size
  · go_wp2
    go_ret
    exact ⟨_, rfl, (fun h => by cases h), alloc_below _ _⟩
  by_cases h_key : 50 < x.key.size
  · go_wp2
    go_ret
    exact ⟨_, rfl, (fun h => by cases h), alloc_below _ _⟩
  by_cases h_node : 50 < x.node.size
  · go_wp2
    go_ret
    exact ⟨_, rfl, (fun h => by cases h), alloc_below _ _⟩
  go_wp2_with fail
  refine (Few2_calls _ x.need _ (S0.out.mono (vw_alloc _))).mono ?_
  rintro e w' ⟨r, rfl, h, rfl⟩
  cases r with
  | false =>
    clear h
    go_wp2
    go_ret
    exact ⟨_, rfl, (fun h => by cases h), alloc_below _ _⟩
  | true =>
  have H0 := Lib.hid (h rfl)
  clear h
  go_wp2_with fail
  refine (Few4_calls _ x.labels _ (S1.out.mono (vw_alloc _))).mono ?_
  rintro e w' ⟨r, rfl, h, rfl⟩
  cases r with
  | false =>
    clear h
    go_wp2
    go_ret
    exact ⟨_, rfl, (fun h => by cases h), alloc_below _ _⟩
  | true =>
  have H1 := Lib.hid (h rfl)
  clear h
  go_wp2_with fail
  refine (FewSel4_calls _ x.sel _ (S2.out.mono (vw_alloc _))).mono ?_
  rintro e w' ⟨r, rfl, h, rfl⟩
  cases r with
  | false =>
    clear h
    go_wp2
    go_ret
    exact ⟨_, rfl, (fun h => by cases h), alloc_below _ _⟩
  | true =>
  have H2 := Lib.hid (h rfl)
  clear h
  go_wp2_with fail
  refine (FewTols5_calls _ x.tols _ (S3.out.mono (vw_alloc _))).mono ?_
  rintro e w' ⟨r, rfl, h, rfl⟩
  cases r with
  | false =>
    clear h
    go_wp2
    go_ret
    exact ⟨_, rfl, (fun h => by cases h), alloc_below _ _⟩
  | true =>
  have H3 := Lib.hid (h rfl)
  clear h
  go_wp2
  go_ret
  exact ⟨_, rfl, (fun _ => ⟨by omega, by omega, by omega, by omega, H0.out, H1.out, H2.out, H3.out⟩), alloc_below _ _⟩

end Go.Proofs.YtnmhicgbdalniaaGreatDoor
namespace Go.Proofs.YtnmhicgbdalniaaGreatDoor
open Go.RowKit

set_option maxHeartbeats 1000000 in
theorem Few8_calls (v : Value) (l : List Bd) (w : World) (hs : Kd.budget.S (vw w []) v l) : Calls Tryz.prog 157 #[v] w (FewIf (FewL l Bd.Few) w) := by
  obtain ⟨A, cap, rfl, hs⟩ := hs.val
  obtain ⟨-, hcap, hlen⟩ := hs.form
  have HS := Lib.hid hs
  clear hs
  go_enter Tryz.func157, Tryz.ntmps157
  by_cases h60 : 20 < l.length
  · go_wp2
    go_ret
    exact ⟨_, rfl, (fun h => by cases h), rfl⟩
  · go_wp2
    go_loop [3] (fun i => ∃ k : Nat, k ≤ l.length ∧ i = .int .i64 k ∧ Hid (∀ j, (h : j < l.length) → j < k → (l[j]).Few)) (fun i => l.length - (intOf i).toNat)
    case atStart => exact ⟨0, Nat.zero_le _, rfl, fun _ _ h => by omega⟩
    case round =>
      obtain ⟨k, hk, rfl, HR⟩ := hrel
      by_cases hlt : k < l.length
      · obtain ⟨b, off, cs, rfl, ⟨A1, d1, rfl, -, s1⟩, hc⟩ := HS.out.at_ k hlt
        have c0 : w.cell? ⟨b, off + k * 3, none⟩ = some (.string l[k].name) := hc 0 _ rfl
        have c1 : w.cell? ⟨b, off + k * 3 + 1, none⟩ = some (.slice A1 l[k].sel.length d1) := hc 1 _ rfl
        have S1 := Lib.hid s1
        clear hc s1
        by_cases h5 : 50 < (l[k].name).size
        · go_wp2
          go_ret
          exact ⟨_, rfl, (fun h => by cases h), rfl⟩
        go_wp2_with fail
        refine (FewSel4_calls _ l[k].sel _ S1.out).mono ?_
        rintro e w' ⟨r, rfl, h, rfl⟩
        cases r with
        | false =>
          clear h
          go_wp2
          go_ret
          exact ⟨_, rfl, (fun h => by cases h), rfl⟩
        | true =>
        have HF : Hid ((l[k]).Few) := ⟨by omega, h rfl⟩
        clear h
        go_wp2
        go_round
        case rel => exact ⟨k + 1, by omega, by go_num, fun j h hj => by
          by_cases e : j = k
          · subst e; exact HF.out
          · exact HR.out j h (by omega)⟩
        case measure => simp [intOf]; omega
      · go_wp2
        go_ret
        exact ⟨_, rfl, fun _ => ⟨by omega, fun x hx => by
          obtain ⟨j, hj, rfl⟩ := List.getElem_of_mem hx
          exact HR.out j hj (by omega)⟩, rfl⟩
set_option maxHeartbeats 2000000 in
set_option maxRecDepth 100000 in
theorem Few9_calls (v : Value) (s : St) (w : World) (hv : Kd.state.V (vw w []) v s) : Calls Tryz.prog 68 #[v] w (FewIfB s.Few w) := by
  obtain ⟨cs, rfl, A1, c1, A2, c2, A3, c3, rfl, s1, s2, s3⟩ := hv
  obtain ⟨-, f1, f1'⟩ := s1.form
  obtain ⟨-, f2, f2'⟩ := s2.form
  have S1 := Lib.hid s1
  have S2 := Lib.hid s2
  have S3 := Lib.hid s3
  clear s1 s2 s3
  go_enter Tryz.func68, Tryz.ntmps68
  by_cases h1 : 34 < s.nodes.length
  · go_wp2
    go_ret
    exact ⟨_, rfl, (fun h => by cases h), alloc_below _ _⟩
  by_cases h2 : 130 < s.pods.length
  · go_wp2
    go_ret
    exact ⟨_, rfl, (fun h => by cases h), alloc_below _ _⟩
  go_wp2_with fail
  refine (Few8_calls _ s.budgets _ (S3.out.mono (vw_alloc _))).mono ?_
  rintro e w' ⟨r, rfl, h, rfl⟩
  cases r with
  | false =>
    clear h
    go_wp2
    go_ret
    exact ⟨_, rfl, (fun h => by cases h), alloc_below _ _⟩
  | true =>
  have H3 := Lib.hid (h rfl)
  clear h
  go_wp2
  go_loopw [3] (fun i wr => ∃ k : Nat, k ≤ s.nodes.length ∧ i = .int .i64 k ∧ Hid (∀ j, (h : j < s.nodes.length) → j < k → (s.nodes[j]).Few) ∧ Hid (Below w.heap.size w wr) ∧ Hid (wr.heap[w.heap.size]? = some (.cells #[.slice A1 s.nodes.length c1, .slice A2 s.pods.length c2, .slice A3 s.budgets.length c3] 26 (0, 0)))) (fun i _ => s.nodes.length - (intOf i).toNat)
  case atStart => exact ⟨0, Nat.zero_le _, rfl, fun _ _ h => by omega, alloc_below _ _, blk_last _ _⟩
  case round =>
    obtain ⟨k, hk, rfl, HR, HB, HC⟩ := hrel
    obtain ⟨z1, z2⟩ := blk_all HC.out
    by_cases hlt : k < s.nodes.length
    · obtain ⟨b, off, cs, rfl, hn, hc⟩ := S1.out.both HB.out k hlt
      have HV : Hid (Kd.node.V (vw wr []) (.agg cs.toArray) s.nodes[k]) := ⟨cs, rfl, Kd.node.mono (vw_below HB.out) hn⟩
      have hl := Kd.node.len hn
      have HL : Hid (cs.length = 5) := hl
      have HC2 : Hid (wr.rangeAt b (off + k * 5) cs) := hc
      clear hn hc hl
      go_wp2_with (first | fail | (with_reducible refine wpList_load_mid rfl 94 _ rfl b (off + k * 5) rfl cs _ HC2.out Tryz.underlying94 rfl ?_ ?_; (rw [HL.out]; kernel_rfl)))
      refine (Few6_calls _ s.nodes[k] _ HV.out).mono ?_
      rintro e w2 ⟨r, rfl, h, hb⟩
      have HB2 := Lib.hid (Below.thenN HB.out HB.out.size hb)
      have HCa : Hid (w2.heap[w.heap.size]? = _) := (hb.block _ (blk_lt HC.out)).trans HC.out
      clear hb z1 z2
      cases r with
      | false =>
        clear h
        go_wp2
        go_ret
        exact ⟨_, rfl, (fun h => by cases h), HB2.out⟩
      | true =>
        have HF : Hid ((s.nodes[k]).Few) := h rfl
        clear h
        go_wp2
        go_roundw
        case rel => exact ⟨k + 1, by omega, by go_num, fun j h hj => by
          by_cases e : j = k
          · subst e; exact HF.out
          · exact HR.out j h (by omega), HB2.out, HCa.out⟩
        case measure => simp [intOf]; omega
    · have HN : Hid (∀ n ∈ s.nodes, n.Few) := fun x hx => by
        obtain ⟨j, hj, rfl⟩ := List.getElem_of_mem hx
        exact HR.out j hj (by omega)
      clear HR
      go_wp2
      clear z1 z2
      go_loopw [4] (fun i wr => ∃ k : Nat, k ≤ s.pods.length ∧ i = .int .i64 k ∧ Hid (∀ j, (h : j < s.pods.length) → j < k → (s.pods[j]).Few) ∧ Hid (Below w.heap.size w wr) ∧ Hid (wr.heap[w.heap.size]? = some (.cells #[.slice A1 s.nodes.length c1, .slice A2 s.pods.length c2, .slice A3 s.budgets.length c3] 26 (0, 0)))) (fun i _ => s.pods.length - (intOf i).toNat)
      case atStart => exact ⟨0, Nat.zero_le _, rfl, fun _ _ h => by omega, HB.out, HC.out⟩
      case round =>
        clear HB HC
        obtain ⟨k, hk, rfl, HR, HB, HC⟩ := hrel
        obtain ⟨z1, z2⟩ := blk_all HC.out
        by_cases hlt : k < s.pods.length
        · obtain ⟨b, off, cs, rfl, hn, hc⟩ := S2.out.both HB.out k hlt
          have HV : Hid (Kd.pod.V (vw wr []) (.agg cs.toArray) s.pods[k]) := ⟨cs, rfl, Kd.pod.mono (vw_below HB.out) hn⟩
          have HL : Hid (cs.length = 11) := Kd.pod.len hn
          have HC2 : Hid (wr.rangeAt b (off + k * 11) cs) := hc
          clear hn hc
          go_wp2_with (first | fail | (with_reducible refine wpList_load_mid rfl 35 _ rfl b (off + k * 11) rfl cs _ HC2.out Tryz.underlying35 rfl ?_ ?_; (rw [HL.out]; kernel_rfl)))
          refine (Few7_calls _ s.pods[k] _ HV.out).mono ?_
          rintro e w2 ⟨r, rfl, h, hb⟩
          have HB2 := Lib.hid (Below.thenN HB.out HB.out.size hb)
          have HCa : Hid (w2.heap[w.heap.size]? = _) := (hb.block _ (blk_lt HC.out)).trans HC.out
          clear hb z1 z2
          cases r with
          | false =>
            clear h
            go_wp2
            go_ret
            exact ⟨_, rfl, (fun h => by cases h), HB2.out⟩
          | true =>
            have HF : Hid ((s.pods[k]).Few) := h rfl
            clear h
            go_wp2
            go_roundw
            case rel => exact ⟨k + 1, by omega, by go_num, fun j h hj => by
              by_cases e : j = k
              · subst e; exact HF.out
              · exact HR.out j h (by omega), HB2.out, HCa.out⟩
            case measure => simp [intOf]; omega
        · have HP : Hid (∀ n ∈ s.pods, n.Few) := fun x hx => by
            obtain ⟨j, hj, rfl⟩ := List.getElem_of_mem hx
            exact HR.out j hj (by omega)
          clear HR
          go_wp2
          go_ret
          exact ⟨_, rfl, fun _ => ⟨by omega, by omega, H3.out, HN.out, HP.out⟩, HB.out⟩
end Go.Proofs.YtnmhicgbdalniaaGreatDoor
namespace Go.Proofs.YtnmhicgbdalniaaGreatDoor
open Go.RowKit

/-- A copy of a struct, what it leads to in memory that is new. -/
def OneDone {α : Type} (d : Kd α) (x : α) (w : World) (e : Ending) (w' : World) : Prop := ∃ cs, e = .returned (.agg cs.toArray) ∧ d.K (nx w' w.heap.size none) x cs ∧ Below w.heap.size w w'
theorem nx_set {w : World} {lo : Nat} {own : Option Nat} {p : Addr} (h : p.block < lo) (u : Value) : (nx w lo own).le (nx (w.setCell p u) lo own) := fun b o hb => by
  obtain ⟨h1, h2, h3⟩ := nx_eq hb
  exact nx_mk (by omega) h2 ((Below.heap_setCell w p u b (by omega)).trans h3)
theorem nx_setCells {w : World} {lo lo' b : Nat} (cs : List Value) (o : Nat) (h : b < lo) (hl : lo' ≤ lo) : (nx w lo none).le (nx (w.setCells b o cs) lo' none) := fun k x hk => by
  obtain ⟨h1, h2, h3⟩ := nx_eq hk
  exact nx_mk (by omega) (by simp) ((setCells_far b cs o w k (by omega)).trans h3)
theorem nx_lo {w : World} {lo lo' : Nat} (h : lo ≤ lo') : (nx w lo' none).le (nx w lo none) := nx_new h (by simp) rfl

set_option maxHeartbeats 4000000 in
set_option maxRecDepth 100000 in
theorem Of6_calls (v : Value) (x : Nd) (w : World) (hv : Kd.node.V (vw w []) v x) (hf : x.Few) : Calls Tryz.prog 163 #[v] w (OneDone Kd.node x w) := by
  obtain ⟨cs, rfl, A0, c0, A1, c1, A2, c2, rfl, hx, s0, s1, s2⟩ := hv
  have S0 := Lib.hid s0
  have S1 := Lib.hid s1
  have S2 := Lib.hid s2
  have HX := Lib.hid hx
  have l0 := hf.2.1.1
  have l1 := hf.2.2.1.1
  have l2 := hf.2.2.2.1
  clear s0 s1 s2 hx hf
  go_enter Tryz.func163, Tryz.ntmps163
  go_wp2
  obtain ⟨W, hW⟩ : ∃ W : World, W = ((w.alloc (.cells #[.string x.name, .slice A0 x.cap.length c0, .slice A1 x.labels.length c1, .slice A2 x.taints.length c2, .bool x.cordon] 94)).alloc (.cells #[.string ⟨#[]⟩, .slice none 0 0, .slice none 0 0, .slice none 0 0, .bool false] 150)) := ⟨_, rfl⟩
  rw [← hW]
  have HB : Hid (Below w.heap.size w W.drew) := by
    rw [hW]; exact Below.then (Below.then (alloc_below _ _) (alloc_below _ _)) (drewN_below _ 1)
  have HC : Hid (W.drew.heap[w.heap.size]? = some (.cells #[.string x.name, .slice A0 x.cap.length c0, .slice A1 x.labels.length c1, .slice A2 x.taints.length c2, .bool x.cordon] 94 (0, 0))) := by
    rw [hW]; exact (blk_old _ _ (by simp)).trans (blk_last _ _)
  have HZ : Hid (W.drew.heap[w.heap.size + 1]? = some (.cells #[.string ⟨#[]⟩, .slice none 0 0, .slice none 0 0, .slice none 0 0, .bool false] 150 (0, 0))) := by
    rw [hW]; exact (show _ = w.heap.size + 1 by simp : (w.alloc (.cells #[.string x.name, .slice A0 x.cap.length c0, .slice A1 x.labels.length c1, .slice A2 x.taints.length c2, .bool x.cordon] 94)).heap.size = w.heap.size + 1) ▸ blk_last _ _
  have hsz : w.heap.size + 2 ≤ W.drew.heap.size := by
    rw [hW]; show _ ≤ (World.alloc _ _).heap.size; simp
  clear hW
  obtain ⟨z, zf⟩ := blk_all HC.out
  go_region_held3 (fun w' => ∀ j, w'.cell? ⟨w.heap.size, j, none⟩ = #[.string x.name, .slice A0 x.cap.length c0, .slice A1 x.labels.length c1, .slice A2 x.taints.length c2, .bool x.cordon][j]?) (first | go_keep | exact z) (first
    | (go_at_call 79; refine (Of2_calls _ x.cap _ (by exact S0.out.mono (vw_below HB.out)) (by omega)).mono ?_; rintro e w1 ⟨B0, d0, rfl, t0, hb⟩; (try replace T1 := Lib.hid (T1.out.mono (nx_below hb))); (try replace T2 := Lib.hid (T2.out.mono (nx_below hb))); have T0 := Lib.hid (t0.mono (nx_lo hsz)); have hsz2 := Nat.le_trans hsz hb.size; replace HB := Lib.hid (Below.then HB.out hb); replace HC := Lib.hid ((hb.block _ (blk_lt HC.out)).trans HC.out); replace HZ := Lib.hid ((hb.block _ (blk_lt HZ.out)).trans HZ.out); clear z zf hb t0 hsz; (try clear y yf); obtain ⟨z, zf⟩ := blk_all HC.out; obtain ⟨y, yf⟩ := blk_all HZ.out; have hsz := hsz2; clear hsz2)
    | (go_at_call 80; refine (Of4_calls _ x.labels _ (by exact S1.out.mono (vw_below HB.out)) (by omega)).mono ?_; rintro e w1 ⟨B1, d1, rfl, t0, hb⟩; (try replace T0 := Lib.hid (T0.out.mono (nx_below hb))); (try replace T2 := Lib.hid (T2.out.mono (nx_below hb))); have T1 := Lib.hid (t0.mono (nx_lo hsz)); have hsz2 := Nat.le_trans hsz hb.size; replace HB := Lib.hid (Below.then HB.out hb); replace HC := Lib.hid ((hb.block _ (blk_lt HC.out)).trans HC.out); replace HZ := Lib.hid ((hb.block _ (blk_lt HZ.out)).trans HZ.out); clear z zf hb t0 hsz; (try clear y yf); obtain ⟨z, zf⟩ := blk_all HC.out; obtain ⟨y, yf⟩ := blk_all HZ.out; have hsz := hsz2; clear hsz2)
    | (go_at_call 239; refine (Of5_calls _ x.taints _ (by exact S2.out.mono (vw_below HB.out)) (by omega)).mono ?_; rintro e w1 ⟨B2, d2, rfl, t0, hb⟩; (try replace T0 := Lib.hid (T0.out.mono (nx_below hb))); (try replace T1 := Lib.hid (T1.out.mono (nx_below hb))); have T2 := Lib.hid (t0.mono (nx_lo hsz)); have hsz2 := Nat.le_trans hsz hb.size; replace HB := Lib.hid (Below.then HB.out hb); replace HC := Lib.hid ((hb.block _ (blk_lt HC.out)).trans HC.out); replace HZ := Lib.hid ((hb.block _ (blk_lt HZ.out)).trans HZ.out); clear z zf hb t0 hsz; (try clear y yf); obtain ⟨z, zf⟩ := blk_all HC.out; obtain ⟨y, yf⟩ := blk_all HZ.out; have hsz := hsz2; clear hsz2))
  have hset := setCells_all (cs := [.string x.name, .slice B0 x.cap.length d0, .slice B1 x.labels.length d1, .slice B2 x.taints.length d2, .bool x.cordon]) HZ.out rfl
  have hbl := Below.setCells HB.out (Nat.le_succ _) [.string x.name, .slice B0 x.cap.length d0, .slice B1 x.labels.length d1, .slice B2 x.taints.length d2, .bool x.cordon] 0
  have hnx := nx_setCells (w := w1) (lo' := w.heap.size) [.string x.name, .slice B0 x.cap.length d0, .slice B1 x.labels.length d1, .slice B2 x.taints.length d2, .bool x.cordon] 0 (Nat.lt_succ_self (w.heap.size + 1)) (by omega)
  go_wp2
  change bodyPost _ _ _ _ _ (w1.setCells (w.heap.size + 1) 0 [.string x.name, .slice B0 x.cap.length d0, .slice B1 x.labels.length d1, .slice B2 x.taints.length d2, .bool x.cordon])
  exact ret_row1 (cs := [.string x.name, .slice B0 x.cap.length d0, .slice B1 x.labels.length d1, .slice B2 x.taints.length d2, .bool x.cordon]) rfl rfl hset Tryz.underlying150 rfl (by kernel_rfl) rfl ⟨[.string x.name, .slice B0 x.cap.length d0, .slice B1 x.labels.length d1, .slice B2 x.taints.length d2, .bool x.cordon], rfl, ⟨B0, d0, B1, d1, B2, d2, rfl, HX.out, T0.out.mono hnx, T1.out.mono hnx, T2.out.mono hnx⟩, hbl⟩

set_option maxHeartbeats 4000000 in
set_option maxRecDepth 100000 in
theorem Of8_calls (v : Value) (x : Bd) (w : World) (hv : Kd.budget.V (vw w []) v x) (hf : x.Few) : Calls Tryz.prog 164 #[v] w (OneDone Kd.budget x w) := by
  obtain ⟨cs, rfl, A0, c0, rfl, hx, s0⟩ := hv
  have S0 := Lib.hid s0
  have HX := Lib.hid hx
  have l0 := hf.2.1
  clear s0 hx hf
  go_enter Tryz.func164, Tryz.ntmps164
  go_wp2
  obtain ⟨W, hW⟩ : ∃ W : World, W = ((w.alloc (.cells #[.string x.name, .slice A0 x.sel.length c0, .int .i64 x.floor] 245)).alloc (.cells #[.string ⟨#[]⟩, .slice none 0 0, .int .i64 0] 242)) := ⟨_, rfl⟩
  rw [← hW]
  have HB : Hid (Below w.heap.size w W.drew) := by
    rw [hW]; exact Below.then (Below.then (alloc_below _ _) (alloc_below _ _)) (drewN_below _ 1)
  have HC : Hid (W.drew.heap[w.heap.size]? = some (.cells #[.string x.name, .slice A0 x.sel.length c0, .int .i64 x.floor] 245 (0, 0))) := by
    rw [hW]; exact (blk_old _ _ (by simp)).trans (blk_last _ _)
  have HZ : Hid (W.drew.heap[w.heap.size + 1]? = some (.cells #[.string ⟨#[]⟩, .slice none 0 0, .int .i64 0] 242 (0, 0))) := by
    rw [hW]; exact (show _ = w.heap.size + 1 by simp : (w.alloc (.cells #[.string x.name, .slice A0 x.sel.length c0, .int .i64 x.floor] 245)).heap.size = w.heap.size + 1) ▸ blk_last _ _
  have hsz : w.heap.size + 2 ≤ W.drew.heap.size := by
    rw [hW]; show _ ≤ (World.alloc _ _).heap.size; simp
  clear hW
  obtain ⟨z, zf⟩ := blk_all HC.out
  go_region_held3 (fun w' => ∀ j, w'.cell? ⟨w.heap.size, j, none⟩ = #[.string x.name, .slice A0 x.sel.length c0, .int .i64 x.floor][j]?) (first | go_keep | exact z) (first
    | (go_at_call 81; refine (OfSel4_calls _ x.sel _ (by exact S0.out.mono (vw_below HB.out)) (by omega)).mono ?_; rintro e w1 ⟨B0, d0, rfl, t0, hb⟩;  have T0 := Lib.hid (t0.mono (nx_lo hsz)); have hsz2 := Nat.le_trans hsz hb.size; replace HB := Lib.hid (Below.then HB.out hb); replace HC := Lib.hid ((hb.block _ (blk_lt HC.out)).trans HC.out); replace HZ := Lib.hid ((hb.block _ (blk_lt HZ.out)).trans HZ.out); clear z zf hb t0 hsz; (try clear y yf); obtain ⟨z, zf⟩ := blk_all HC.out; obtain ⟨y, yf⟩ := blk_all HZ.out; have hsz := hsz2; clear hsz2))
  have hset := setCells_all (cs := [.string x.name, .slice B0 x.sel.length d0, .int .i64 x.floor]) HZ.out rfl
  have hbl := Below.setCells HB.out (Nat.le_succ _) [.string x.name, .slice B0 x.sel.length d0, .int .i64 x.floor] 0
  have hnx := nx_setCells (w := w1) (lo' := w.heap.size) [.string x.name, .slice B0 x.sel.length d0, .int .i64 x.floor] 0 (Nat.lt_succ_self (w.heap.size + 1)) (by omega)
  go_wp2
  change bodyPost _ _ _ _ _ (w1.setCells (w.heap.size + 1) 0 [.string x.name, .slice B0 x.sel.length d0, .int .i64 x.floor])
  exact ret_row1 (cs := [.string x.name, .slice B0 x.sel.length d0, .int .i64 x.floor]) rfl rfl hset Tryz.underlying242 rfl (by kernel_rfl) rfl ⟨[.string x.name, .slice B0 x.sel.length d0, .int .i64 x.floor], rfl, ⟨B0, d0, rfl, HX.out, T0.out.mono hnx⟩, hbl⟩

end Go.Proofs.YtnmhicgbdalniaaGreatDoor
namespace Go.Proofs.YtnmhicgbdalniaaGreatDoor
open Go.RowKit

set_option maxHeartbeats 40000000 in
set_option maxRecDepth 100000 in
theorem Of7_calls (v : Value) (x : Pd) (w : World) (hv : Kd.pod.V (vw w []) v x) (hf : x.Few) : Calls Tryz.prog 19 #[v] w (OneDone Kd.pod x w) := by
  obtain ⟨cs, rfl, A0, c0, A1, c1, A2, c2, A3, c3, rfl, hx, s0, s1, s2, s3⟩ := hv
  have S0 := Lib.hid s0
  have S1 := Lib.hid s1
  have S2 := Lib.hid s2
  have S3 := Lib.hid s3
  have HX := Lib.hid hx
  have l0 := hf.2.2.2.2.1.1
  have l1 := hf.2.2.2.2.2.1.1
  have l2 := hf.2.2.2.2.2.2.1.1
  have l3 := hf.2.2.2.2.2.2.2.1
  clear s0 s1 s2 s3 hx hf
  go_enter Tryz.func19, Tryz.ntmps19
  go_wp2
  obtain ⟨W, hW⟩ : ∃ W : World, W = ((w.alloc (.cells #[.string x.name, .string x.owner, .int .i64 x.prio, .slice A0 x.need.length c0, .slice A1 x.labels.length c1, .slice A2 x.sel.length c2, .slice A3 x.tols.length c3, .string x.key, .int .i64 x.most, .string x.node, .bool x.hold] 35)).alloc (.cells #[.string ⟨#[]⟩, .string ⟨#[]⟩, .int .i64 0, .slice none 0 0, .slice none 0 0, .slice none 0 0, .slice none 0 0, .string ⟨#[]⟩, .int .i64 0, .string ⟨#[]⟩, .bool false] 45)) := ⟨_, rfl⟩
  rw [← hW]
  have HB : Hid (Below w.heap.size w W.drew) := by
    rw [hW]; exact Below.then (Below.then (alloc_below _ _) (alloc_below _ _)) (drewN_below _ 1)
  have HC : Hid (W.drew.heap[w.heap.size]? = some (.cells #[.string x.name, .string x.owner, .int .i64 x.prio, .slice A0 x.need.length c0, .slice A1 x.labels.length c1, .slice A2 x.sel.length c2, .slice A3 x.tols.length c3, .string x.key, .int .i64 x.most, .string x.node, .bool x.hold] 35 (0, 0))) := by
    rw [hW]; exact (blk_old _ _ (by simp)).trans (blk_last _ _)
  have HZ : Hid (W.drew.heap[w.heap.size + 1]? = some (.cells #[.string ⟨#[]⟩, .string ⟨#[]⟩, .int .i64 0, .slice none 0 0, .slice none 0 0, .slice none 0 0, .slice none 0 0, .string ⟨#[]⟩, .int .i64 0, .string ⟨#[]⟩, .bool false] 45 (0, 0))) := by
    rw [hW]; exact (show _ = w.heap.size + 1 by simp : (w.alloc (.cells #[.string x.name, .string x.owner, .int .i64 x.prio, .slice A0 x.need.length c0, .slice A1 x.labels.length c1, .slice A2 x.sel.length c2, .slice A3 x.tols.length c3, .string x.key, .int .i64 x.most, .string x.node, .bool x.hold] 35)).heap.size = w.heap.size + 1) ▸ blk_last _ _
  have hsz : w.heap.size + 2 ≤ W.drew.heap.size := by
    rw [hW]; show _ ≤ (World.alloc _ _).heap.size; simp
  clear hW
  obtain ⟨z, zf⟩ := blk_all HC.out
  go_region_held3 (fun w' => ∀ j, w'.cell? ⟨w.heap.size, j, none⟩ = #[.string x.name, .string x.owner, .int .i64 x.prio, .slice A0 x.need.length c0, .slice A1 x.labels.length c1, .slice A2 x.sel.length c2, .slice A3 x.tols.length c3, .string x.key, .int .i64 x.most, .string x.node, .bool x.hold][j]?) (first | go_keep | exact z) (first
    | (go_at_call 79; refine (Of2_calls _ x.need _ (by exact S0.out.mono (vw_below HB.out)) (by omega)).mono ?_; rintro e w1 ⟨B0, d0, rfl, t0, hb⟩; (try replace T1 := Lib.hid (T1.out.mono (nx_below hb))); (try replace T2 := Lib.hid (T2.out.mono (nx_below hb))); (try replace T3 := Lib.hid (T3.out.mono (nx_below hb))); have T0 := Lib.hid (t0.mono (nx_lo hsz)); have hsz2 := Nat.le_trans hsz hb.size; replace HB := Lib.hid (Below.then HB.out hb); replace HC := Lib.hid ((hb.block _ (blk_lt HC.out)).trans HC.out); replace HZ := Lib.hid ((hb.block _ (blk_lt HZ.out)).trans HZ.out); clear z zf hb t0 hsz; (try clear y yf); obtain ⟨z, zf⟩ := blk_all HC.out; obtain ⟨y, yf⟩ := blk_all HZ.out; have hsz := hsz2; clear hsz2)
    | (go_at_call 80; refine (Of4_calls _ x.labels _ (by exact S1.out.mono (vw_below HB.out)) (by omega)).mono ?_; rintro e w1 ⟨B1, d1, rfl, t0, hb⟩; (try replace T0 := Lib.hid (T0.out.mono (nx_below hb))); (try replace T2 := Lib.hid (T2.out.mono (nx_below hb))); (try replace T3 := Lib.hid (T3.out.mono (nx_below hb))); have T1 := Lib.hid (t0.mono (nx_lo hsz)); have hsz2 := Nat.le_trans hsz hb.size; replace HB := Lib.hid (Below.then HB.out hb); replace HC := Lib.hid ((hb.block _ (blk_lt HC.out)).trans HC.out); replace HZ := Lib.hid ((hb.block _ (blk_lt HZ.out)).trans HZ.out); clear z zf hb t0 hsz; (try clear y yf); obtain ⟨z, zf⟩ := blk_all HC.out; obtain ⟨y, yf⟩ := blk_all HZ.out; have hsz := hsz2; clear hsz2)
    | (go_at_call 81; refine (OfSel4_calls _ x.sel _ (by exact S2.out.mono (vw_below HB.out)) (by omega)).mono ?_; rintro e w1 ⟨B2, d2, rfl, t0, hb⟩; (try replace T0 := Lib.hid (T0.out.mono (nx_below hb))); (try replace T1 := Lib.hid (T1.out.mono (nx_below hb))); (try replace T3 := Lib.hid (T3.out.mono (nx_below hb))); have T2 := Lib.hid (t0.mono (nx_lo hsz)); have hsz2 := Nat.le_trans hsz hb.size; replace HB := Lib.hid (Below.then HB.out hb); replace HC := Lib.hid ((hb.block _ (blk_lt HC.out)).trans HC.out); replace HZ := Lib.hid ((hb.block _ (blk_lt HZ.out)).trans HZ.out); clear z zf hb t0 hsz; (try clear y yf); obtain ⟨z, zf⟩ := blk_all HC.out; obtain ⟨y, yf⟩ := blk_all HZ.out; have hsz := hsz2; clear hsz2)
    | (go_at_call 82; refine (OfTols5_calls _ x.tols _ (by exact S3.out.mono (vw_below HB.out)) (by omega)).mono ?_; rintro e w1 ⟨B3, d3, rfl, t0, hb⟩; (try replace T0 := Lib.hid (T0.out.mono (nx_below hb))); (try replace T1 := Lib.hid (T1.out.mono (nx_below hb))); (try replace T2 := Lib.hid (T2.out.mono (nx_below hb))); have T3 := Lib.hid (t0.mono (nx_lo hsz)); have hsz2 := Nat.le_trans hsz hb.size; replace HB := Lib.hid (Below.then HB.out hb); replace HC := Lib.hid ((hb.block _ (blk_lt HC.out)).trans HC.out); replace HZ := Lib.hid ((hb.block _ (blk_lt HZ.out)).trans HZ.out); clear z zf hb t0 hsz; (try clear y yf); obtain ⟨z, zf⟩ := blk_all HC.out; obtain ⟨y, yf⟩ := blk_all HZ.out; have hsz := hsz2; clear hsz2))
  have hset := setCells_all (cs := [.string x.name, .string x.owner, .int .i64 x.prio, .slice B0 x.need.length d0, .slice B1 x.labels.length d1, .slice B2 x.sel.length d2, .slice B3 x.tols.length d3, .string x.key, .int .i64 x.most, .string x.node, .bool x.hold]) HZ.out rfl
  have hbl := Below.setCells HB.out (Nat.le_succ _) [.string x.name, .string x.owner, .int .i64 x.prio, .slice B0 x.need.length d0, .slice B1 x.labels.length d1, .slice B2 x.sel.length d2, .slice B3 x.tols.length d3, .string x.key, .int .i64 x.most, .string x.node, .bool x.hold] 0
  have hnx := nx_setCells (w := w1) (lo' := w.heap.size) [.string x.name, .string x.owner, .int .i64 x.prio, .slice B0 x.need.length d0, .slice B1 x.labels.length d1, .slice B2 x.sel.length d2, .slice B3 x.tols.length d3, .string x.key, .int .i64 x.most, .string x.node, .bool x.hold] 0 (Nat.lt_succ_self (w.heap.size + 1)) (by omega)
  go_wp2
  change bodyPost _ _ _ _ _ (w1.setCells (w.heap.size + 1) 0 [.string x.name, .string x.owner, .int .i64 x.prio, .slice B0 x.need.length d0, .slice B1 x.labels.length d1, .slice B2 x.sel.length d2, .slice B3 x.tols.length d3, .string x.key, .int .i64 x.most, .string x.node, .bool x.hold])
  exact ret_row1 (cs := [.string x.name, .string x.owner, .int .i64 x.prio, .slice B0 x.need.length d0, .slice B1 x.labels.length d1, .slice B2 x.sel.length d2, .slice B3 x.tols.length d3, .string x.key, .int .i64 x.most, .string x.node, .bool x.hold]) rfl rfl hset Tryz.underlying45 rfl (by kernel_rfl) rfl ⟨[.string x.name, .string x.owner, .int .i64 x.prio, .slice B0 x.need.length d0, .slice B1 x.labels.length d1, .slice B2 x.sel.length d2, .slice B3 x.tols.length d3, .string x.key, .int .i64 x.most, .string x.node, .bool x.hold], rfl, ⟨B0, d0, B1, d1, B2, d2, B3, d3, rfl, HX.out, T0.out.mono hnx, T1.out.mono hnx, T2.out.mono hnx, T3.out.mono hnx⟩, hbl⟩

end Go.Proofs.YtnmhicgbdalniaaGreatDoor
namespace Go.Proofs.YtnmhicgbdalniaaGreatDoor
open Go.RowKit


theorem info_OfAll6 : (Tryz.prog.info? 150).map (fun i => (i.zero, i.size, i.bytes)) = some (some (.agg #[.string ⟨#[]⟩, .slice none 0 0, .slice none 0 0, .slice none 0 0, .bool false]), 5, 96) := by kernel_rfl
set_option maxHeartbeats 2000000 in
set_option maxRecDepth 100000 in
theorem OfAll6_calls (v : Value) (l : List Nd) (w : World) (hs : Kd.node.S (vw w []) v l) (hl : l.length ≤ 1000) (hf : ∀ x ∈ l, x.Few) : Calls Tryz.prog 83 #[v] w (OfDone Kd.node l w) := by
  obtain ⟨i0, hi, hz0, hz1, hz2⟩ := info_parts info_OfAll6
  obtain ⟨A, cap, rfl, hs⟩ := hs.val
  have HS := Lib.hid hs
  have HF := Lib.hid hf
  clear hs hf
  go_enter Tryz.func83, Tryz.ntmps83
  go_wp2
  go_loopw [3, 4] (fun o i wr => ∃ k : Nat, k ≤ l.length ∧ i = .int .i64 k ∧ Hid (Kd.node.Own wr w.heap.size 150 w.heap.size o (l.take k)) ∧ Hid (Below w.heap.size w wr)) (fun _ i _ => l.length - (intOf i).toNat)
  case atStart => exact ⟨0, Nat.zero_le _, rfl, Kd.Own.nil _ _ _ _ _, Below.refl _ _⟩
  case round =>
    obtain ⟨k, hk, rfl, HO, HB⟩ := hrel
    by_cases hlt : k < l.length
    · obtain ⟨b, off, cs, rfl, hn, hc⟩ := HS.out.both HB.out k hlt
      have HV : Hid (Kd.node.V (vw wr []) (.agg cs.toArray) l[k]) := ⟨cs, rfl, Kd.node.mono (vw_below HB.out) hn⟩
      have HL : Hid (cs.length = 5) := Kd.node.len hn
      have HC2 : Hid (wr.rangeAt b (off + k * 5) cs) := hc
      obtain ⟨css, k1, k2, k3⟩ := HO.out
      rw [show (l.take k).length = k by rw [List.length_take]; omega] at k3
      have HK1 := Lib.hid k1
      have HK2 := Lib.hid k2
      have HK3 := Lib.hid k3
      have hsz := HB.out.size
      clear hn hc k1 k2 k3
      go_wp2_with (first | fail | (with_reducible refine wpList_load_mid rfl 94 _ rfl b (off + k * 5) rfl cs _ HC2.out Tryz.underlying94 rfl ?_ ?_; (rw [HL.out]; kernel_rfl)))
      refine (Of6_calls _ l[k] _ HV.out (HF.out _ (List.getElem_mem hlt))).mono ?_
      rintro e w1 ⟨cs2, rfl, t, hb⟩
      have HT := Lib.hid t
      obtain ⟨B0, d0, B1, d1, B2, d2, rfl, -⟩ := t
      have HB1 := Lib.hid hb
      have hsz1 := hb.size
      clear hb
      go_wp2_with (at_builtin; go_must (refine wpList_app _ w.heap.size 47 150 i0 (.agg #[.string ⟨#[]⟩, .slice none 0 0, .slice none 0 0, .slice none 0 0, .bool false]) 5 96 Tryz.underlying47 hi hz0 hz1 hz2 rfl (by decide) _ k css.flatten (own_below HK3.out (Below.then HB1.out (alloc_below _ _))) (some ⟨w1.heap.size, 0, none⟩) 1 1 [.string l[k].name, .slice B0 l[k].cap.length d0, .slice B1 l[k].labels.length d1, .slice B2 l[k].taints.length d2, .bool l[k].cordon] rfl (fun e => by cases e) ?c1 ?c2 ?c3 ?c4 ?c5 _ _ rfl rfl rfl rfl ?_))
      · rintro ad h
        cases h
        exact World.news_of_block (cs := #[.string l[k].name, .slice B0 l[k].cap.length d0, .slice B1 l[k].labels.length d1, .slice B2 l[k].taints.length d2, .bool l[k].cordon]) (t := 150) (fr := (0, 0)) (heap_alloc_new w1 _)
      · simp [Value.oneCell']
      · simp only [maxLen]; omega
      · omega
      · simp; omega
      intro v2 w2 ho2 hg2 hv2
      have HB2 : Hid (Below w.heap.size w w2) := grown_then HB.out (Below.then HB1.out (alloc_below _ _)) hg2 (fun q hq => (HK3.out.lt q hq).1)
      have HO2 : Hid (Kd.node.Own w2 w.heap.size 150 w.heap.size v2 (l.take (k + 1))) := by
        show Kd.Own _ _ _ _ _ _ _
        rw [List.take_succ_eq_append_getElem hlt]
        exact Kd.Own.snoc HK1.out HK2.out (Kd.node.mono (nx_below (alloc_below _ _)) (Kd.node.mono (nx_new hsz (fun q hq => .inl (HK3.out.lt q hq).2) rfl) HT.out)) (Below.then HB1.out (alloc_below _ _)) (by rw [show (l.take k).length = k by rw [List.length_take]; omega]; exact ho2) hg2 (by simpa using hv2)
      clear ho2 hg2 hv2
      go_wp2
      go_roundw
      case rel => exact ⟨k + 1, by omega, by go_num, HO2.out, HB2.out⟩
      case measure => simp [intOf]; omega
    · obtain rfl : k = l.length := by omega
      have ho := HO.out
      rw [List.take_length] at ho
      obtain ⟨A2, c2, rfl, s2⟩ := (ho.S (Nat.le_refl _) (by omega)).val
      have S2 := Lib.hid s2
      clear ho HO s2
      go_wp2
      go_ret
      exact ⟨_, _, rfl, S2.out, HB.out⟩

theorem info_OfAll8 : (Tryz.prog.info? 242).map (fun i => (i.zero, i.size, i.bytes)) = some (some (.agg #[.string ⟨#[]⟩, .slice none 0 0, .int .i64 0]), 3, 48) := by kernel_rfl
set_option maxHeartbeats 2000000 in
set_option maxRecDepth 100000 in
theorem OfAll8_calls (v : Value) (l : List Bd) (w : World) (hs : Kd.budget.S (vw w []) v l) (hl : l.length ≤ 1000) (hf : ∀ x ∈ l, x.Few) : Calls Tryz.prog 85 #[v] w (OfDone Kd.budget l w) := by
  obtain ⟨i0, hi, hz0, hz1, hz2⟩ := info_parts info_OfAll8
  obtain ⟨A, cap, rfl, hs⟩ := hs.val
  have HS := Lib.hid hs
  have HF := Lib.hid hf
  clear hs hf
  go_enter Tryz.func85, Tryz.ntmps85
  go_wp2
  go_loopw [3, 4] (fun o i wr => ∃ k : Nat, k ≤ l.length ∧ i = .int .i64 k ∧ Hid (Kd.budget.Own wr w.heap.size 242 w.heap.size o (l.take k)) ∧ Hid (Below w.heap.size w wr)) (fun _ i _ => l.length - (intOf i).toNat)
  case atStart => exact ⟨0, Nat.zero_le _, rfl, Kd.Own.nil _ _ _ _ _, Below.refl _ _⟩
  case round =>
    obtain ⟨k, hk, rfl, HO, HB⟩ := hrel
    by_cases hlt : k < l.length
    · obtain ⟨b, off, cs, rfl, hn, hc⟩ := HS.out.both HB.out k hlt
      have HV : Hid (Kd.budget.V (vw wr []) (.agg cs.toArray) l[k]) := ⟨cs, rfl, Kd.budget.mono (vw_below HB.out) hn⟩
      have HL : Hid (cs.length = 3) := Kd.budget.len hn
      have HC2 : Hid (wr.rangeAt b (off + k * 3) cs) := hc
      obtain ⟨css, k1, k2, k3⟩ := HO.out
      rw [show (l.take k).length = k by rw [List.length_take]; omega] at k3
      have HK1 := Lib.hid k1
      have HK2 := Lib.hid k2
      have HK3 := Lib.hid k3
      have hsz := HB.out.size
      clear hn hc k1 k2 k3
      go_wp2_with (first | fail | (with_reducible refine wpList_load_mid rfl 245 _ rfl b (off + k * 3) rfl cs _ HC2.out Tryz.underlying245 rfl ?_ ?_; (rw [HL.out]; kernel_rfl)))
      refine (Of8_calls _ l[k] _ HV.out (HF.out _ (List.getElem_mem hlt))).mono ?_
      rintro e w1 ⟨cs2, rfl, t, hb⟩
      have HT := Lib.hid t
      obtain ⟨B0, d0, rfl, -⟩ := t
      have HB1 := Lib.hid hb
      have hsz1 := hb.size
      clear hb
      go_wp2_with (at_builtin; go_must (refine wpList_app _ w.heap.size 49 242 i0 (.agg #[.string ⟨#[]⟩, .slice none 0 0, .int .i64 0]) 3 48 Tryz.underlying49 hi hz0 hz1 hz2 rfl (by decide) _ k css.flatten (own_below HK3.out (Below.then HB1.out (alloc_below _ _))) (some ⟨w1.heap.size, 0, none⟩) 1 1 [.string l[k].name, .slice B0 l[k].sel.length d0, .int .i64 l[k].floor] rfl (fun e => by cases e) ?c1 ?c2 ?c3 ?c4 ?c5 _ _ rfl rfl rfl rfl ?_))
      · rintro ad h
        cases h
        exact World.news_of_block (cs := #[.string l[k].name, .slice B0 l[k].sel.length d0, .int .i64 l[k].floor]) (t := 242) (fr := (0, 0)) (heap_alloc_new w1 _)
      · simp [Value.oneCell']
      · simp only [maxLen]; omega
      · omega
      · simp; omega
      intro v2 w2 ho2 hg2 hv2
      have HB2 : Hid (Below w.heap.size w w2) := grown_then HB.out (Below.then HB1.out (alloc_below _ _)) hg2 (fun q hq => (HK3.out.lt q hq).1)
      have HO2 : Hid (Kd.budget.Own w2 w.heap.size 242 w.heap.size v2 (l.take (k + 1))) := by
        show Kd.Own _ _ _ _ _ _ _
        rw [List.take_succ_eq_append_getElem hlt]
        exact Kd.Own.snoc HK1.out HK2.out (Kd.budget.mono (nx_below (alloc_below _ _)) (Kd.budget.mono (nx_new hsz (fun q hq => .inl (HK3.out.lt q hq).2) rfl) HT.out)) (Below.then HB1.out (alloc_below _ _)) (by rw [show (l.take k).length = k by rw [List.length_take]; omega]; exact ho2) hg2 (by simpa using hv2)
      clear ho2 hg2 hv2
      go_wp2
      go_roundw
      case rel => exact ⟨k + 1, by omega, by go_num, HO2.out, HB2.out⟩
      case measure => simp [intOf]; omega
    · obtain rfl : k = l.length := by omega
      have ho := HO.out
      rw [List.take_length] at ho
      obtain ⟨A2, c2, rfl, s2⟩ := (ho.S (Nat.le_refl _) (by omega)).val
      have S2 := Lib.hid s2
      clear ho HO s2
      go_wp2
      go_ret
      exact ⟨_, _, rfl, S2.out, HB.out⟩

end Go.Proofs.YtnmhicgbdalniaaGreatDoor
namespace Go.Proofs.YtnmhicgbdalniaaGreatDoor
open Go.RowKit


theorem info_OfAll7 : (Tryz.prog.info? 45).map (fun i => (i.zero, i.size, i.bytes)) = some (some (.agg #[.string ⟨#[]⟩, .string ⟨#[]⟩, .int .i64 0, .slice none 0 0, .slice none 0 0, .slice none 0 0, .slice none 0 0, .string ⟨#[]⟩, .int .i64 0, .string ⟨#[]⟩, .bool false]), 11, 184) := by kernel_rfl
set_option maxHeartbeats 2000000 in
set_option maxRecDepth 100000 in
theorem OfAll7_calls (v : Value) (l : List Pd) (w : World) (hs : Kd.pod.S (vw w []) v l) (hl : l.length ≤ 1000) (hf : ∀ x ∈ l, x.Few) : Calls Tryz.prog 84 #[v] w (OfDone Kd.pod l w) := by
  obtain ⟨i0, hi, hz0, hz1, hz2⟩ := info_parts info_OfAll7
  obtain ⟨A, cap, rfl, hs⟩ := hs.val
  have HS := Lib.hid hs
  have HF := Lib.hid hf
  clear hs hf
  go_enter Tryz.func84, Tryz.ntmps84
  go_wp2
  go_loopw [3, 4] (fun o i wr => ∃ k : Nat, k ≤ l.length ∧ i = .int .i64 k ∧ Hid (Kd.pod.Own wr w.heap.size 45 w.heap.size o (l.take k)) ∧ Hid (Below w.heap.size w wr)) (fun _ i _ => l.length - (intOf i).toNat)
  case atStart => exact ⟨0, Nat.zero_le _, rfl, Kd.Own.nil _ _ _ _ _, Below.refl _ _⟩
  case round =>
    obtain ⟨k, hk, rfl, HO, HB⟩ := hrel
    by_cases hlt : k < l.length
    · obtain ⟨b, off, cs, rfl, hn, hc⟩ := HS.out.both HB.out k hlt
      have HV : Hid (Kd.pod.V (vw wr []) (.agg cs.toArray) l[k]) := ⟨cs, rfl, Kd.pod.mono (vw_below HB.out) hn⟩
      have HL : Hid (cs.length = 11) := Kd.pod.len hn
      have HC2 : Hid (wr.rangeAt b (off + k * 11) cs) := hc
      obtain ⟨css, k1, k2, k3⟩ := HO.out
      rw [show (l.take k).length = k by rw [List.length_take]; omega] at k3
      have HK1 := Lib.hid k1
      have HK2 := Lib.hid k2
      have HK3 := Lib.hid k3
      have hsz := HB.out.size
      clear hn hc k1 k2 k3
      go_wp2_with (first | fail | (with_reducible refine wpList_load_mid rfl 35 _ rfl b (off + k * 11) rfl cs _ HC2.out Tryz.underlying35 rfl ?_ ?_; (rw [HL.out]; kernel_rfl)))
      refine (Of7_calls _ l[k] _ HV.out (HF.out _ (List.getElem_mem hlt))).mono ?_
      rintro e w1 ⟨cs2, rfl, t, hb⟩
      have HT := Lib.hid t
      obtain ⟨B0, d0, B1, d1, B2, d2, B3, d3, rfl, -⟩ := t
      have HB1 := Lib.hid hb
      have hsz1 := hb.size
      clear hb
      go_wp2_with (at_builtin; go_must (refine wpList_app _ w.heap.size 48 45 i0 (.agg #[.string ⟨#[]⟩, .string ⟨#[]⟩, .int .i64 0, .slice none 0 0, .slice none 0 0, .slice none 0 0, .slice none 0 0, .string ⟨#[]⟩, .int .i64 0, .string ⟨#[]⟩, .bool false]) 11 184 Tryz.underlying48 hi hz0 hz1 hz2 rfl (by decide) _ k css.flatten (own_below HK3.out (Below.then HB1.out (alloc_below _ _))) (some ⟨w1.heap.size, 0, none⟩) 1 1 [.string l[k].name, .string l[k].owner, .int .i64 l[k].prio, .slice B0 l[k].need.length d0, .slice B1 l[k].labels.length d1, .slice B2 l[k].sel.length d2, .slice B3 l[k].tols.length d3, .string l[k].key, .int .i64 l[k].most, .string l[k].node, .bool l[k].hold] rfl (fun e => by cases e) ?c1 ?c2 ?c3 ?c4 ?c5 _ _ rfl rfl rfl rfl ?_))
      · rintro ad h
        cases h
        exact World.news_of_block (cs := #[.string l[k].name, .string l[k].owner, .int .i64 l[k].prio, .slice B0 l[k].need.length d0, .slice B1 l[k].labels.length d1, .slice B2 l[k].sel.length d2, .slice B3 l[k].tols.length d3, .string l[k].key, .int .i64 l[k].most, .string l[k].node, .bool l[k].hold]) (t := 45) (fr := (0, 0)) (heap_alloc_new w1 _)
      · simp [Value.oneCell']
      · simp only [maxLen]; omega
      · omega
      · simp; omega
      intro v2 w2 ho2 hg2 hv2
      have HB2 : Hid (Below w.heap.size w w2) := grown_then HB.out (Below.then HB1.out (alloc_below _ _)) hg2 (fun q hq => (HK3.out.lt q hq).1)
      have HO2 : Hid (Kd.pod.Own w2 w.heap.size 45 w.heap.size v2 (l.take (k + 1))) := by
        show Kd.Own _ _ _ _ _ _ _
        rw [List.take_succ_eq_append_getElem hlt]
        exact Kd.Own.snoc HK1.out HK2.out (Kd.pod.mono (nx_below (alloc_below _ _)) (Kd.pod.mono (nx_new hsz (fun q hq => .inl (HK3.out.lt q hq).2) rfl) HT.out)) (Below.then HB1.out (alloc_below _ _)) (by rw [show (l.take k).length = k by rw [List.length_take]; omega]; exact ho2) hg2 (by simpa using hv2)
      clear ho2 hg2 hv2
      go_wp2
      go_roundw
      case rel => exact ⟨k + 1, by omega, by go_num, HO2.out, HB2.out⟩
      case measure => simp [intOf]; omega
    · obtain rfl : k = l.length := by omega
      have ho := HO.out
      rw [List.take_length] at ho
      obtain ⟨A2, c2, rfl, s2⟩ := (ho.S (Nat.le_refl _) (by omega)).val
      have S2 := Lib.hid s2
      clear ho HO s2
      go_wp2
      go_ret
      exact ⟨_, _, rfl, S2.out, HB.out⟩

set_option maxHeartbeats 4000000 in
set_option maxRecDepth 100000 in
theorem Of9_calls (v : Value) (x : St) (w : World) (hv : Kd.state.V (vw w []) v x) (hf : x.Few) : Calls Tryz.prog 20 #[v] w (OneDone Kd.state x w) := by
  obtain ⟨cs, rfl, A0, c0, A1, c1, A2, c2, rfl, s0, s1, s2⟩ := hv
  have S0 := Lib.hid s0
  have S1 := Lib.hid s1
  have S2 := Lib.hid s2
  have l0 := hf.1
  have l1 := hf.2.1
  have l2 := hf.2.2.1.1
  clear s0 s1 s2
  have HFW := Lib.hid hf
  clear hf
  go_enter Tryz.func20, Tryz.ntmps20
  go_wp2
  obtain ⟨W, hW⟩ : ∃ W : World, W = ((w.alloc (.cells #[.slice A0 x.nodes.length c0, .slice A1 x.pods.length c1, .slice A2 x.budgets.length c2] 26)).alloc (.cells #[.slice none 0 0, .slice none 0 0, .slice none 0 0] 51)) := ⟨_, rfl⟩
  rw [← hW]
  have HB : Hid (Below w.heap.size w W.drew) := by
    rw [hW]; exact Below.then (Below.then (alloc_below _ _) (alloc_below _ _)) (drewN_below _ 1)
  have HC : Hid (W.drew.heap[w.heap.size]? = some (.cells #[.slice A0 x.nodes.length c0, .slice A1 x.pods.length c1, .slice A2 x.budgets.length c2] 26 (0, 0))) := by
    rw [hW]; exact (blk_old _ _ (by simp)).trans (blk_last _ _)
  have HZ : Hid (W.drew.heap[w.heap.size + 1]? = some (.cells #[.slice none 0 0, .slice none 0 0, .slice none 0 0] 51 (0, 0))) := by
    rw [hW]; exact (show _ = w.heap.size + 1 by simp : (w.alloc (.cells #[.slice A0 x.nodes.length c0, .slice A1 x.pods.length c1, .slice A2 x.budgets.length c2] 26)).heap.size = w.heap.size + 1) ▸ blk_last _ _
  have hsz : w.heap.size + 2 ≤ W.drew.heap.size := by
    rw [hW]; show _ ≤ (World.alloc _ _).heap.size; simp
  clear hW
  obtain ⟨z, zf⟩ := blk_all HC.out
  go_region_held3 (fun w' => ∀ j, w'.cell? ⟨w.heap.size, j, none⟩ = #[.slice A0 x.nodes.length c0, .slice A1 x.pods.length c1, .slice A2 x.budgets.length c2][j]?) (first | go_keep | exact z) (first
    | (go_at_call 83; refine (OfAll6_calls _ x.nodes _ (by exact S0.out.mono (vw_below HB.out)) (by omega) HFW.out.2.2.2.1).mono ?_; rintro e w1 ⟨B0, d0, rfl, t0, hb⟩; (try replace T1 := Lib.hid (T1.out.mono (nx_below hb))); (try replace T2 := Lib.hid (T2.out.mono (nx_below hb))); have T0 := Lib.hid (t0.mono (nx_lo hsz)); have hsz2 := Nat.le_trans hsz hb.size; replace HB := Lib.hid (Below.then HB.out hb); replace HC := Lib.hid ((hb.block _ (blk_lt HC.out)).trans HC.out); replace HZ := Lib.hid ((hb.block _ (blk_lt HZ.out)).trans HZ.out); clear z zf hb t0 hsz; (try clear y yf); obtain ⟨z, zf⟩ := blk_all HC.out; obtain ⟨y, yf⟩ := blk_all HZ.out; have hsz := hsz2; clear hsz2)
    | (go_at_call 84; refine (OfAll7_calls _ x.pods _ (by exact S1.out.mono (vw_below HB.out)) (by omega) HFW.out.2.2.2.2).mono ?_; rintro e w1 ⟨B1, d1, rfl, t0, hb⟩; (try replace T0 := Lib.hid (T0.out.mono (nx_below hb))); (try replace T2 := Lib.hid (T2.out.mono (nx_below hb))); have T1 := Lib.hid (t0.mono (nx_lo hsz)); have hsz2 := Nat.le_trans hsz hb.size; replace HB := Lib.hid (Below.then HB.out hb); replace HC := Lib.hid ((hb.block _ (blk_lt HC.out)).trans HC.out); replace HZ := Lib.hid ((hb.block _ (blk_lt HZ.out)).trans HZ.out); clear z zf hb t0 hsz; (try clear y yf); obtain ⟨z, zf⟩ := blk_all HC.out; obtain ⟨y, yf⟩ := blk_all HZ.out; have hsz := hsz2; clear hsz2)
    | (go_at_call 85; refine (OfAll8_calls _ x.budgets _ (by exact S2.out.mono (vw_below HB.out)) (by omega) HFW.out.2.2.1.2).mono ?_; rintro e w1 ⟨B2, d2, rfl, t0, hb⟩; (try replace T0 := Lib.hid (T0.out.mono (nx_below hb))); (try replace T1 := Lib.hid (T1.out.mono (nx_below hb))); have T2 := Lib.hid (t0.mono (nx_lo hsz)); have hsz2 := Nat.le_trans hsz hb.size; replace HB := Lib.hid (Below.then HB.out hb); replace HC := Lib.hid ((hb.block _ (blk_lt HC.out)).trans HC.out); replace HZ := Lib.hid ((hb.block _ (blk_lt HZ.out)).trans HZ.out); clear z zf hb t0 hsz; (try clear y yf); obtain ⟨z, zf⟩ := blk_all HC.out; obtain ⟨y, yf⟩ := blk_all HZ.out; have hsz := hsz2; clear hsz2))
  have hset := setCells_all (cs := [.slice B0 x.nodes.length d0, .slice B1 x.pods.length d1, .slice B2 x.budgets.length d2]) HZ.out rfl
  have hbl := Below.setCells HB.out (Nat.le_succ _) [.slice B0 x.nodes.length d0, .slice B1 x.pods.length d1, .slice B2 x.budgets.length d2] 0
  have hnx := nx_setCells (w := w1) (lo' := w.heap.size) [.slice B0 x.nodes.length d0, .slice B1 x.pods.length d1, .slice B2 x.budgets.length d2] 0 (Nat.lt_succ_self (w.heap.size + 1)) (by omega)
  go_wp2
  change bodyPost _ _ _ _ _ (w1.setCells (w.heap.size + 1) 0 [.slice B0 x.nodes.length d0, .slice B1 x.pods.length d1, .slice B2 x.budgets.length d2])
  exact ret_row1 (cs := [.slice B0 x.nodes.length d0, .slice B1 x.pods.length d1, .slice B2 x.budgets.length d2]) rfl rfl hset Tryz.underlying51 rfl (by kernel_rfl) rfl ⟨[.slice B0 x.nodes.length d0, .slice B1 x.pods.length d1, .slice B2 x.budgets.length d2], rfl, ⟨B0, d0, B1, d1, B2, d2, rfl, T0.out.mono hnx, T1.out.mono hnx, T2.out.mono hnx⟩, hbl⟩

end Go.Proofs.YtnmhicgbdalniaaGreatDoor
namespace Go.Proofs.YtnmhicgbdalniaaGreatDoor
open Go.RowKit Go.Sort

theorem ret_ib {a : Int} {b : Bool} {r : Int × Bool} (h : r = (a, b)) : Ending.returned (.tuple #[.int .i64 a, .bool b]) = .returned (.tuple #[.int .i64 r.1, .bool r.2]) := by rw [h]
theorem V_below {α : Type} {d : Kd α} {w w' : World} {v : Value} {x : α} (h : d.V (vw w []) v x) (hb : Below w.heap.size w w') : d.V (vw w' []) v x := by
  obtain ⟨cs, h1, h2⟩ := h
  exact ⟨cs, h1, d.mono (vw_below hb) h2⟩
set_option maxHeartbeats 4000000 in
set_option maxRecDepth 100000 in
theorem rSkew_calls (vs vp : Value) (s : St) (p : Pd) (name : ByteArray) (w : World) (hs : Kd.state.V (vw w []) vs s) (hp : Kd.pod.V (vw w []) vp p) (hn : s.nodes.length ≤ 1000) (hpn : s.pods.length ≤ 1000) :
    Calls Tryz.prog 142 #[vs, vp, .string name] w (SkewDone s p name w) := by
  obtain ⟨cs, rfl, hks⟩ := hs
  obtain ⟨cp, rfl, hkp⟩ := hp
  have hvs : Kd.state.V (vw w []) (.agg cs.toArray) s := ⟨cs, rfl, hks⟩
  have hvp : Kd.pod.V (vw w []) (.agg cp.toArray) p := ⟨cp, rfl, hkp⟩
  obtain ⟨A1, c1, A2, c2, A3, c3, rfl, s1, -, -⟩ := hks
  obtain ⟨P1, p1, P2, p2, P3, p3, P4, p4, rfl, -⟩ := hkp
  have HVS : Hid (Kd.state.V (vw w []) (.agg #[.slice A1 s.nodes.length c1, .slice A2 s.pods.length c2, .slice A3 s.budgets.length c3]) s) := hvs
  have HVP : Hid (Kd.pod.V (vw w []) (.agg #[.string p.name, .string p.owner, .int .i64 p.prio, .slice P1 p.need.length p1, .slice P2 p.labels.length p2, .slice P3 p.sel.length p3, .slice P4 p.tols.length p4, .string p.key, .int .i64 p.most, .string p.node, .bool p.hold]) p) := hvp
  have S1 := Lib.hid s1
  clear s1 hvs hvp
  go_enter Tryz.func142, Tryz.ntmps142
  go_upto_region 1 with fail
  obtain ⟨W, hW⟩ : ∃ W : World, W = ((w.alloc (.cells #[.slice A1 s.nodes.length c1, .slice A2 s.pods.length c2, .slice A3 s.budgets.length c3] 51)).alloc (.cells #[.string p.name, .string p.owner, .int .i64 p.prio, .slice P1 p.need.length p1, .slice P2 p.labels.length p2, .slice P3 p.sel.length p3, .slice P4 p.tols.length p4, .string p.key, .int .i64 p.most, .string p.node, .bool p.hold] 45)) := ⟨_, rfl⟩
  rw [← hW]
  have hbw : Below w.heap.size w W := by rw [hW]; exact Below.then (alloc_below _ _) (alloc_below _ _)
  have k1 : W.heap[w.heap.size]? = some (.cells #[.slice A1 s.nodes.length c1, .slice A2 s.pods.length c2, .slice A3 s.budgets.length c3] 51 (0, 0)) := by
    rw [hW]; exact (blk_old _ _ (by simp)).trans (blk_last _ _)
  have k2 : W.heap[w.heap.size + 1]? = some (.cells #[.string p.name, .string p.owner, .int .i64 p.prio, .slice P1 p.need.length p1, .slice P2 p.labels.length p2, .slice P3 p.sel.length p3, .slice P4 p.tols.length p4, .string p.key, .int .i64 p.most, .string p.node, .bool p.hold] 45 (0, 0)) := by
    rw [hW]
    have := blk_last (w.alloc (.cells #[.slice A1 s.nodes.length c1, .slice A2 s.pods.length c2, .slice A3 s.budgets.length c3] 51)) (.cells #[.string p.name, .string p.owner, .int .i64 p.prio, .slice P1 p.need.length p1, .slice P2 p.labels.length p2, .slice P3 p.sel.length p3, .slice P4 p.tols.length p4, .string p.key, .int .i64 p.most, .string p.node, .bool p.hold] 45)
    simpa using this
  have HK0 := Lib.hid (And.intro k1 k2)
  have HBW := Lib.hid hbw
  obtain ⟨z, zf⟩ := blk_all k1
  obtain ⟨y, yf⟩ := blk_all k2
  have l1 := blk_lt k1
  have l2 := blk_lt k2
  clear hbw k1 k2 hW
  have e1 := empty_beq p.key
  by_cases ha : p.key = ⟨#[]⟩
  · have hz : skewV s p name = (0, true) := by unfold skewV; rw [if_pos ha]
    rw [decide_eq_true ha] at e1
    have HZ := Lib.hid hz
    clear hz ha
    go_wp2
    go_ret2
    exact ⟨ret_ib HZ.out, HBW.out⟩
  have hz : skewV s p name = if (domV s name p.key).2 then ((hereV s p (domV s name p.key).1 : Int) - leastV s p (domV s name p.key).1 (hereV s p (domV s name p.key).1) (domsV s.nodes p.key), true) else (0, false) := by unfold skewV; rw [if_neg ha]
  rw [decide_eq_false ha] at e1
  obtain ⟨d, ok, hd⟩ : ∃ d ok, domV s name p.key = (d, ok) := ⟨_, _, rfl⟩
  rw [hd] at hz
  have HZ := Lib.hid hz
  have HD := Lib.hid hd
  clear ha hz hd
  have HS1 : Hid (Kd.node.S (vw W []) (.slice A1 s.nodes.length c1) s.nodes) := S1.out.mono (vw_below HBW.out)
  go_wp2_with fail
  refine (FindNode_calls _ s.nodes name _ HS1.out).mono ?_
  rintro e w1 ⟨cs, rfl, hk1, hb⟩
  obtain ⟨D1, g1, D2, g2, D3, g3, rfl, -, -, t2, -⟩ := hk1
  have T2 := Lib.hid t2
  have HB3 := Lib.hid hb
  have u1 := (hb.block _ l1).trans HK0.out.1
  have u2 := (hb.block _ l2).trans HK0.out.2
  clear z zf y yf
  obtain ⟨z, zf⟩ := blk_all u1
  obtain ⟨y, yf⟩ := blk_all u2
  have l1' := blk_lt u1
  have l2' := blk_lt u2
  have HU1 := Lib.hid (And.intro u1 u2)
  clear hb t2 u1 u2
  go_wp2_with fail
  refine (Label_calls _ (findV s.nodes name).1.labels p.key _ (T2.out.mono (vw_alloc _))).mono ?_
  unfold GetSame
  rw [show getV (findV s.nodes name).1.labels p.key = (d, ok) from HD.out]
  rintro e w2 ⟨rfl, rfl⟩
  simp only
  have hokk : (findV s.nodes name).2 = false → ok = false := fun h => by
    have h1 : (findV s.nodes name).1 = zNd := find_none h
    have h2 : getV (findV s.nodes name).1.labels p.key = (d, ok) := HD.out
    rw [h1] at h2
    have h3 : getV zNd.labels p.key = (⟨#[]⟩, false) := rfl
    rw [h3] at h2
    injection h2 with _ h2
    exact h2.symm
  obtain ⟨fk, hfk⟩ : ∃ fk, (findV s.nodes name).2 = fk := ⟨_, rfl⟩
  rw [hfk] at hokk ⊢
  clear hfk
  have HB4 := Lib.hid (Below.then HBW.out (Below.then HB3.out (alloc_below w1 (.cells #[.string (findV s.nodes name).1.name, .slice D1 (findV s.nodes name).1.cap.length g1, .slice D2 (findV s.nodes name).1.labels.length g2, .slice D3 (findV s.nodes name).1.taints.length g3, .bool (findV s.nodes name).1.cordon] 150))))
  cases ok with
  | false =>
    have hz2 : skewV s p name = (0, false) := HZ.out
    have HZ2 := Lib.hid hz2
    clear hz2 hokk
    cases fk with
    | false =>
      go_wp2
      go_ret2
      exact ⟨ret_ib HZ2.out, HB4.out⟩
    | true =>
      go_wp2
      go_ret2
      exact ⟨ret_ib HZ2.out, HB4.out⟩
  | true =>
    cases fk with
    | false => exact absurd (hokk rfl) (by simp)
    | true =>
      clear hokk
      have hz2 : skewV s p name = ((hereV s p d : Int) - leastV s p d (hereV s p d) (domsV s.nodes p.key), true) := HZ.out
      have HZ2 := Lib.hid hz2
      clear hz2
      have hue := alloc_below w1 (.cells #[.string (findV s.nodes name).1.name, .slice D1 (findV s.nodes name).1.cap.length g1, .slice D2 (findV s.nodes name).1.labels.length g2, .slice D3 (findV s.nodes name).1.taints.length g3, .bool (findV s.nodes name).1.cordon] 150)
      have v1 := (hue.block _ l1').trans HU1.out.1
      have v2 := (hue.block _ l2').trans HU1.out.2
      generalize hU : w1.alloc (.cells #[.string (findV s.nodes name).1.name, .slice D1 (findV s.nodes name).1.cap.length g1, .slice D2 (findV s.nodes name).1.labels.length g2, .slice D3 (findV s.nodes name).1.taints.length g3, .bool (findV s.nodes name).1.cordon] 150) = U at HB4 v1 v2 ⊢
      clear z zf y yf hue hU
      obtain ⟨z, zf⟩ := blk_all v1
      obtain ⟨y, yf⟩ := blk_all v2
      have HUU := Lib.hid (And.intro v1 v2)
      clear v1 v2
      have z0 : U.cell? ⟨w.heap.size, 0, none⟩ = some (.slice A1 s.nodes.length c1) := z 0
      have z1 : U.cell? ⟨w.heap.size, 1, none⟩ = some (.slice A2 s.pods.length c2) := z 1
      have z2 : U.cell? ⟨w.heap.size, 2, none⟩ = some (.slice A3 s.budgets.length c3) := z 2
      clear z
      go_wp2_with fail
      refine (rCount_calls _ _ s p d _ (V_below HVS.out HB4.out) (V_below HVP.out HB4.out)).mono ?_
      rintro e w3 ⟨rfl, hb3⟩
      have HB5 := Lib.hid (Below.then HB4.out hb3)
      have v1 := (hb3.block _ (blk_lt HUU.out.1)).trans HUU.out.1
      have v2 := (hb3.block _ (blk_lt HUU.out.2)).trans HUU.out.2
      have HUV := Lib.hid (And.intro v1 v2)
      clear z0 z1 z2 y yf zf hb3
      obtain ⟨z, zf⟩ := blk_all v1
      obtain ⟨y, yf⟩ := blk_all v2
      clear v1 v2
      have hcl := countV_le s p d s.pods
      go_wp2_with fail
      refine (rDomains_calls _ s p.key _ (V_below HVS.out HB5.out) hn).mono ?_
      rintro e w4 ⟨sv, rfl, ho, hb4⟩
      have HB6 := Lib.hid (Below.then HB5.out hb4)
      have v1 := (hb4.block _ (blk_lt HUV.out.1)).trans HUV.out.1
      have v2 := (hb4.block _ (blk_lt HUV.out.2)).trans HUV.out.2
      have HUW := Lib.hid (And.intro v1 v2)
      clear z zf y yf hb4 v1 v2
      have HO := Lib.hid ho
      clear ho
      have hdl := domsV_len s.nodes p.key
      have hpk := countV_le s p d s.pods
      have hle0 : ∀ k, leastV s p d (hereV s p d) ((domsV s.nodes p.key).take k) ≤ hereV s p d := fun k => leastV_le s p d _ _
      obtain ⟨l, hl⟩ : ∃ l, domsV s.nodes p.key = l := ⟨_, rfl⟩
      rw [hl] at hdl hle0 HZ2 HO
      have HLE := Lib.hid hle0
      clear hl hle0
      rcases own_view HO.out with ⟨rfl, rfl⟩ | ⟨g, c, rfl, hbg, hgl, hncap, hcm, hH⟩
      · go_wp2
        go_loop [13, 15] (fun m i => i = .int .i64 0 ∧ m = .int .i64 (hereV s p d : Nat)) (fun _ _ => 0)
        case atStart => exact ⟨rfl, by simp [hereV]⟩
        case round =>
          obtain ⟨rfl, rfl⟩ := hrel
          have hh : hereV s p d = countV s p d s.pods + 1 := rfl
          have HX : Hid (skewV s p name = (wrap64 ((countV s p d s.pods : Int) + 1 - (hereV s p d : Nat)), true)) := by
            show _ = _
            rw [HZ2.out, IntWalk.wrap64_in _ (by omega), hh]
            push_cast
            rfl
          clear hh
          go_wp2
          go_ret2
          exact ⟨ret_ib HX.out, HB6.out⟩
      · have HH := Lib.hid hH
        have b5 : l.length ≤ c := hncap
        clear hH hbg hncap hcm
        have l3 := blk_lt HUW.out.1
        have l4 := blk_lt HUW.out.2
        go_wp2
        go_loopw [13, 15] (fun m i wr => ∃ k : Nat, k ≤ l.length ∧ i = .int .i64 k ∧ m = .int .i64 (leastV s p d (hereV s p d) (l.take k) : Nat) ∧ Hid (Below w4.heap.size w4 wr)) (fun _ i _ => l.length - (intOf i).toNat)
        case atStart => exact ⟨0, Nat.zero_le _, rfl, by simp [hereV, leastV], Below.refl _ _⟩
        case round =>
          obtain ⟨k, hk, rfl, rfl, HB⟩ := hrel
          by_cases hlt : k < l.length
          · have q1 := (HB.out.block _ l3).trans HUW.out.1
            have q2 := (HB.out.block _ l4).trans HUW.out.2
            obtain ⟨z, zf⟩ := blk_all q1
            obtain ⟨y, yf⟩ := blk_all q2
            have r1 := blk_lt q1
            have r2 := blk_lt q2
            have r3 : g < wr.heap.size := Nat.lt_of_lt_of_le hgl HB.out.size
            have c0 : wr.cell? ⟨g, k, none⟩ = some (.string (ba l[k])) := (HB.out.cell (p := ⟨g, k, none⟩) hgl).trans (HH.out k hlt)
            have HBD : Hid (Below w4.heap.size w4 wr.drew) := Below.then HB.out (drewN_below wr 1)
            have HV1 : Hid (Kd.state.V (vw wr.drew []) (.agg #[.slice A1 s.nodes.length c1, .slice A2 s.pods.length c2, .slice A3 s.budgets.length c3]) s) := V_below HVS.out (Below.then HB6.out HBD.out)
            have HV2 : Hid (Kd.pod.V (vw wr.drew []) (.agg #[.string p.name, .string p.owner, .int .i64 p.prio, .slice P1 p.need.length p1, .slice P2 p.labels.length p2, .slice P3 p.sel.length p3, .slice P4 p.tols.length p4, .string p.key, .int .i64 p.most, .string p.node, .bool p.hold]) p) := V_below HVP.out (Below.then HB6.out HBD.out)
            have b1 : (0 : Int) ≤ (k : Int) := by omega
            have b2 : (k : Int) < (l.length : Int) := by omega
            clear q1 q2
            go_wp2_with fail
            go_region_held3 (fun w' => (∀ j, w'.cell? ⟨w.heap.size, j, none⟩ = (#[.slice A1 s.nodes.length c1, .slice A2 s.pods.length c2, .slice A3 s.budgets.length c3] : Array Value)[j]?) ∧ (∀ j, w'.cell? ⟨w.heap.size + 1, j, none⟩ = (#[.string p.name, .string p.owner, .int .i64 p.prio, .slice P1 p.need.length p1, .slice P2 p.labels.length p2, .slice P3 p.sel.length p3, .slice P4 p.tols.length p4, .string p.key, .int .i64 p.most, .string p.node, .bool p.hold] : Array Value)[j]?) ∧ w'.cell? ⟨g, k, none⟩ = some (.string (ba l[k]))) (first | go_keep | exact ⟨f0, f1, f2⟩ | exact ⟨z, y, c0⟩)
              (first | (go_at_call 219; refine (rCount_calls _ _ s p (ba l[k]) _ (by exact HV1.out) (by exact HV2.out)).mono ?_; rintro e w5 ⟨rfl, hb5⟩; have f0 : ∀ j, w5.cell? ⟨w.heap.size, j, none⟩ = (#[.slice A1 s.nodes.length c1, .slice A2 s.pods.length c2, .slice A3 s.budgets.length c3] : Array Value)[j]? := (fun j => (hb5.cell (p := ⟨w.heap.size, j, none⟩) r1).trans (z j)); have f1 : ∀ j, w5.cell? ⟨w.heap.size + 1, j, none⟩ = (#[.string p.name, .string p.owner, .int .i64 p.prio, .slice P1 p.need.length p1, .slice P2 p.labels.length p2, .slice P3 p.sel.length p3, .slice P4 p.tols.length p4, .string p.key, .int .i64 p.most, .string p.node, .bool p.hold] : Array Value)[j]? := (fun j => (hb5.cell (p := ⟨w.heap.size + 1, j, none⟩) r2).trans (y j)); have f2 : w5.cell? ⟨g, k, none⟩ = some (.string (ba l[k])) := (hb5.cell (p := ⟨g, k, none⟩) r3).trans c0; have HB7 : Hid (Below w4.heap.size w4 w5) := Below.then HBD.out hb5; clear hb5))
            all_goals
              have hsn := leastV_snoc s p d (hereV s p d) hlt
              have hm := HLE.out k
              have hcl2 := countV_le s p (ba l[k]) s.pods
              have hh : hereV s p d = countV s p d s.pods + 1 := rfl
              have e6 : (!(ba l[k]).toList == d.toList) = !decide (ba l[k] = d) := by
                by_cases h : ba l[k] = d
                · rw [str_beq h, decide_eq_true h]
                · rw [str_nbeq h, decide_eq_false h]
              by_cases hdk : ba l[k] = d
              · rw [decide_eq_true hdk] at e6
                rw [if_pos hdk] at hsn
                have HSN := Lib.hid hsn
                clear hsn hdk
                go_wp2
                go_roundw
                case rel => exact ⟨k + 1, by omega, by go_num, by rw [HSN.out], HB7.out⟩
                case measure => simp [intOf]; omega
              · rw [decide_eq_false hdk] at e6
                rw [if_neg hdk] at hsn
                by_cases hmn : countV s p (ba l[k]) s.pods < leastV s p d (hereV s p d) (l.take k)
                · rw [Nat.min_eq_right (Nat.le_of_lt hmn)] at hsn
                  have HSN := Lib.hid hsn
                  have hmb : decide (countV s p (ba l[k]) s.pods < leastV s p d (hereV s p d) (l.take k)) = true := decide_eq_true hmn
                  clear hsn hdk
                  go_wp2
                  go_roundw
                  case rel => exact ⟨k + 1, by omega, by go_num, by rw [HSN.out], HB7.out⟩
                  case measure => simp [intOf]; omega
                · rw [Nat.min_eq_left (Nat.le_of_not_lt hmn)] at hsn
                  have HSN := Lib.hid hsn
                  have hmb : decide (countV s p (ba l[k]) s.pods < leastV s p d (hereV s p d) (l.take k)) = false := decide_eq_false hmn
                  clear hsn hdk
                  go_wp2
                  go_roundw
                  case rel => exact ⟨k + 1, by omega, by go_num, by rw [HSN.out], HB7.out⟩
                  case measure => simp [intOf]; omega
          · obtain rfl : k = l.length := by omega
            have hm := HLE.out l.length
            have hh : hereV s p d = countV s p d s.pods + 1 := rfl
            have HX : Hid (skewV s p name = (wrap64 ((countV s p d s.pods : Int) + 1 - (leastV s p d (hereV s p d) l : Nat)), true)) := by
              rw [List.take_length] at hm
              show _ = _
              rw [HZ2.out, IntWalk.wrap64_in _ (by omega), hh]
              push_cast
              rfl
            clear hh hm
            have HB8 := Lib.hid (Below.then HB6.out HB.out)
            go_wp2
            go_ret2
            exact ⟨ret_ib HX.out, HB8.out⟩
end Go.Proofs.YtnmhicgbdalniaaGreatDoor
namespace Go.Proofs.YtnmhicgbdalniaaGreatDoor
open Go.RowKit Go.Sort

/-- The closure tells by a variable that is not its own, or breaks off. -/
def SkewTold (s : St) (p : Pd) (name : ByteArray) (b : Nat) (w : World) (e : Ending) (w' : World) : Prop :=
  ((domV s name p.key).2 = true ∧ e = .returned (.tuple #[]) ∧ ∃ w1, Below w.heap.size w w1 ∧ w' = w1.setCell ⟨b, 0, none⟩ (.int .i64 ((hereV s p (domV s name p.key).1 : Int) - leastV s p (domV s name p.key).1 (hereV s p (domV s name p.key).1) (domsV s.nodes p.key))))
  ∨ ((domV s name p.key).2 = false ∧ e = .panicked [{ v := stopV 10, recovered := false }] ∧ Below w.heap.size w w')
set_option maxHeartbeats 4000000 in
set_option maxRecDepth 100000 in
theorem skew1_stops (b0 b1 b2 b3 : Nat) (s : St) (p : Pd) (name : ByteArray) (cs cp : List Value) (w : World) (h0 : w.heap[b0]? = some (.cells cs.toArray 26 (0, 0))) (hks : Kd.state.K (vw w []) s cs)
    (h1 : w.cell? ⟨b1, 0, none⟩ = some (.string name)) (h2 : w.cell? ⟨b2, 7, none⟩ = some (.string p.key)) (hd : (domV s name p.key).2 = false) :
    Calls Tryz.prog 176 #[.pointer (some ⟨b0, 0, none⟩), .pointer (some ⟨b1, 0, none⟩), .pointer (some ⟨b2, 0, none⟩), .pointer (some ⟨b3, 0, none⟩)] w (SkewTold s p name b3 w) := by
  have hv : Kd.state.V (vw w []) (.agg cs.toArray) s := ⟨cs, rfl, hks⟩
  obtain ⟨A1, c1, A2, c2, A3, c3, rfl, -⟩ := hks
  obtain ⟨z, zf⟩ := blk_all h0
  have HV : Hid (Kd.state.V (vw w []) (.agg #[.slice A1 s.nodes.length c1, .slice A2 s.pods.length c2, .slice A3 s.budgets.length c3]) s) := hv
  have q0 : w.cell? ⟨b0, 0, none⟩ = some (.slice A1 s.nodes.length c1) := z 0
  have q1 : w.cell? ⟨b0, 1, none⟩ = some (.slice A2 s.pods.length c2) := z 1
  have q2 : w.cell? ⟨b0, 2, none⟩ = some (.slice A3 s.budgets.length c3) := z 2
  clear hv h0 z
  have HD := Lib.hid hd
  clear hd
  go_enter Tryz.func176, Tryz.ntmps176
  go_wp2_with fail
  refine (domain_calls _ s name p.key _ (by exact HV.out)).mono ?_
  rintro e w1 ⟨hb, ⟨h, -⟩ | ⟨-, rfl⟩⟩
  · rw [HD.out] at h; cases h
  · exact ⟨rfl, .inr ⟨HD.out, rfl, hb⟩⟩
end Go.Proofs.YtnmhicgbdalniaaGreatDoor
namespace Go.Proofs.YtnmhicgbdalniaaGreatDoor
open Go.RowKit Go.Sort

set_option maxHeartbeats 4000000 in
set_option maxRecDepth 100000 in
theorem skew1_tells (b0 b1 b2 b3 : Nat) (s : St) (p : Pd) (name : ByteArray) (cs cp : List Value) (w : World) (h0 : w.heap[b0]? = some (.cells cs.toArray 26 (0, 0))) (hks : Kd.state.K (vw w []) s cs)
    (h1 : w.cell? ⟨b1, 0, none⟩ = some (.string name)) (h2 : w.heap[b2]? = some (.cells cp.toArray 35 (0, 0))) (hkp : Kd.pod.K (vw w []) p cp) (h3 : w.heap[b3]? = some (.cells #[.int .i64 0] 3 (0, 0))) (hn : s.nodes.length ≤ 1000) (hpn : s.pods.length ≤ 1000) (hd : (domV s name p.key).2 = true) :
    Calls Tryz.prog 176 #[.pointer (some ⟨b0, 0, none⟩), .pointer (some ⟨b1, 0, none⟩), .pointer (some ⟨b2, 0, none⟩), .pointer (some ⟨b3, 0, none⟩)] w (SkewTold s p name b3 w) := by
  have hvs : Kd.state.V (vw w []) (.agg cs.toArray) s := ⟨cs, rfl, hks⟩
  have hvp : Kd.pod.V (vw w []) (.agg cp.toArray) p := ⟨cp, rfl, hkp⟩
  obtain ⟨A1, c1, A2, c2, A3, c3, rfl, -⟩ := hks
  obtain ⟨P1, p1, P2, p2, P3, p3, P4, p4, rfl, -⟩ := hkp
  have HVS : Hid (Kd.state.V (vw w []) (.agg #[.slice A1 s.nodes.length c1, .slice A2 s.pods.length c2, .slice A3 s.budgets.length c3]) s) := hvs
  have HVP : Hid (Kd.pod.V (vw w []) (.agg #[.string p.name, .string p.owner, .int .i64 p.prio, .slice P1 p.need.length p1, .slice P2 p.labels.length p2, .slice P3 p.sel.length p3, .slice P4 p.tols.length p4, .string p.key, .int .i64 p.most, .string p.node, .bool p.hold]) p) := hvp
  have HK := Lib.hid (And.intro h0 (And.intro h2 h3))
  obtain ⟨z, zf⟩ := blk_all h0
  obtain ⟨y, yf⟩ := blk_all h2
  have z0 : w.cell? ⟨b0, 0, none⟩ = some (.slice A1 s.nodes.length c1) := z 0
  have z1 : w.cell? ⟨b0, 1, none⟩ = some (.slice A2 s.pods.length c2) := z 1
  have z2 : w.cell? ⟨b0, 2, none⟩ = some (.slice A3 s.budgets.length c3) := z 2
  have l0 := blk_lt h0
  have l2 := blk_lt h2
  have l3 := blk_lt h3
  clear hvs hvp h0 h2 h3 z
  obtain ⟨d, ok, hdd⟩ : ∃ d ok, domV s name p.key = (d, ok) := ⟨_, _, rfl⟩
  rw [hdd] at hd
  simp only at hd
  subst hd
  have HD := Lib.hid hdd
  clear hdd
  go_enter Tryz.func176, Tryz.ntmps176
  go_wp2_with fail
  refine (domain_calls _ s name p.key _ (by exact HVS.out)).mono ?_
  unfold DomDone
  rw [HD.out]
  rintro e w1 ⟨hb, h⟩
  obtain ⟨-, rfl⟩ := h.resolve_right (by rintro ⟨h, -⟩; cases h)
  have HB1 := Lib.hid hb
  have v1 := (hb.block _ l0).trans HK.out.1
  have v2 := (hb.block _ l2).trans HK.out.2.1
  have HK1 := Lib.hid (And.intro v1 v2)
  clear z0 z1 z2 y zf yf hb h h1
  obtain ⟨z, zf⟩ := blk_all v1
  obtain ⟨y, yf⟩ := blk_all v2
  have l0' := blk_lt v1
  have l2' := blk_lt v2
  clear v1 v2
  go_wp2_with fail
  refine (Count_calls _ _ s p d _ (V_below HVS.out HB1.out) (V_below HVP.out HB1.out)).mono ?_
  rintro e w2 ⟨rfl, hb⟩
  have HB2 := Lib.hid (Below.then HB1.out hb)
  have v1 := (hb.block _ l0').trans HK1.out.1
  have v2 := (hb.block _ l2').trans HK1.out.2
  have HK2 := Lib.hid (And.intro v1 v2)
  clear z zf y yf hb
  obtain ⟨z, zf⟩ := blk_all v1
  obtain ⟨y, yf⟩ := blk_all v2
  have l0'' := blk_lt v1
  have l2'' := blk_lt v2
  have hpk := countV_le s p d s.pods
  clear v1 v2
  go_wp2_with fail
  refine (Domains_calls _ s p.key _ (V_below HVS.out HB2.out) hn).mono ?_
  rintro e w3 ⟨sv, rfl, ho, hb⟩
  have HB3 := Lib.hid (Below.then HB2.out hb)
  have v1 := (hb.block _ l0'').trans HK2.out.1
  have v2 := (hb.block _ l2'').trans HK2.out.2
  have HUW := Lib.hid (And.intro v1 v2)
  have HO := Lib.hid ho
  clear z zf y yf hb v1 v2 ho
  have hdl := domsV_len s.nodes p.key
  have hle0 : ∀ k, leastV s p d (hereV s p d) ((domsV s.nodes p.key).take k) ≤ hereV s p d := fun k => leastV_le s p d _ _
  have HT : Hid (∀ w', (∃ w1, Below w.heap.size w w1 ∧ w' = w1.setCell ⟨b3, 0, none⟩ (.int .i64 ((hereV s p d : Int) - leastV s p d (hereV s p d) (domsV s.nodes p.key)))) → SkewTold s p name b3 w (.returned (.tuple #[])) w') := fun w' h => .inl ⟨by rw [HD.out], rfl, by rw [HD.out]; exact h⟩
  obtain ⟨l, hl⟩ : ∃ l, domsV s.nodes p.key = l := ⟨_, rfl⟩
  rw [hl] at hdl hle0 HO HT
  have HLE := Lib.hid hle0
  clear hl hle0
  rcases own_view HO.out with ⟨rfl, rfl⟩ | ⟨g, c, rfl, hbg, hgl, hncap, hcm, hH⟩
  · go_wp2
    go_loop [6, 25] (fun m i => i = .int .i64 0 ∧ m = .int .i64 (hereV s p d : Nat)) (fun _ _ => 0)
    case atStart => exact ⟨by simp [hereV], rfl⟩
    case round =>
      obtain ⟨rfl, rfl⟩ := hrel
      have hh : hereV s p d = countV s p d s.pods + 1 := rfl
      have v3 := (HB3.out.block _ l3).trans HK.out.2.2
      obtain ⟨x, xf⟩ := blk_all v3
      clear v3
      go_wp2
      have HX : Hid ((hereV s p d : Int) - leastV s p d (hereV s p d) [] = 0) := by
        show _ = _
        simp [leastV]
      go_end0
      exact HT.out _ ⟨_, HB3.out, by rw [HX.out]⟩
  · have HH := Lib.hid hH
    have b5 : l.length ≤ c := hncap
    clear hH hbg hncap hcm
    have l3' := blk_lt HUW.out.1
    have l4' := blk_lt HUW.out.2
    go_wp2
    go_loopw [6, 25] (fun m i wr => ∃ k : Nat, k ≤ l.length ∧ i = .int .i64 k ∧ m = .int .i64 (leastV s p d (hereV s p d) (l.take k) : Nat) ∧ Hid (Below w3.heap.size w3 wr)) (fun _ i _ => l.length - (intOf i).toNat)
    case atStart => exact ⟨0, Nat.zero_le _, rfl, by simp [hereV, leastV], Below.refl _ _⟩
    case round =>
      obtain ⟨k, hk, rfl, rfl, HB⟩ := hrel
      have q1 := (HB.out.block _ l3').trans HUW.out.1
      have q2 := (HB.out.block _ l4').trans HUW.out.2
      obtain ⟨z, zf⟩ := blk_all q1
      obtain ⟨y, yf⟩ := blk_all q2
      clear q1 q2
      by_cases hlt : k < l.length
      · have c0 : wr.cell? ⟨g, k, none⟩ = some (.string (ba l[k])) := (HB.out.cell (p := ⟨g, k, none⟩) hgl).trans (HH.out k hlt)
        have hgl2 : g < wr.heap.size := Nat.lt_of_lt_of_le hgl HB.out.size
        have hsn := leastV_snoc s p d (hereV s p d) hlt
        have hm := HLE.out k
        have hcl2 := countV_le s p (ba l[k]) s.pods
        have hh : hereV s p d = countV s p d s.pods + 1 := rfl
        have e6 : (!(ba l[k]).toList == d.toList) = !decide (ba l[k] = d) := by
          by_cases h : ba l[k] = d
          · rw [str_beq h, decide_eq_true h]
          · rw [str_nbeq h, decide_eq_false h]
        have b1 : (0 : Int) ≤ (k : Int) := by omega
        have b2 : (k : Int) < (l.length : Int) := by omega
        by_cases hdk : ba l[k] = d
        · rw [decide_eq_true hdk] at e6
          rw [if_pos hdk] at hsn
          have HSN := Lib.hid hsn
          clear hsn hdk hh
          go_wp2
          go_roundw
          case rel => exact ⟨k + 1, by omega, by go_num, by rw [HSN.out], HB.out⟩
          case measure => simp [intOf]; omega
        · rw [decide_eq_false hdk] at e6
          rw [if_neg hdk] at hsn
          have HSN := Lib.hid hsn
          clear hsn hdk hh
          go_wp2_with fail
          refine (Count_calls _ _ s p (ba l[k]) _ (V_below HVS.out (Below.then HB3.out HB.out)) (V_below HVP.out (Below.then HB3.out HB.out))).mono ?_
          rintro e w5 ⟨rfl, hb5⟩
          have HB7 := Lib.hid (Below.then HB.out hb5)
          clear hb5
          have hmi : (min (leastV s p d (hereV s p d) (l.take k) : Int) (countV s p (ba l[k]) s.pods : Int)) = ((min (leastV s p d (hereV s p d) (l.take k)) (countV s p (ba l[k]) s.pods) : Nat) : Int) := by omega
          have HMI := Lib.hid hmi
          clear hmi
          go_wp2
          go_roundw
          case rel => exact ⟨k + 1, by omega, by go_num, by rw [HSN.out, ← HMI.out], HB7.out⟩
          case measure => simp [intOf]; omega
      · obtain rfl : k = l.length := by omega
        have v3 := ((Below.then HB3.out HB.out).block _ l3).trans HK.out.2.2
        obtain ⟨x, xf⟩ := blk_all v3
        clear v3
        go_wp2
        have hm := HLE.out l.length
        rw [List.take_length] at hm
        have hh : hereV s p d = countV s p d s.pods + 1 := rfl
        have HX : Hid (wrap64 ((countV s p d s.pods : Int) + 1 - (leastV s p d (hereV s p d) l : Nat)) = (hereV s p d : Int) - leastV s p d (hereV s p d) l) := by
          show _ = _
          rw [IntWalk.wrap64_in _ (by omega), hh]
          push_cast
          rfl
        go_end0
        exact HT.out _ ⟨_, Below.then HB3.out HB.out, by rw [HX.out]⟩
end Go.Proofs.YtnmhicgbdalniaaGreatDoor
namespace Go.Proofs.YtnmhicgbdalniaaGreatDoor
open Go.RowKit Go.Sort

theorem callFunc_skew1 (args : Array Value) (w : World) : (callFunc 176 args).run Tryz.prog w = .ok (.enter 176 args) w := by
  simp [go_sem]
set_option maxHeartbeats 4000000 in
set_option maxRecDepth 100000 in
theorem Skew_calls (vs vp : Value) (s : St) (p : Pd) (name : ByteArray) (w : World) (hs : Kd.state.V (vw w []) vs s) (hp : Kd.pod.V (vw w []) vp p) (hn : s.nodes.length ≤ 1000) (hpn : s.pods.length ≤ 1000) :
    Calls Tryz.prog 100 #[vs, vp, .string name] w (SkewDone s p name w) := by
  have hmf : ∀ (fn : Fn) (first cap : Array Value) (w : World), (Instr.makeFunc fn first cap).run Tryz.prog w = .ok (.func fn first cap) w := fun _ _ _ _ => rfl
  obtain ⟨cs, rfl, hks⟩ := hs
  obtain ⟨cp, rfl, hkp⟩ := hp
  have HKS := Lib.hid hks
  have HKP := Lib.hid hkp
  obtain ⟨A1, c1, A2, c2, A3, c3, rfl, -⟩ := hks
  obtain ⟨P1, p1, P2, p2, P3, p3, P4, p4, rfl, -⟩ := hkp
  go_enter Tryz.func100, Tryz.ntmps100
  go_upto_region 1 with fail
  obtain ⟨W, hW⟩ : ∃ W : World, W = (((w.alloc (.cells #[.slice A1 s.nodes.length c1, .slice A2 s.pods.length c2, .slice A3 s.budgets.length c3] 26)).alloc (.cells #[.string p.name, .string p.owner, .int .i64 p.prio, .slice P1 p.need.length p1, .slice P2 p.labels.length p2, .slice P3 p.sel.length p3, .slice P4 p.tols.length p4, .string p.key, .int .i64 p.most, .string p.node, .bool p.hold] 35)).alloc (.cells #[.string name] 9)) := ⟨_, rfl⟩
  rw [← hW]
  have hbw : Below w.heap.size w W := by rw [hW]; exact Below.then (Below.then (alloc_below _ _) (alloc_below _ _)) (alloc_below _ _)
  have k1 : W.heap[w.heap.size]? = some (.cells [.slice A1 s.nodes.length c1, .slice A2 s.pods.length c2, .slice A3 s.budgets.length c3].toArray 26 (0, 0)) := by
    rw [hW]; exact (blk_old _ _ (by simp; omega)).trans ((blk_old _ _ (by simp)).trans (blk_last _ _))
  have k2 : W.heap[w.heap.size + 1]? = some (.cells #[.string p.name, .string p.owner, .int .i64 p.prio, .slice P1 p.need.length p1, .slice P2 p.labels.length p2, .slice P3 p.sel.length p3, .slice P4 p.tols.length p4, .string p.key, .int .i64 p.most, .string p.node, .bool p.hold] 35 (0, 0)) := by
    rw [hW]; exact (blk_old _ _ (by simp)).trans ((show _ = w.heap.size + 1 by simp : (w.alloc (.cells #[.slice A1 s.nodes.length c1, .slice A2 s.pods.length c2, .slice A3 s.budgets.length c3] 26)).heap.size = w.heap.size + 1) ▸ blk_last _ _)
  have k3 : W.heap[w.heap.size + 2]? = some (.cells #[.string name] 9 (0, 0)) := by
    rw [hW]
    have := blk_last ((w.alloc (.cells #[.slice A1 s.nodes.length c1, .slice A2 s.pods.length c2, .slice A3 s.budgets.length c3] 26)).alloc (.cells #[.string p.name, .string p.owner, .int .i64 p.prio, .slice P1 p.need.length p1, .slice P2 p.labels.length p2, .slice P3 p.sel.length p3, .slice P4 p.tols.length p4, .string p.key, .int .i64 p.most, .string p.node, .bool p.hold] 35)) (.cells #[.string name] 9)
    simpa using this
  have HK0 := Lib.hid (And.intro k1 (And.intro k2 k3))
  have HBW := Lib.hid hbw
  obtain ⟨y, yf⟩ := blk_all k2
  have l2 := blk_lt k2
  clear hbw k1 k2 k3 hW
  have e1 := empty_beq p.key
  by_cases ha : p.key = ⟨#[]⟩
  · have hz : skewV s p name = (0, true) := by unfold skewV; rw [if_pos ha]
    rw [decide_eq_true ha] at e1
    have HZ := Lib.hid hz
    clear hz ha
    go_wp2
    go_ret2
    exact ⟨ret_ib HZ.out, HBW.out⟩
  have hz : skewV s p name = if (domV s name p.key).2 then ((hereV s p (domV s name p.key).1 : Int) - leastV s p (domV s name p.key).1 (hereV s p (domV s name p.key).1) (domsV s.nodes p.key), true) else (0, false) := by unfold skewV; rw [if_neg ha]
  rw [decide_eq_false ha] at e1
  have HZ := Lib.hid hz
  clear ha hz
  go_wp2_with fail
  have hxs : (W.alloc (.cells #[.int .i64 0] 3)).heap.size = W.heap.size + 1 := by simp
  have hx : Below W.heap.size W ((W.alloc (.cells #[.int .i64 0] 3)).alloc (.cells #[.int .i64 0] 71)) := Below.then (alloc_below _ _) (alloc_below _ _)
  have x3 : ((W.alloc (.cells #[.int .i64 0] 3)).alloc (.cells #[.int .i64 0] 71)).heap[W.heap.size]? = some (.cells #[.int .i64 0] 3 (0, 0)) := (blk_old _ _ (by simp)).trans (blk_last _ _)
  have r1 := (hx.block _ (blk_lt HK0.out.1)).trans HK0.out.1
  have r2 := (hx.block _ (blk_lt HK0.out.2.1)).trans HK0.out.2.1
  have r3 := (hx.block _ (blk_lt HK0.out.2.2)).trans HK0.out.2.2
  have HXB := Lib.hid hx
  by_cases hd : (domV s name p.key).2 = true
  · have h := skew1_tells w.heap.size (w.heap.size + 1 + 1) (w.heap.size + 1) W.heap.size s p name _ _ _ r1 (Kd.state.mono (vw_below (Below.then HBW.out hx)) HKS.out) ((blk_all r3).1 0) r2 (Kd.pod.mono (vw_below (Below.then HBW.out hx)) HKP.out) x3 hn hpn hd
    have HX3 := Lib.hid x3
    clear r1 r2 r3 x3 hx
    obtain ⟨V, hV⟩ : ∃ V : Int, V = (hereV s p (domV s name p.key).1 : Int) - leastV s p (domV s name p.key).1 (hereV s p (domV s name p.key).1) (domsV s.nodes p.key) := ⟨_, rfl⟩
    have hz2 : skewV s p name = (V, true) := by rw [HZ.out, if_pos hd, hV]
    have HZ2 := Lib.hid hz2
    unfold SkewTold at h
    rw [← hV] at h
    clear hV hz2
    refine (try_calls _ _ _ (fun n w2 => n = 0 ∧ ∃ w1, Below ((W.alloc (.cells #[.int .i64 0] 3)).alloc (.cells #[.int .i64 0] 71)).heap.size ((W.alloc (.cells #[.int .i64 0] 3)).alloc (.cells #[.int .i64 0] 71)) w1 ∧ w2 = w1.setCell ⟨W.heap.size, 0, none⟩ (.int .i64 V)) (callFunc_skew1 _) (h.mono ?_)).mono ?_
    · rintro e w2 (⟨-, rfl, w1, hb, rfl⟩ | ⟨h0, -⟩)
      · exact ⟨(Below.heap_setCell w1 ⟨W.heap.size, 0, none⟩ _ _ (by simp)).trans (hb.block _ (by simp)), .inl ⟨_, rfl, rfl, w1, hb, rfl⟩⟩
      · rw [hd] at h0; cases h0
    clear h
    rintro e w' ⟨n, w2, rfl, ⟨rfl, w1, hb, rfl⟩, hb3⟩
    have v3 := (hb.block _ (by simp; omega)).trans HX3.out
    have v4 := heap_setCell_same (y := .int .i64 V) v3
    have l4 := blk_lt v4
    have v5 := (hb3.block _ l4 (by simp)).trans v4
    obtain ⟨x, xf⟩ := blk_all v5
    have hW2 : Below W.heap.size W (w1.setCell ⟨W.heap.size, 0, none⟩ (.int .i64 V)) := (Below.then HXB.out hb).setCell (p := ⟨W.heap.size, 0, none⟩) (Nat.le_refl _) _
    have HB4 : Hid (Below w.heap.size w w') := Below.then HBW.out (hW2.trans (hb3.below (by simp) hW2.size))
    clear hW2 v3 v4 v5 hb hb3
    go_wp2
    go_ret2
    exact ⟨ret_ib HZ2.out, HB4.out⟩
  · have hd2 : (domV s name p.key).2 = false := by simpa using hd
    have h := skew1_stops w.heap.size (w.heap.size + 1 + 1) (w.heap.size + 1) W.heap.size s p name _ [] _ r1 (Kd.state.mono (vw_below (Below.then HBW.out hx)) HKS.out) ((blk_all r3).1 0) ((blk_all r2).1 7) hd2
    have hz2 : skewV s p name = (0, false) := by rw [HZ.out, if_neg hd]
    have HZ2 := Lib.hid hz2
    have HX3 := Lib.hid x3
    clear r1 r2 r3 x3 hx hz2
    refine (try_calls _ _ _ (fun n w2 => n = 10 ∧ Below ((W.alloc (.cells #[.int .i64 0] 3)).alloc (.cells #[.int .i64 0] 71)).heap.size ((W.alloc (.cells #[.int .i64 0] 3)).alloc (.cells #[.int .i64 0] 71)) w2) (callFunc_skew1 _) (h.mono ?_)).mono ?_
    · rintro e w2 (⟨h0, -⟩ | ⟨-, rfl, hb⟩)
      · rw [hd2] at h0; cases h0
      · exact ⟨hb.block _ (by simp), .inr ⟨10, by omega, rfl, rfl, hb⟩⟩
    clear h
    rintro e w' ⟨n, w2, rfl, ⟨rfl, hb⟩, hb3⟩
    have v4 := (hb.block _ (by simp; omega)).trans HX3.out
    have l4 := blk_lt v4
    have v5 := (hb3.block _ l4 (by simp)).trans v4
    obtain ⟨x, xf⟩ := blk_all v5
    have hW2 := Below.then HXB.out hb
    have HB4 : Hid (Below w.heap.size w w') := Below.then HBW.out (hW2.trans (hb3.below (by simp) hW2.size))
    clear hW2 v4 v5 hb hb3
    go_wp2
    go_ret2
    exact ⟨ret_ib HZ2.out, HB4.out⟩
end Go.Proofs.YtnmhicgbdalniaaGreatDoor
