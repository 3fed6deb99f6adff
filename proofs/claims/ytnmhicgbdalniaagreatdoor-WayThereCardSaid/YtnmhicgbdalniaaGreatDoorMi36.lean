import Derived.Test.YtnmhicgbdalniaaGreatDoorMi25
import Derived.Test.YtnmhicgbdalniaaGreatDoorMi28
import Derived.Test.YtnmhicgbdalniaaGreatDoorMi32
import Derived.Test.YtnmhicgbdalniaaGreatDoorMi35
import Derived.Deep.RegionHeld3
namespace Go.Proofs.YtnmhicgbdalniaaGreatDoor
open Go.RowKit

/-! Which pods may be: the program's side. -/
set_option maxHeartbeats 16000000 in
set_option maxRecDepth 100000 in
theorem PodCheck_calls (v : Value) (x : Pd) (w : World) (hv : Kd.pod.V (vw w []) v x) : Calls Tryz.prog 230 #[v] w (NumDone (checkPod x) w) := by
  have HV0 := Lib.hid hv
  obtain ⟨cs, rfl, A1, c1, A2, c2, A3, c3, A4, c4, rfl, ⟨⟨s0, s1, hp1, hp2⟩, s7, ⟨hm1, hm2⟩, s9⟩, t3, t4, t5, t6⟩ := hv
  have S0 := Lib.hid s0
  have S1 := Lib.hid s1
  have S7 := Lib.hid s7
  have S9 := Lib.hid s9
  have T3 := Lib.hid t3
  have T4 := Lib.hid t4
  have T5 := Lib.hid t5
  have T6 := Lib.hid t6
  clear s0 s1 s7 s9 t3 t4 t5 t6
  have HX : Hid (firstE [namedV x.name, maybeV x.owner, prioV x, checkVec x.need, checkSet x.labels, checkSel x.sel, checkTols x.tols, maybeV x.key, mostV x, maybeV x.node] = checkPod x) := by
    show orV _ (orV _ (orV _ (orV _ (orV _ (orV _ (orV _ (orV _ (orV _ (orV _ 0))))))))) = _
    rw [orV_z]; rfl
  go_enter Tryz.func230, Tryz.ntmps230
  have HB : Hid (Below w.heap.size w (w.alloc (.cells #[.string x.name, .string x.owner, .int .i64 x.prio, .slice A1 x.need.length c1, .slice A2 x.labels.length c2, .slice A3 x.sel.length c3, .slice A4 x.tols.length c4, .string x.key, .int .i64 x.most, .string x.node, .bool x.hold] 35)).drew) := Below.then (alloc_below _ _) (drew_below _)
  have HQ : Hid ((w.alloc (.cells #[.string x.name, .string x.owner, .int .i64 x.prio, .slice A1 x.need.length c1, .slice A2 x.labels.length c2, .slice A3 x.sel.length c3, .slice A4 x.tols.length c4, .string x.key, .int .i64 x.most, .string x.node, .bool x.hold] 35)).drew.heap[w.heap.size]? = some (.cells #[.string x.name, .string x.owner, .int .i64 x.prio, .slice A1 x.need.length c1, .slice A2 x.labels.length c2, .slice A3 x.sel.length c3, .slice A4 x.tols.length c4, .string x.key, .int .i64 x.most, .string x.node, .bool x.hold] 35 (0, 0))) := blk_last _ _
  go_wp2
  generalize w.alloc (.cells #[.string x.name, .string x.owner, .int .i64 x.prio, .slice A1 x.need.length c1, .slice A2 x.labels.length c2, .slice A3 x.sel.length c3, .slice A4 x.tols.length c4, .string x.key, .int .i64 x.most, .string x.node, .bool x.hold] 35) = W at HB HQ ⊢
  obtain ⟨z, zf⟩ := blk_all HQ.out
  go_region_held3 (fun w' => ∀ j, w'.cell? ⟨w.heap.size, j, none⟩ = #[.string x.name, .string x.owner, .int .i64 x.prio, .slice A1 x.need.length c1, .slice A2 x.labels.length c2, .slice A3 x.sel.length c3, .slice A4 x.tols.length c4, .string x.key, .int .i64 x.most, .string x.node, .bool x.hold][j]?) (first | with_reducible exact z | with_reducible exact keep_alloc HQ.out _ | go_keep) (first
    | (go_at_call 285; refine (Named_calls _ _ S0.out).mono ?_; rintro e w1 ⟨rfl, hb⟩; replace HB := Lib.hid (Below.then HB.out hb); replace HQ := Lib.hid ((hb.block _ (blk_lt HQ.out)).trans HQ.out); clear z zf hb; obtain ⟨z, zf⟩ := blk_all HQ.out)
    | (go_at_call 289; refine (maybe_calls _ _ (by first | with_reducible exact S1.out | with_reducible exact S7.out | with_reducible exact S9.out)).mono ?_; rintro e w2 ⟨rfl, hb⟩; replace HB := Lib.hid (Below.then HB.out hb); replace HQ := Lib.hid ((hb.block _ (blk_lt HQ.out)).trans HQ.out); clear z zf hb; obtain ⟨z, zf⟩ := blk_all HQ.out)
    | (go_at_call 290; refine (prio_calls _ x _ (by exact Kd.V.mono (vw_below HB.out) HV0.out)).mono ?_; rintro e w3 ⟨rfl, hb⟩; replace HB := Lib.hid (Below.then HB.out hb); replace HQ := Lib.hid ((hb.block _ (blk_lt HQ.out)).trans HQ.out); clear z zf hb; obtain ⟨z, zf⟩ := blk_all HQ.out)
    | (go_at_call 286; refine (CheckVec2_calls _ x.need _ (by exact T3.out.mono (vw_below HB.out))).mono ?_; rintro e w4 ⟨rfl, hb⟩; replace HB := Lib.hid (Below.then HB.out hb); replace HQ := Lib.hid ((hb.block _ (blk_lt HQ.out)).trans HQ.out); clear z zf hb; obtain ⟨z, zf⟩ := blk_all HQ.out)
    | (go_at_call 287; refine (CheckSet2_calls _ x.labels _ (by exact T4.out.mono (vw_below HB.out))).mono ?_; rintro e w5 ⟨rfl, hb⟩; replace HB := Lib.hid (Below.then HB.out hb); replace HQ := Lib.hid ((hb.block _ (blk_lt HQ.out)).trans HQ.out); clear z zf hb; obtain ⟨z, zf⟩ := blk_all HQ.out)
    | (go_at_call 291; refine (CheckSel2_calls _ x.sel _ (by exact T5.out.mono (vw_below HB.out))).mono ?_; rintro e w6 ⟨rfl, hb⟩; replace HB := Lib.hid (Below.then HB.out hb); replace HQ := Lib.hid ((hb.block _ (blk_lt HQ.out)).trans HQ.out); clear z zf hb; obtain ⟨z, zf⟩ := blk_all HQ.out)
    | (go_at_call 292; refine (CheckTols2_calls _ x.tols _ (by exact T6.out.mono (vw_below HB.out))).mono ?_; rintro e w7 ⟨rfl, hb⟩; replace HB := Lib.hid (Below.then HB.out hb); replace HQ := Lib.hid ((hb.block _ (blk_lt HQ.out)).trans HQ.out); clear z zf hb; obtain ⟨z, zf⟩ := blk_all HQ.out)
    | (go_at_call 293; refine (most_calls _ x _ (by exact Kd.V.mono (vw_below HB.out) HV0.out)).mono ?_; rintro e w8 ⟨rfl, hb⟩; replace HB := Lib.hid (Below.then HB.out hb); replace HQ := Lib.hid ((hb.block _ (blk_lt HQ.out)).trans HQ.out); clear z zf hb; obtain ⟨z, zf⟩ := blk_all HQ.out)
    | (go_at_call 284; refine (First_blk _ _ [namedV x.name, maybeV x.owner, prioV x, checkVec x.need, checkSet x.labels, checkSel x.sel, checkTols x.tols, maybeV x.key, mostV x, maybeV x.node] _ (Nat.le_of_ble_eq_true rfl) (by exact blk_last _ _)).mono ?_; rintro e w9 ⟨rfl, hb9⟩; have hb := Below.then (alloc_below _ _) hb9; clear hb9; replace HB := Lib.hid (Below.then HB.out hb); replace HQ := Lib.hid ((hb.block _ (blk_lt HQ.out)).trans HQ.out); clear z zf hb; obtain ⟨z, zf⟩ := blk_all HQ.out))
  all_goals
    go_wp2
    go_ret
    exact ⟨ret_i HX.out, HB.out⟩
end Go.Proofs.YtnmhicgbdalniaaGreatDoor
