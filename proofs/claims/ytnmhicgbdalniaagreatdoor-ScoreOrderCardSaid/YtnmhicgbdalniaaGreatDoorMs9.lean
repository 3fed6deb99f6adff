import Derived.Test.YtnmhicgbdalniaaGreatDoorMs4
import Derived.Test.YtnmhicgbdalniaaGreatDoorMs8
import Derived.Deep.RegionHeld3
import Derived.Deep.DeepCutAuto
import Derived.Deep.CutBlock
import Derived.Deep.AppendLies
import Derived.OwnWalk
namespace Go.Proofs.YtnmhicgbdalniaaGreatDoor
open Go.RowKit

/-- A copy of a list, in memory that is new. -/
def OfDone {α : Type} (d : Kd α) (l : List α) (w : World) (e : Ending) (w' : World) : Prop := ∃ A c, e = .returned (.slice A l.length c) ∧ d.S (nx w' w.heap.size none) (.slice A l.length c) l ∧ Below w.heap.size w w'
theorem grown_then {w wr w1 w2 : World} {own : Option Nat} (h : Below w.heap.size w wr) (h1 : Below wr.heap.size wr w1) (hg : w1.grownBy w2 own) (ho : ∀ q, own = some q → w.heap.size ≤ q) : Below w.heap.size w w2 :=
  Below.grown (Below.then h h1) hg (Below.then h h1).size ho

theorem info_Of2 : (Tryz.prog.info? 217).map (fun i => (i.zero, i.size, i.bytes)) = some (some (.agg #[.string ⟨#[]⟩, .int .i64 0]), 2, 24) := by kernel_rfl
set_option maxHeartbeats 2000000 in
set_option maxRecDepth 100000 in
theorem Of2_calls (v : Value) (l : List Amt) (w : World) (hs : Kd.amt.S (vw w []) v l) (hl : l.length ≤ 1000) : Calls Tryz.prog 79 #[v] w (OfDone Kd.amt l w) := by
  obtain ⟨i0, hi, hz0, hz1, hz2⟩ := info_parts info_Of2
  obtain ⟨A, cap, rfl, hs⟩ := hs.val
  have HS := Lib.hid hs
  clear hs
  go_enter Tryz.func79, Tryz.ntmps79
  go_wp2
  go_loopw [3, 4] (fun o i wr => ∃ k : Nat, k ≤ l.length ∧ i = .int .i64 k ∧ Hid (Kd.amt.Own wr w.heap.size 217 w.heap.size o (l.take k)) ∧ Hid (Below w.heap.size w wr)) (fun _ i _ => l.length - (intOf i).toNat)
  case atStart => exact ⟨0, Nat.zero_le _, rfl, Kd.Own.nil _ _ _ _ _, Below.refl _ _⟩
  case round =>
    obtain ⟨k, hk, rfl, HO, HB⟩ := hrel
    by_cases hlt : k < l.length
    · obtain ⟨b, off, cs, rfl, ⟨-, hp⟩, -⟩ := HS.out.both HB.out k hlt
      have HP := Lib.hid hp
      have HCELL : Hid (∀ w2, Below w.heap.size w w2 → w2.cell? ⟨b, off + k * 2, none⟩ = some (.string l[k].name) ∧ w2.cell? ⟨b, off + k * 2 + 1, none⟩ = some (.int .i64 l[k].n)) := fun w2 h2 => by
        obtain ⟨b', off', hA, hc, -⟩ := (HS.out.mono (vw_below h2)).elemN k hlt
        injection hA with hA
        injection hA with e1 e2
        subst e1 e2
        exact ⟨hc 0 _ rfl, hc 1 _ rfl⟩
      obtain ⟨c0, c1⟩ := HCELL.out wr HB.out
      obtain ⟨css, k1, k2, k3⟩ := HO.out
      rw [show (l.take k).length = k by rw [List.length_take]; omega] at k3
      have HK1 := Lib.hid k1
      have HK2 := Lib.hid k2
      have HK3 := Lib.hid k3
      clear k1 k2 k3 hp
      have hsz := HB.out.size
      have b1 : (0 : Int) ≤ (k : Int) := by omega
      have b2 : (k : Int) < (l.length : Int) := by omega
      go_upto_region 5 with fail
      go_region_held3 (fun w' => w'.cell? ⟨b, off + k * 2, none⟩ = some (.string l[k].name) ∧ w'.cell? ⟨b, off + k * 2 + 1, none⟩ = some (.int .i64 l[k].n)) (first | go_keep | exact HCELL.out _ (by exact HB2.out))
        ((
          refine step_app _ w.heap.size 40 217 i0 (.agg #[.string ⟨#[]⟩, .int .i64 0]) 2 24 Tryz.underlying40 hi hz0 hz1 hz2 rfl (by decide) _ k css.flatten (by exact own_below HK3.out ⟨rfl, rfl, rfl, by simp, fun k hk => blk_old _ _ hk⟩) (some ⟨wr.heap.size, 0, none⟩) 1 1 [.string l[k].name, .int .i64 l[k].n] rfl (fun e => by cases e) ?_ (by simp [Value.oneCell']) (by simp only [maxLen]; omega) (by omega) (by simp; omega) _ _ (by rfl) (by rfl) (by rfl) (by rfl) ?_
          · rintro ad h
            cases h
            exact World.news_of_block (cs := #[.string l[k].name, .int .i64 l[k].n]) (t := 217) (fr := (0, 0)) (heap_alloc_new wr _)
          intro v2 w2 ho2 hg2 hv2
          have HB1 : Hid (Below wr.heap.size wr (wr.alloc (.cells #[.string l[k].name, .int .i64 l[k].n] 217)).drew) := ⟨rfl, rfl, rfl, by simp, fun k hk => blk_old wr _ hk⟩
          have HB2 : Hid (Below w.heap.size w w2) := grown_then HB.out HB1.out hg2 (fun q hq => (HK3.out.lt q hq).1)
          have HO2 : Hid (Kd.amt.Own w2 w.heap.size 217 w.heap.size v2 (l.take (k + 1))) := by
            show Kd.Own _ _ _ _ _ _ _
            rw [List.take_succ_eq_append_getElem hlt]
            exact Kd.Own.snoc HK1.out HK2.out ⟨rfl, HP.out⟩ HB1.out (by rw [show (l.take k).length = k by rw [List.length_take]; omega]; exact ho2) hg2 hv2
          clear ho2 hg2 hv2))
      all_goals
        go_wp2
        go_roundw
        case rel => exact ⟨k + 1, by omega, by go_num, HO2.out, HB2.out⟩
        case measure => simp [intOf]; omega
    · obtain rfl : k = l.length := by omega
      have ho := HO.out
      rw [List.take_length] at ho
      obtain ⟨A2, c2, rfl, s2⟩ := (ho.S (Nat.le_refl _) (by omega)).val
      have S2 := Lib.hid s2
      clear ho HO s2
      go_wp2
      go_ret
      exact ⟨_, _, rfl, S2.out, HB.out⟩

theorem info_Of4 : (Tryz.prog.info? 237).map (fun i => (i.zero, i.size, i.bytes)) = some (some (.agg #[.string ⟨#[]⟩, .string ⟨#[]⟩]), 2, 32) := by kernel_rfl
set_option maxHeartbeats 2000000 in
set_option maxRecDepth 100000 in
theorem Of4_calls (v : Value) (l : List Pair) (w : World) (hs : Kd.pair.S (vw w []) v l) (hl : l.length ≤ 1000) : Calls Tryz.prog 80 #[v] w (OfDone Kd.pair l w) := by
  obtain ⟨i0, hi, hz0, hz1, hz2⟩ := info_parts info_Of4
  obtain ⟨A, cap, rfl, hs⟩ := hs.val
  have HS := Lib.hid hs
  clear hs
  go_enter Tryz.func80, Tryz.ntmps80
  go_wp2
  go_loopw [3, 4] (fun o i wr => ∃ k : Nat, k ≤ l.length ∧ i = .int .i64 k ∧ Hid (Kd.pair.Own wr w.heap.size 237 w.heap.size o (l.take k)) ∧ Hid (Below w.heap.size w wr)) (fun _ i _ => l.length - (intOf i).toNat)
  case atStart => exact ⟨0, Nat.zero_le _, rfl, Kd.Own.nil _ _ _ _ _, Below.refl _ _⟩
  case round =>
    obtain ⟨k, hk, rfl, HO, HB⟩ := hrel
    by_cases hlt : k < l.length
    · obtain ⟨b, off, cs, rfl, ⟨-, hp⟩, -⟩ := HS.out.both HB.out k hlt
      have HP := Lib.hid hp
      have HCELL : Hid (∀ w2, Below w.heap.size w w2 → w2.cell? ⟨b, off + k * 2, none⟩ = some (.string l[k].key) ∧ w2.cell? ⟨b, off + k * 2 + 1, none⟩ = some (.string l[k].val)) := fun w2 h2 => by
        obtain ⟨b', off', hA, hc, -⟩ := (HS.out.mono (vw_below h2)).elemN k hlt
        injection hA with hA
        injection hA with e1 e2
        subst e1 e2
        exact ⟨hc 0 _ rfl, hc 1 _ rfl⟩
      obtain ⟨c0, c1⟩ := HCELL.out wr HB.out
      obtain ⟨css, k1, k2, k3⟩ := HO.out
      rw [show (l.take k).length = k by rw [List.length_take]; omega] at k3
      have HK1 := Lib.hid k1
      have HK2 := Lib.hid k2
      have HK3 := Lib.hid k3
      clear k1 k2 k3 hp
      have hsz := HB.out.size
      have b1 : (0 : Int) ≤ (k : Int) := by omega
      have b2 : (k : Int) < (l.length : Int) := by omega
      go_upto_region 5 with fail
      go_region_held3 (fun w' => w'.cell? ⟨b, off + k * 2, none⟩ = some (.string l[k].key) ∧ w'.cell? ⟨b, off + k * 2 + 1, none⟩ = some (.string l[k].val)) (first | go_keep | exact HCELL.out _ (by exact HB2.out))
        ((
          refine step_app _ w.heap.size 41 237 i0 (.agg #[.string ⟨#[]⟩, .string ⟨#[]⟩]) 2 32 Tryz.underlying41 hi hz0 hz1 hz2 rfl (by decide) _ k css.flatten (by exact own_below HK3.out ⟨rfl, rfl, rfl, by simp, fun k hk => blk_old _ _ hk⟩) (some ⟨wr.heap.size, 0, none⟩) 1 1 [.string l[k].key, .string l[k].val] rfl (fun e => by cases e) ?_ (by simp [Value.oneCell']) (by simp only [maxLen]; omega) (by omega) (by simp; omega) _ _ (by rfl) (by rfl) (by rfl) (by rfl) ?_
          · rintro ad h
            cases h
            exact World.news_of_block (cs := #[.string l[k].key, .string l[k].val]) (t := 237) (fr := (0, 0)) (heap_alloc_new wr _)
          intro v2 w2 ho2 hg2 hv2
          have HB1 : Hid (Below wr.heap.size wr (wr.alloc (.cells #[.string l[k].key, .string l[k].val] 237)).drew) := ⟨rfl, rfl, rfl, by simp, fun k hk => blk_old wr _ hk⟩
          have HB2 : Hid (Below w.heap.size w w2) := grown_then HB.out HB1.out hg2 (fun q hq => (HK3.out.lt q hq).1)
          have HO2 : Hid (Kd.pair.Own w2 w.heap.size 237 w.heap.size v2 (l.take (k + 1))) := by
            show Kd.Own _ _ _ _ _ _ _
            rw [List.take_succ_eq_append_getElem hlt]
            exact Kd.Own.snoc HK1.out HK2.out ⟨rfl, HP.out⟩ HB1.out (by rw [show (l.take k).length = k by rw [List.length_take]; omega]; exact ho2) hg2 hv2
          clear ho2 hg2 hv2))
      all_goals
        go_wp2
        go_roundw
        case rel => exact ⟨k + 1, by omega, by go_num, HO2.out, HB2.out⟩
        case measure => simp [intOf]; omega
    · obtain rfl : k = l.length := by omega
      have ho := HO.out
      rw [List.take_length] at ho
      obtain ⟨A2, c2, rfl, s2⟩ := (ho.S (Nat.le_refl _) (by omega)).val
      have S2 := Lib.hid s2
      clear ho HO s2
      go_wp2
      go_ret
      exact ⟨_, _, rfl, S2.out, HB.out⟩

theorem info_OfSel4 : (Tryz.prog.info? 238).map (fun i => (i.zero, i.size, i.bytes)) = some (some (.agg #[.int .i64 0, .string ⟨#[]⟩, .string ⟨#[]⟩]), 3, 40) := by kernel_rfl
set_option maxHeartbeats 2000000 in
set_option maxRecDepth 100000 in
theorem OfSel4_calls (v : Value) (l : List Term) (w : World) (hs : Kd.term.S (vw w []) v l) (hl : l.length ≤ 1000) : Calls Tryz.prog 81 #[v] w (OfDone Kd.term l w) := by
  obtain ⟨i0, hi, hz0, hz1, hz2⟩ := info_parts info_OfSel4
  obtain ⟨A, cap, rfl, hs⟩ := hs.val
  have HS := Lib.hid hs
  clear hs
  go_enter Tryz.func81, Tryz.ntmps81
  go_wp2
  go_loopw [3, 4] (fun o i wr => ∃ k : Nat, k ≤ l.length ∧ i = .int .i64 k ∧ Hid (Kd.term.Own wr w.heap.size 238 w.heap.size o (l.take k)) ∧ Hid (Below w.heap.size w wr)) (fun _ i _ => l.length - (intOf i).toNat)
  case atStart => exact ⟨0, Nat.zero_le _, rfl, Kd.Own.nil _ _ _ _ _, Below.refl _ _⟩
  case round =>
    obtain ⟨k, hk, rfl, HO, HB⟩ := hrel
    by_cases hlt : k < l.length
    · obtain ⟨b, off, cs, rfl, ⟨-, hp⟩, -⟩ := HS.out.both HB.out k hlt
      have HP := Lib.hid hp
      have HCELL : Hid (∀ w2, Below w.heap.size w w2 → w2.cell? ⟨b, off + k * 3, none⟩ = some (.int .i64 l[k].op) ∧ w2.cell? ⟨b, off + k * 3 + 1, none⟩ = some (.string l[k].key) ∧ w2.cell? ⟨b, off + k * 3 + 2, none⟩ = some (.string l[k].val)) := fun w2 h2 => by
        obtain ⟨b', off', hA, hc, -⟩ := (HS.out.mono (vw_below h2)).elemN k hlt
        injection hA with hA
        injection hA with e1 e2
        subst e1 e2
        exact ⟨hc 0 _ rfl, hc 1 _ rfl, hc 2 _ rfl⟩
      obtain ⟨c0, c1, c2⟩ := HCELL.out wr HB.out
      obtain ⟨css, k1, k2, k3⟩ := HO.out
      rw [show (l.take k).length = k by rw [List.length_take]; omega] at k3
      have HK1 := Lib.hid k1
      have HK2 := Lib.hid k2
      have HK3 := Lib.hid k3
      clear k1 k2 k3 hp
      have hsz := HB.out.size
      have b1 : (0 : Int) ≤ (k : Int) := by omega
      have b2 : (k : Int) < (l.length : Int) := by omega
      go_upto_region 5 with fail
      go_region_held3 (fun w' => w'.cell? ⟨b, off + k * 3, none⟩ = some (.int .i64 l[k].op) ∧ w'.cell? ⟨b, off + k * 3 + 1, none⟩ = some (.string l[k].key) ∧ w'.cell? ⟨b, off + k * 3 + 2, none⟩ = some (.string l[k].val)) (first | go_keep | exact HCELL.out _ (by exact HB2.out))
        ((
          refine step_app _ w.heap.size 42 238 i0 (.agg #[.int .i64 0, .string ⟨#[]⟩, .string ⟨#[]⟩]) 3 40 Tryz.underlying42 hi hz0 hz1 hz2 rfl (by decide) _ k css.flatten (by exact own_below HK3.out ⟨rfl, rfl, rfl, by simp, fun k hk => blk_old _ _ hk⟩) (some ⟨wr.heap.size, 0, none⟩) 1 1 [.int .i64 l[k].op, .string l[k].key, .string l[k].val] rfl (fun e => by cases e) ?_ (by simp [Value.oneCell']) (by simp only [maxLen]; omega) (by omega) (by simp; omega) _ _ (by rfl) (by rfl) (by rfl) (by rfl) ?_
          · rintro ad h
            cases h
            exact World.news_of_block (cs := #[.int .i64 l[k].op, .string l[k].key, .string l[k].val]) (t := 238) (fr := (0, 0)) (heap_alloc_new wr _)
          intro v2 w2 ho2 hg2 hv2
          have HB1 : Hid (Below wr.heap.size wr (wr.alloc (.cells #[.int .i64 l[k].op, .string l[k].key, .string l[k].val] 238)).drew) := ⟨rfl, rfl, rfl, by simp, fun k hk => blk_old wr _ hk⟩
          have HB2 : Hid (Below w.heap.size w w2) := grown_then HB.out HB1.out hg2 (fun q hq => (HK3.out.lt q hq).1)
          have HO2 : Hid (Kd.term.Own w2 w.heap.size 238 w.heap.size v2 (l.take (k + 1))) := by
            show Kd.Own _ _ _ _ _ _ _
            rw [List.take_succ_eq_append_getElem hlt]
            exact Kd.Own.snoc HK1.out HK2.out ⟨rfl, HP.out⟩ HB1.out (by rw [show (l.take k).length = k by rw [List.length_take]; omega]; exact ho2) hg2 hv2
          clear ho2 hg2 hv2))
      all_goals
        go_wp2
        go_roundw
        case rel => exact ⟨k + 1, by omega, by go_num, HO2.out, HB2.out⟩
        case measure => simp [intOf]; omega
    · obtain rfl : k = l.length := by omega
      have ho := HO.out
      rw [List.take_length] at ho
      obtain ⟨A2, c2, rfl, s2⟩ := (ho.S (Nat.le_refl _) (by omega)).val
      have S2 := Lib.hid s2
      clear ho HO s2
      go_wp2
      go_ret
      exact ⟨_, _, rfl, S2.out, HB.out⟩

theorem info_Of5 : (Tryz.prog.info? 211).map (fun i => (i.zero, i.size, i.bytes)) = some (some (.agg #[.string ⟨#[]⟩, .string ⟨#[]⟩, .bool false]), 3, 40) := by kernel_rfl
set_option maxHeartbeats 2000000 in
set_option maxRecDepth 100000 in
theorem Of5_calls (v : Value) (l : List Tnt) (w : World) (hs : Kd.tnt.S (vw w []) v l) (hl : l.length ≤ 1000) : Calls Tryz.prog 239 #[v] w (OfDone Kd.tnt l w) := by
  obtain ⟨i0, hi, hz0, hz1, hz2⟩ := info_parts info_Of5
  obtain ⟨A, cap, rfl, hs⟩ := hs.val
  have HS := Lib.hid hs
  clear hs
  go_enter Tryz.func239, Tryz.ntmps239
  go_wp2
  go_loopw [3, 4] (fun o i wr => ∃ k : Nat, k ≤ l.length ∧ i = .int .i64 k ∧ Hid (Kd.tnt.Own wr w.heap.size 211 w.heap.size o (l.take k)) ∧ Hid (Below w.heap.size w wr)) (fun _ i _ => l.length - (intOf i).toNat)
  case atStart => exact ⟨0, Nat.zero_le _, rfl, Kd.Own.nil _ _ _ _ _, Below.refl _ _⟩
  case round =>
    obtain ⟨k, hk, rfl, HO, HB⟩ := hrel
    by_cases hlt : k < l.length
    · obtain ⟨b, off, cs, rfl, ⟨-, hp⟩, -⟩ := HS.out.both HB.out k hlt
      have HP := Lib.hid hp
      have HCELL : Hid (∀ w2, Below w.heap.size w w2 → w2.cell? ⟨b, off + k * 3, none⟩ = some (.string l[k].key) ∧ w2.cell? ⟨b, off + k * 3 + 1, none⟩ = some (.string l[k].val) ∧ w2.cell? ⟨b, off + k * 3 + 2, none⟩ = some (.bool l[k].b)) := fun w2 h2 => by
        obtain ⟨b', off', hA, hc, -⟩ := (HS.out.mono (vw_below h2)).elemN k hlt
        injection hA with hA
        injection hA with e1 e2
        subst e1 e2
        exact ⟨hc 0 _ rfl, hc 1 _ rfl, hc 2 _ rfl⟩
      obtain ⟨c0, c1, c2⟩ := HCELL.out wr HB.out
      obtain ⟨css, k1, k2, k3⟩ := HO.out
      rw [show (l.take k).length = k by rw [List.length_take]; omega] at k3
      have HK1 := Lib.hid k1
      have HK2 := Lib.hid k2
      have HK3 := Lib.hid k3
      clear k1 k2 k3 hp
      have hsz := HB.out.size
      have b1 : (0 : Int) ≤ (k : Int) := by omega
      have b2 : (k : Int) < (l.length : Int) := by omega
      go_upto_region 5 with fail
      go_region_held3 (fun w' => w'.cell? ⟨b, off + k * 3, none⟩ = some (.string l[k].key) ∧ w'.cell? ⟨b, off + k * 3 + 1, none⟩ = some (.string l[k].val) ∧ w'.cell? ⟨b, off + k * 3 + 2, none⟩ = some (.bool l[k].b)) (first | go_keep | exact HCELL.out _ (by exact HB2.out))
        ((
          refine step_app _ w.heap.size 148 211 i0 (.agg #[.string ⟨#[]⟩, .string ⟨#[]⟩, .bool false]) 3 40 Tryz.underlying148 hi hz0 hz1 hz2 rfl (by decide) _ k css.flatten (by exact own_below HK3.out ⟨rfl, rfl, rfl, by simp, fun k hk => blk_old _ _ hk⟩) (some ⟨wr.heap.size, 0, none⟩) 1 1 [.string l[k].key, .string l[k].val, .bool l[k].b] rfl (fun e => by cases e) ?_ (by simp [Value.oneCell']) (by simp only [maxLen]; omega) (by omega) (by simp; omega) _ _ (by rfl) (by rfl) (by rfl) (by rfl) ?_
          · rintro ad h
            cases h
            exact World.news_of_block (cs := #[.string l[k].key, .string l[k].val, .bool l[k].b]) (t := 211) (fr := (0, 0)) (heap_alloc_new wr _)
          intro v2 w2 ho2 hg2 hv2
          have HB1 : Hid (Below wr.heap.size wr (wr.alloc (.cells #[.string l[k].key, .string l[k].val, .bool l[k].b] 211)).drew) := ⟨rfl, rfl, rfl, by simp, fun k hk => blk_old wr _ hk⟩
          have HB2 : Hid (Below w.heap.size w w2) := grown_then HB.out HB1.out hg2 (fun q hq => (HK3.out.lt q hq).1)
          have HO2 : Hid (Kd.tnt.Own w2 w.heap.size 211 w.heap.size v2 (l.take (k + 1))) := by
            show Kd.Own _ _ _ _ _ _ _
            rw [List.take_succ_eq_append_getElem hlt]
            exact Kd.Own.snoc HK1.out HK2.out ⟨rfl, HP.out⟩ HB1.out (by rw [show (l.take k).length = k by rw [List.length_take]; omega]; exact ho2) hg2 hv2
          clear ho2 hg2 hv2))
      all_goals
        go_wp2
        go_roundw
        case rel => exact ⟨k + 1, by omega, by go_num, HO2.out, HB2.out⟩
        case measure => simp [intOf]; omega
    · obtain rfl : k = l.length := by omega
      have ho := HO.out
      rw [List.take_length] at ho
      obtain ⟨A2, c2, rfl, s2⟩ := (ho.S (Nat.le_refl _) (by omega)).val
      have S2 := Lib.hid s2
      clear ho HO s2
      go_wp2
      go_ret
      exact ⟨_, _, rfl, S2.out, HB.out⟩

theorem info_OfTols5 : (Tryz.prog.info? 239).map (fun i => (i.zero, i.size, i.bytes)) = some (some (.agg #[.string ⟨#[]⟩, .string ⟨#[]⟩, .bool false]), 3, 40) := by kernel_rfl
set_option maxHeartbeats 2000000 in
set_option maxRecDepth 100000 in
theorem OfTols5_calls (v : Value) (l : List Tnt) (w : World) (hs : Kd.tnt.S (vw w []) v l) (hl : l.length ≤ 1000) : Calls Tryz.prog 82 #[v] w (OfDone Kd.tnt l w) := by
  obtain ⟨i0, hi, hz0, hz1, hz2⟩ := info_parts info_OfTols5
  obtain ⟨A, cap, rfl, hs⟩ := hs.val
  have HS := Lib.hid hs
  clear hs
  go_enter Tryz.func82, Tryz.ntmps82
  go_wp2
  go_loopw [3, 4] (fun o i wr => ∃ k : Nat, k ≤ l.length ∧ i = .int .i64 k ∧ Hid (Kd.tnt.Own wr w.heap.size 239 w.heap.size o (l.take k)) ∧ Hid (Below w.heap.size w wr)) (fun _ i _ => l.length - (intOf i).toNat)
  case atStart => exact ⟨0, Nat.zero_le _, rfl, Kd.Own.nil _ _ _ _ _, Below.refl _ _⟩
  case round =>
    obtain ⟨k, hk, rfl, HO, HB⟩ := hrel
    by_cases hlt : k < l.length
    · obtain ⟨b, off, cs, rfl, ⟨-, hp⟩, -⟩ := HS.out.both HB.out k hlt
      have HP := Lib.hid hp
      have HCELL : Hid (∀ w2, Below w.heap.size w w2 → w2.cell? ⟨b, off + k * 3, none⟩ = some (.string l[k].key) ∧ w2.cell? ⟨b, off + k * 3 + 1, none⟩ = some (.string l[k].val) ∧ w2.cell? ⟨b, off + k * 3 + 2, none⟩ = some (.bool l[k].b)) := fun w2 h2 => by
        obtain ⟨b', off', hA, hc, -⟩ := (HS.out.mono (vw_below h2)).elemN k hlt
        injection hA with hA
        injection hA with e1 e2
        subst e1 e2
        exact ⟨hc 0 _ rfl, hc 1 _ rfl, hc 2 _ rfl⟩
      obtain ⟨c0, c1, c2⟩ := HCELL.out wr HB.out
      obtain ⟨css, k1, k2, k3⟩ := HO.out
      rw [show (l.take k).length = k by rw [List.length_take]; omega] at k3
      have HK1 := Lib.hid k1
      have HK2 := Lib.hid k2
      have HK3 := Lib.hid k3
      clear k1 k2 k3 hp
      have hsz := HB.out.size
      have b1 : (0 : Int) ≤ (k : Int) := by omega
      have b2 : (k : Int) < (l.length : Int) := by omega
      go_upto_region 5 with fail
      go_region_held3 (fun w' => w'.cell? ⟨b, off + k * 3, none⟩ = some (.string l[k].key) ∧ w'.cell? ⟨b, off + k * 3 + 1, none⟩ = some (.string l[k].val) ∧ w'.cell? ⟨b, off + k * 3 + 2, none⟩ = some (.bool l[k].b)) (first | go_keep | exact HCELL.out _ (by exact HB2.out))
        ((
          refine step_app _ w.heap.size 43 239 i0 (.agg #[.string ⟨#[]⟩, .string ⟨#[]⟩, .bool false]) 3 40 Tryz.underlying43 hi hz0 hz1 hz2 rfl (by decide) _ k css.flatten (by exact own_below HK3.out ⟨rfl, rfl, rfl, by simp, fun k hk => blk_old _ _ hk⟩) (some ⟨wr.heap.size, 0, none⟩) 1 1 [.string l[k].key, .string l[k].val, .bool l[k].b] rfl (fun e => by cases e) ?_ (by simp [Value.oneCell']) (by simp only [maxLen]; omega) (by omega) (by simp; omega) _ _ (by rfl) (by rfl) (by rfl) (by rfl) ?_
          · rintro ad h
            cases h
            exact World.news_of_block (cs := #[.string l[k].key, .string l[k].val, .bool l[k].b]) (t := 239) (fr := (0, 0)) (heap_alloc_new wr _)
          intro v2 w2 ho2 hg2 hv2
          have HB1 : Hid (Below wr.heap.size wr (wr.alloc (.cells #[.string l[k].key, .string l[k].val, .bool l[k].b] 239)).drew) := ⟨rfl, rfl, rfl, by simp, fun k hk => blk_old wr _ hk⟩
          have HB2 : Hid (Below w.heap.size w w2) := grown_then HB.out HB1.out hg2 (fun q hq => (HK3.out.lt q hq).1)
          have HO2 : Hid (Kd.tnt.Own w2 w.heap.size 239 w.heap.size v2 (l.take (k + 1))) := by
            show Kd.Own _ _ _ _ _ _ _
            rw [List.take_succ_eq_append_getElem hlt]
            exact Kd.Own.snoc HK1.out HK2.out ⟨rfl, HP.out⟩ HB1.out (by rw [show (l.take k).length = k by rw [List.length_take]; omega]; exact ho2) hg2 hv2
          clear ho2 hg2 hv2))
      all_goals
        go_wp2
        go_roundw
        case rel => exact ⟨k + 1, by omega, by go_num, HO2.out, HB2.out⟩
        case measure => simp [intOf]; omega
    · obtain rfl : k = l.length := by omega
      have ho := HO.out
      rw [List.take_length] at ho
      obtain ⟨A2, c2, rfl, s2⟩ := (ho.S (Nat.le_refl _) (by omega)).val
      have S2 := Lib.hid s2
      clear ho HO s2
      go_wp2
      go_ret
      exact ⟨_, _, rfl, S2.out, HB.out⟩

end Go.Proofs.YtnmhicgbdalniaaGreatDoor
