import Derived.Test.YtnmhicgbdalniaaGreatDoorMs22
import Derived.Test.YtnmhicgbdalniaaGreatDoorMs28
import Derived.Test.YtnmhicgbdalniaaGreatDoorMs33
import Derived.Test.YtnmhicgbdalniaaGreatDoorMs37
import Derived.Deep.RegionHeld3
namespace Go.Proofs.YtnmhicgbdalniaaGreatDoor
open Go.RowKit Go.Lib

/-! What score.Order sorts by: its closure. -/
set_option maxHeartbeats 2000000 in
theorem Or3_calls (g : Nat) (T : TypeId) (a b c : Int) (w : World) (h : w.heap[g]? = some (.cells #[.int .i64 a, .int .i64 b, .int .i64 c] T (0, 0))) :
    Calls Tryz.prog 136 #[.slice (some ⟨g, 0, none⟩) 3 3] w fun e w' => e = .returned (.int .i64 (or3 a b c)) ∧ w' = w := by
  obtain ⟨z, zf⟩ := blk_all h
  have z0 : w.cell? ⟨g, 0, none⟩ = some (.int .i64 a) := z 0
  have z1 : w.cell? ⟨g, 1, none⟩ = some (.int .i64 b) := z 1
  have z2 : w.cell? ⟨g, 2, none⟩ = some (.int .i64 c) := z 2
  clear z h
  go_enter Tryz.func136, Tryz.ntmps136
  go_wp2
  go_loop [8] (fun i => ∃ k : Nat, k ≤ 3 ∧ i = .int .i64 k ∧ (0 < k → a = 0) ∧ (1 < k → b = 0) ∧ (2 < k → c = 0)) (fun i => 3 - (intOf i).toNat)
  case atStart => exact ⟨0, by omega, rfl, fun h => by omega, fun h => by omega, fun h => by omega⟩
  case round =>
    obtain ⟨k, hk, rfl, ha, hb, hc⟩ := hrel
    have hcs : k = 0 ∨ k = 1 ∨ k = 2 ∨ k = 3 := by omega
    rcases hcs with rfl | rfl | rfl | rfl
    · clear ha hb hc hk
      by_cases h0 : a = 0
      · subst h0
        go_wp2
        go_round
        case rel => exact ⟨1, by omega, by go_num, fun _ => by simp, fun h => by omega, fun h => by omega⟩
        case measure => simp [intOf]
      · have t1 : (a == 0) = false := by simp [h0]
        have HO : Hid (or3 a b c = a) := by show _ = _; unfold or3; rw [if_pos h0]
        clear h0
        go_wp2
        go_ret
        exact ⟨by rw [HO.out]; rfl, rfl⟩
    · have ha := ha (by omega)
      clear hb hc hk
      subst ha
      by_cases h0 : b = 0
      · subst h0
        go_wp2
        go_round
        case rel => exact ⟨2, by omega, by go_num, fun _ => by simp, fun _ => by simp, fun h => by omega⟩
        case measure => simp [intOf]
      · have t1 : (b == 0) = false := by simp [h0]
        have HO : Hid (or3 0 b c = b) := by show _ = _; unfold or3; rw [if_neg (by simp), if_pos h0]
        clear h0
        go_wp2
        go_ret
        exact ⟨by rw [HO.out]; rfl, rfl⟩
    · have ha := ha (by omega)
      have hb := hb (by omega)
      clear hc hk
      subst ha hb
      by_cases h0 : c = 0
      · subst h0
        go_wp2
        go_round
        case rel => exact ⟨3, by omega, by go_num, fun _ => by simp, fun _ => by simp, fun _ => by simp⟩
        case measure => simp [intOf]
      · have t1 : (c == 0) = false := by simp [h0]
        have HO : Hid (or3 0 0 c = c) := rfl
        clear h0
        go_wp2
        go_ret
        exact ⟨by rw [HO.out]; rfl, rfl⟩
    · have ha := ha (by omega)
      have hb := hb (by omega)
      have hc := hc (by omega)
      clear hk
      subst ha hb hc
      go_wp2
      go_ret
      exact ⟨rfl, rfl⟩
theorem zero_int (w : World) : (zeroValue 3).run Tryz.prog w = .ok (.int .i64 0) w := by kernel_rfl
theorem zero_flt (w : World) : (zeroValue 74).run Tryz.prog w = .ok (.float .f64 0) w := by kernel_rfl
theorem cmpF_range (x y : Fl) : cmpF x y = -1 ∨ cmpF x y = 0 ∨ cmpF x y = 1 := by
  unfold cmpF cmpI
  repeat' split
  all_goals simp
theorem or3_congr {a b c b' : Int} (h : b = b') : Ending.returned (.int .i64 (or3 a b c)) = .returned (.int .i64 (or3 a b' c)) := by rw [h]
set_option maxHeartbeats 8000000 in
set_option maxRecDepth 100000 in
theorem Order1_calls (ps pg po ms mo : Nat) (x y : ByteArray) (sx sy : Int) (fx fy : Nat) (hx : fx < 18446744073709551616) (hy : fy < 18446744073709551616) (pack : Bool) (ls lo : List (ByteArray × Value)) (W : World)
    (k1 : W.heap[ps]? = some (.cells #[.map (some ms)] 203 (0, 0))) (k2 : W.heap[pg]? = some (.cells #[.int .i64 (sgF pack 1)] 3 (0, 0))) (k3 : W.heap[po]? = some (.cells #[.map (some mo)] 204 (0, 0)))
    (m1 : MapAt W ms ls) (m2 : MapAt W mo lo) (n1 : (ls.map Prod.fst).Nodup) (n2 : (lo.map Prod.fst).Nodup) (x1 : (x, .int .i64 sx) ∈ ls) (y1 : (y, .int .i64 sy) ∈ ls) (x2 : (x, .float .f64 fx) ∈ lo) (y2 : (y, .float .f64 fy) ∈ lo) :
    Calls Tryz.prog 135 #[.string x, .string y, .pointer (some ⟨ps, 0, none⟩), .pointer (some ⟨pg, 0, none⟩), .pointer (some ⟨po, 0, none⟩)] W fun e w' => e = .returned (.int .i64 (or3 (cmpI sx sy) (sgF pack (cmpF (fl fx) (fl fy))) (compareBytes x.data.toList y.data.toList))) ∧ ∃ q os, w' = Go.Sort.grow (W.drewN q) os := by
  have q1 := map_look Tryz.underlying203 Tryz.underlying9 (w := W.drew) (m1.keep rfl) n1 (zero_int _) x1
  have q2 := map_look Tryz.underlying203 Tryz.underlying9 (w := W.drew) (m1.keep rfl) n1 (zero_int _) y1
  have q3 := map_look Tryz.underlying204 Tryz.underlying9 (w := W.drew) (m2.keep rfl) n2 (zero_flt _) x2
  have q4 := map_look Tryz.underlying204 Tryz.underlying9 (w := W.drew) (m2.keep rfl) n2 (zero_flt _) y2
  obtain ⟨z, zf⟩ := blk_all k1
  obtain ⟨u, uf⟩ := blk_all k2
  obtain ⟨v, vf⟩ := blk_all k3
  have N := Lib.hid (CmpF_calls fx fy hx hy)
  obtain ⟨c, hc⟩ : ∃ c, cmpF (fl fx) (fl fy) = c := ⟨_, rfl⟩
  have hr := cmpF_range (fl fx) (fl fy)
  rw [hc] at N hr ⊢
  have HR := Lib.hid hr
  have HW : Hid (∀ o, ∃ q os, W.drew.alloc o = Go.Sort.grow (W.drewN q) os) := fun o => by
    simp only [Go.Sort.alloc_eq_grow]
    exact ⟨1, _, rfl⟩
  have l1 := blk_lt k1
  have l2 := blk_lt k2
  have l3 := blk_lt k3
  have za : ∀ (o : Obj) (j : Nat), (W.alloc o).drew.cell? ⟨ps, j, none⟩ = #[.map (some ms)][j]? := fun o j => ((alloc_below W o).cell (p := ⟨ps, j, none⟩) l1).trans (z j)
  have ua : ∀ (o : Obj) (j : Nat), (W.alloc o).drew.cell? ⟨pg, j, none⟩ = #[.int .i64 (sgF pack 1)][j]? := fun o j => ((alloc_below W o).cell (p := ⟨pg, j, none⟩) l2).trans (u j)
  have va : ∀ (o : Obj) (j : Nat), (W.alloc o).drew.cell? ⟨po, j, none⟩ = #[.map (some mo)][j]? := fun o j => ((alloc_below W o).cell (p := ⟨po, j, none⟩) l3).trans (v j)
  clear k1 k2 k3 m1 m2 n1 n2 x1 y1 x2 y2 hx hy hc hr zf uf vf
  go_enter Tryz.func135, Tryz.ntmps135
  go_upto_region 1 with fail
  go_region_held3 (fun w' => (∀ j, w'.cell? ⟨ps, j, none⟩ = #[.map (some ms)][j]?) ∧ (∀ j, w'.cell? ⟨pg, j, none⟩ = #[.int .i64 (sgF pack 1)][j]?) ∧ ∀ j, w'.cell? ⟨po, j, none⟩ = #[.map (some mo)][j]?)
    (first | with_reducible exact ⟨z, u, v⟩ | with_reducible exact ⟨za _, ua _, va _⟩ | go_keep)
    (first
    | (go_at_call 137; (with_reducible refine (CmpI_calls sx sy _).mono ?_); rintro e w1 ⟨rfl, rfl⟩)
    | (go_at_call 62; (with_reducible refine (N.out _).mono ?_); rintro e w1 ⟨rfl, rfl⟩)
    | (go_at_call 120; (with_reducible refine (Tryz.strings_Compare x y _).mono ?_); rintro e w1 ⟨rfl, rfl⟩)
    | (go_at_call 136; refine (Or3_calls W.heap.size 3 _ _ _ _ (by exact blk_last W _)).mono ?_; rintro e w1 ⟨rfl, rfl⟩))
  all_goals
    go_wp2
    go_ret
    refine ⟨or3_congr ?_, HW.out _⟩
    have hr := HR.out
    unfold sgF
    cases pack <;> rcases hr with rfl | rfl | rfl <;> rfl
end Go.Proofs.YtnmhicgbdalniaaGreatDoor
