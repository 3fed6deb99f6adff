import Derived.Test.YtnmhicgbdalniaaGreatDoorMi10
import Derived.Test.YtnmhicgbdalniaaGreatDoorMi17
import Derived.Test.YtnmhicgbdalniaaGreatDoorMi25
import Derived.Test.YtnmhicgbdalniaaGreatDoorMi28
import Derived.Test.YtnmhicgbdalniaaGreatDoorMi30
import Derived.Deep.RegionHeld3
import Derived.Sort.Grow
namespace Go.Proofs.YtnmhicgbdalniaaGreatDoor
open Go.RowKit

/-! pod.Compare. -/
def cmpP (a b : Pd) : Int := or2 (Lib.compareInt b.prio a.prio) (Lib.compareBytes a.name.data.toList b.name.data.toList)
set_option maxHeartbeats 4000000 in
set_option maxRecDepth 100000 in
theorem Compare_grow (va vb : Value) (a b : Pd) (w : World) (ha : Kd.pod.V (vw w []) va a) (hb : Kd.pod.V (vw w []) vb b) :
    Calls Tryz.prog 93 #[va, vb] w (fun e w' => e = .returned (.int .i64 (cmpP a b)) ∧ ∃ q os, w' = Go.Sort.grow (w.drewN q) os) := by
  obtain ⟨cs, rfl, A1, c1, A2, c2, A3, c3, A4, c4, rfl, -⟩ := ha
  obtain ⟨cs, rfl, B1, d1, B2, d2, B3, d3, B4, d4, rfl, -⟩ := hb
  go_enter Tryz.func93, Tryz.ntmps93
  go_upto_region 1 with fail
  obtain ⟨W, hW⟩ : ∃ W : World, W = ((w.alloc (.cells #[.string a.name, .string a.owner, .int .i64 a.prio, .slice A1 a.need.length c1, .slice A2 a.labels.length c2, .slice A3 a.sel.length c3, .slice A4 a.tols.length c4, .string a.key, .int .i64 a.most, .string a.node, .bool a.hold] 35)).alloc (.cells #[.string b.name, .string b.owner, .int .i64 b.prio, .slice B1 b.need.length d1, .slice B2 b.labels.length d2, .slice B3 b.sel.length d3, .slice B4 b.tols.length d4, .string b.key, .int .i64 b.most, .string b.node, .bool b.hold] 35)) := ⟨_, rfl⟩
  rw [← hW]
  have hbw : Below w.heap.size w W := by rw [hW]; exact Below.then (alloc_below _ _) (alloc_below _ _)
  have k1 : W.heap[w.heap.size]? = some (.cells #[.string a.name, .string a.owner, .int .i64 a.prio, .slice A1 a.need.length c1, .slice A2 a.labels.length c2, .slice A3 a.sel.length c3, .slice A4 a.tols.length c4, .string a.key, .int .i64 a.most, .string a.node, .bool a.hold] 35 (0, 0)) := by
    rw [hW]; exact (blk_old _ _ (by simp)).trans (blk_last _ _)
  have k2 : W.heap[w.heap.size + 1]? = some (.cells #[.string b.name, .string b.owner, .int .i64 b.prio, .slice B1 b.need.length d1, .slice B2 b.labels.length d2, .slice B3 b.sel.length d3, .slice B4 b.tols.length d4, .string b.key, .int .i64 b.most, .string b.node, .bool b.hold] 35 (0, 0)) := by
    rw [hW]
    have := blk_last (w.alloc (.cells #[.string a.name, .string a.owner, .int .i64 a.prio, .slice A1 a.need.length c1, .slice A2 a.labels.length c2, .slice A3 a.sel.length c3, .slice A4 a.tols.length c4, .string a.key, .int .i64 a.most, .string a.node, .bool a.hold] 35)) (.cells #[.string b.name, .string b.owner, .int .i64 b.prio, .slice B1 b.need.length d1, .slice B2 b.labels.length d2, .slice B3 b.sel.length d3, .slice B4 b.tols.length d4, .string b.key, .int .i64 b.most, .string b.node, .bool b.hold] 35)
    simpa using this
  obtain ⟨z, zf⟩ := blk_all k1
  obtain ⟨y, yf⟩ := blk_all k2
  have HW : Hid (∀ o, ∃ q os, W.drew.alloc o = Go.Sort.grow (w.drewN q) os) := fun o => by
    rw [hW]
    simp only [Go.Sort.alloc_eq_grow, Go.Sort.drew_grow, Go.Sort.grow_grow]
    exact ⟨1, _, rfl⟩
  have l1 := blk_lt k1
  have l2 := blk_lt k2
  have za : ∀ (o : Obj) (j : Nat), (W.alloc o).drew.cell? ⟨w.heap.size, j, none⟩ = #[.string a.name, .string a.owner, .int .i64 a.prio, .slice A1 a.need.length c1, .slice A2 a.labels.length c2, .slice A3 a.sel.length c3, .slice A4 a.tols.length c4, .string a.key, .int .i64 a.most, .string a.node, .bool a.hold][j]? := fun o j => ((alloc_below W o).cell (p := ⟨w.heap.size, j, none⟩) l1).trans (z j)
  have ya : ∀ (o : Obj) (j : Nat), (W.alloc o).drew.cell? ⟨w.heap.size + 1, j, none⟩ = #[.string b.name, .string b.owner, .int .i64 b.prio, .slice B1 b.need.length d1, .slice B2 b.labels.length d2, .slice B3 b.sel.length d3, .slice B4 b.tols.length d4, .string b.key, .int .i64 b.most, .string b.node, .bool b.hold][j]? := fun o j => ((alloc_below W o).cell (p := ⟨w.heap.size + 1, j, none⟩) l2).trans (y j)
  clear hW hbw k1 k2
  go_region_held3 (fun w' => (∀ j, w'.cell? ⟨w.heap.size, j, none⟩ = #[.string a.name, .string a.owner, .int .i64 a.prio, .slice A1 a.need.length c1, .slice A2 a.labels.length c2, .slice A3 a.sel.length c3, .slice A4 a.tols.length c4, .string a.key, .int .i64 a.most, .string a.node, .bool a.hold][j]?) ∧ ∀ j, w'.cell? ⟨w.heap.size + 1, j, none⟩ = #[.string b.name, .string b.owner, .int .i64 b.prio, .slice B1 b.need.length d1, .slice B2 b.labels.length d2, .slice B3 b.sel.length d3, .slice B4 b.tols.length d4, .string b.key, .int .i64 b.most, .string b.node, .bool b.hold][j]?)
    (first | with_reducible exact ⟨z, y⟩ | with_reducible exact ⟨za _, ya _⟩ | go_keep)
    (first
    | (go_at_call 137; (with_reducible refine (Tryz.cmp_Compare_int b.prio a.prio _).mono ?_); rintro e w1 ⟨rfl, rfl⟩)
    | (go_at_call 120; (with_reducible refine (Tryz.strings_Compare a.name b.name _).mono ?_); rintro e w1 ⟨rfl, rfl⟩)
    | (go_at_call 136; refine (Or2_calls W.heap.size 3 (Lib.compareInt b.prio a.prio) (Lib.compareBytes a.name.data.toList b.name.data.toList) _ (by exact blk_last W _)).mono ?_; rintro e w1 ⟨rfl, rfl⟩))
  all_goals
    go_wp2
    go_ret
    exact ⟨rfl, HW.out _⟩
end Go.Proofs.YtnmhicgbdalniaaGreatDoor
namespace Go.Proofs.YtnmhicgbdalniaaGreatDoor
open Go.RowKit

/-! Which labels may be: the program's side. -/
set_option maxHeartbeats 4000000 in
set_option maxRecDepth 100000 in
theorem CheckSet2_calls (v : Value) (l : List Pair) (w : World) (hs : Kd.pair.S (vw w []) v l) :
    Calls Tryz.prog 287 #[v] w (NumDone (checkSet l) w) := by
  obtain ⟨A, cap, rfl, hs⟩ := hs.val
  obtain ⟨-, hcap, hlen⟩ := hs.form
  have HS := Lib.hid hs
  clear hs
  go_enter Tryz.func287, Tryz.ntmps287
  by_cases h8 : 8 < l.length
  · have HZ : Hid (checkSet l = 4) := manyV_big h8 _
    go_wp2
    go_ret
    exact ⟨ret_i HZ.out.symm, Below.refl _ _⟩
  have HZ : Hid (checkSet l = rowsV pairV Pair.key none l) := manyV_few h8 _
  go_wp2
  go_loopw [10] (fun i wr => ∃ k : Nat, k ≤ l.length ∧ i = .int .i64 k ∧ Hid (rowsV pairV Pair.key (prevN Pair.key l k) (l.drop k) = checkSet l) ∧ Hid (Below w.heap.size w wr)) (fun i _ => l.length - (intOf i).toNat)
  case atStart => exact ⟨0, Nat.zero_le _, rfl, HZ.out.symm, Below.refl _ _⟩
  case round =>
    clear HZ
    obtain ⟨k, hk, rfl, HR, HB⟩ := hrel
    by_cases hlt : k < l.length
    · obtain ⟨b, off, rfl, hc, hp1, hp2⟩ := (HS.out.mono (vw_below HB.out)).elemN k hlt
      have hr := HR.out
      rw [rowsV_at _ _ hlt] at hr
      have hav : pairV l[k] = if isName l[k].key = false then 3 else if isName l[k].val = false then 3 else 0 := rfl
      have htn : 0 < k → tooLow (prevN Pair.key l k) l[k].key = (Op.bytesLess l[k].key.toList l[k - 1].key.toList || (l[k].key.toList == l[k - 1].key.toList)) := fun h => by rw [tooLow_next _ hlt h, ← le_ltS]
      have HC : Hid (wr.rangeAt b (off + k * 2) [.string l[k].key, .string l[k].val]) := hc
      obtain ⟨x, hx⟩ : ∃ x, l[k] = x := ⟨_, rfl⟩
      rw [hx] at hr hav hp1 hp2 HC
      simp only [hx] at htn
      obtain ⟨nm, va⟩ := x
      simp only at hr hav hp1 hp2 HC htn
      obtain ⟨n1, hn1⟩ : ∃ n1, isName nm = n1 := ⟨_, rfl⟩
      obtain ⟨n2, hn2⟩ : ∃ n2, isName va = n2 := ⟨_, rfl⟩
      rw [hn1, hn2] at hav
      rw [hav] at hr
      have HX := Lib.hid hr
      have HN := Lib.hid hn1
      have HN2 := Lib.hid hn2
      have HP := Lib.hid hp1
      have HP2 := Lib.hid hp2
      have HTN := Lib.hid htn
      clear hr hc hav hn1 hn2 hp1 hp2 htn hx
      have HB2 : Hid (Below w.heap.size w (wr.alloc (.cells #[.string nm, .string va] 232))) := Below.then HB.out (alloc_below _ _)
      have HX1 : Hid ((wr.alloc (.cells #[.string nm, .string va] 232)).heap[wr.heap.size]? = some (.cells #[.string nm, .string va] 232 (0, 0))) := blk_last _ _
      go_upto_region 6 with (with_reducible refine wpList_load_mid rfl 232 _ rfl b (off + k * 2) rfl _ _ HC.out Tryz.underlying232 rfl (by kernel_rfl) ?_)
      generalize wr.alloc (.cells #[.string nm, .string va] 232) = W at HB2 HX1 ⊢
      obtain ⟨y, yf⟩ := blk_all HX1.out
      go_wp2_with fail
      refine (Name2_calls _ _ HP.out).mono ?_
      rintro e w1 ⟨rfl, hb⟩
      have HB3 := Lib.hid (Below.then HB2.out hb)
      have HX2 := Lib.hid ((hb.block _ (blk_lt HX1.out)).trans HX1.out)
      rw [HN.out]
      clear hb y yf
      obtain ⟨y, yf⟩ := blk_all HX2.out
      cases n1 with
      | false =>
        have HY : Hid (3 = checkSet l) := HX.out
        go_wp2
        go_ret
        exact ⟨ret_i HY.out, HB3.out⟩
      | true =>
      go_wp2_with fail
      refine (Name2_calls _ _ HP2.out).mono ?_
      rintro e w2 ⟨rfl, hb⟩
      have HB4 := Lib.hid (Below.then HB3.out hb)
      have HX3 := Lib.hid ((hb.block _ (blk_lt HX2.out)).trans HX2.out)
      rw [HN2.out]
      clear hb y yf
      obtain ⟨y, yf⟩ := blk_all HX3.out
      cases n2 with
      | false =>
        have HY : Hid (3 = checkSet l) := HX.out
        go_wp2
        go_ret
        exact ⟨ret_i HY.out, HB4.out⟩
      | true =>
        have hy := HX.out
        rw [if_neg (by decide), if_neg (by decide), orV_r rfl] at hy
        by_cases hk0 : k = 0
        · subst hk0
          rw [tooLow_first, if_neg (by decide)] at hy
          have HY := Lib.hid hy
          clear hy
          go_wp2_with fail
          go_quiet (fail)
          go_wp2
          go_roundw
          case rel => exact ⟨0 + 1, by omega, by go_num, HY.out, drewN_then HB4.out _⟩
          case measure => simp [intOf]; omega
        · rw [HTN.out (by omega)] at hy
          obtain ⟨b', off', hA, hc', -⟩ := (HS.out.mono (vw_below HB4.out)).elemN (k - 1) (by omega)
          injection hA with hA
          injection hA with e1 e2
          subst e1 e2
          have c2 : w2.cell? ⟨b, off + (k - 1) * 2, none⟩ = some (.string l[k - 1].key) := hc' 0 _ rfl
          obtain ⟨q, hq⟩ : ∃ q, (Op.bytesLess nm.toList l[k - 1].key.toList || (nm.toList == l[k - 1].key.toList)) = q := ⟨_, rfl⟩
          rw [hq] at hy
          clear hc'
          have hk1 : 0 < k := by omega
          have hk2 : ((k : Int) - 1).toNat = k - 1 := by omega
          cases q with
          | true =>
            have HY : Hid (13 = checkSet l) := hy
            clear hy
            go_wp2_with fail
            go_quiet (fail)
            go_wp2
            go_ret
            exact ⟨ret_i HY.out, drewN_then HB4.out _⟩
          | false =>
            have HY : Hid (rowsV pairV Pair.key (prevN Pair.key l (k + 1)) (l.drop (k + 1)) = checkSet l) := hy
            clear hy
            go_wp2_with fail
            go_quiet (fail)
            go_wp2
            go_roundw
            case rel => exact ⟨k + 1, by omega, by go_num, HY.out, drewN_then HB4.out _⟩
            case measure => simp [intOf]; omega
    · obtain rfl : k = l.length := by omega
      have hr := HR.out
      rw [List.drop_length] at hr
      have HY : Hid (0 = checkSet l) := hr
      clear hr
      go_wp2
      go_ret
      exact ⟨ret_i HY.out, HB.out⟩
end Go.Proofs.YtnmhicgbdalniaaGreatDoor
namespace Go.Proofs.YtnmhicgbdalniaaGreatDoor
open Go.RowKit

/-! What may be borne: the program's side. -/
set_option maxHeartbeats 4000000 in
set_option maxRecDepth 100000 in
theorem CheckTols2_calls (v : Value) (l : List Tnt) (w : World) (hs : Kd.tnt.S (vw w []) v l) :
    Calls Tryz.prog 292 #[v] w (NumDone (checkTols l) w) := by
  obtain ⟨A, cap, rfl, hs⟩ := hs.val
  obtain ⟨-, hcap, hlen⟩ := hs.form
  have HS := Lib.hid hs
  clear hs
  go_enter Tryz.func292, Tryz.ntmps292
  by_cases h8 : 8 < l.length
  · have HZ : Hid (checkTols l = 4) := manyV_big h8 _
    go_wp2
    go_ret
    exact ⟨ret_i HZ.out.symm, Below.refl _ _⟩
  have HZ : Hid (checkTols l = firstV tolV l) := manyV_few h8 _
  go_wp2
  go_loopw [10] (fun i wr => ∃ k : Nat, k ≤ l.length ∧ i = .int .i64 k ∧ Hid (firstV tolV (l.drop k) = checkTols l) ∧ Hid (Below w.heap.size w wr)) (fun i _ => l.length - (intOf i).toNat)
  case atStart => exact ⟨0, Nat.zero_le _, rfl, HZ.out.symm, Below.refl _ _⟩
  case round =>
    clear HZ
    obtain ⟨k, hk, rfl, HR, HB⟩ := hrel
    by_cases hlt : k < l.length
    · obtain ⟨b, off, rfl, hc, hp1, hp2⟩ := (HS.out.mono (vw_below HB.out)).elemN k hlt
      have hr := HR.out
      rw [firstV_at _ hlt] at hr
      obtain ⟨x, hx⟩ : ∃ x, l[k] = x := ⟨_, rfl⟩
      rw [hx] at hr hc hp1 hp2
      obtain ⟨key, val, n5⟩ := x
      have HC : Hid (wr.rangeAt b (off + k * 3) [.string key, .string val, .bool n5]) := hc
      simp only at hp1 hp2
      have hav : tolV ⟨key, val, n5⟩ = if emptyB key = false ∧ isName key = false then 3 else if n5 = true then (if emptyB val = false then 3 else 0) else if isName val = false then 3 else 0 := rfl
      have hne : decide (val = ⟨#[]⟩) = true → isName val = false := fun h => by rw [of_decide_eq_true h]; rfl
      obtain ⟨n1, hn1⟩ : ∃ n1, isName key = n1 := ⟨_, rfl⟩
      obtain ⟨n2, hn2⟩ : ∃ n2, isName val = n2 := ⟨_, rfl⟩
      have e1 := empty_beq val
      have e2 := empty_beq key
      have hem : emptyB val = decide (val = ⟨#[]⟩) := rfl
      have hem2 : emptyB key = decide (key = ⟨#[]⟩) := rfl
      obtain ⟨n3, hn3⟩ : ∃ n3, decide (val = ⟨#[]⟩) = n3 := ⟨_, rfl⟩
      obtain ⟨n4, hn4⟩ : ∃ n4, decide (key = ⟨#[]⟩) = n4 := ⟨_, rfl⟩
      rw [hn1, hn2, hem, hn3, hem2, hn4] at hav
      rw [hn3, hn2] at hne
      rw [hn3] at e1
      rw [hn4] at e2
      rw [hav] at hr
      have HX := Lib.hid hr
      have HN1 := Lib.hid hn1
      have HN2 := Lib.hid hn2
      have HP1 := Lib.hid hp1
      have HP2 := Lib.hid hp2
      have HE := Lib.hid hne
      clear hr hc hav hn1 hn2 hp1 hp2 hx hem hn3 hem2 hn4 hne
      have HB2 : Hid (Below w.heap.size w (wr.alloc (.cells #[.string key, .string val, .bool n5] 236))) := Below.then HB.out (alloc_below _ _)
      have HX2 : Hid ((wr.alloc (.cells #[.string key, .string val, .bool n5] 236)).heap[wr.heap.size]? = some (.cells #[.string key, .string val, .bool n5] 236 (0, 0))) := blk_last _ _
      go_upto_region 6 with (with_reducible refine wpList_load_mid rfl 236 _ rfl b (off + k * 3) rfl _ _ HC.out Tryz.underlying236 rfl (by kernel_rfl) ?_)
      generalize wr.alloc (.cells #[.string key, .string val, .bool n5] 236) = W at HB2 HX2 ⊢
      obtain ⟨y, yf⟩ := blk_all HX2.out
      cases n4 with
      | false =>
        go_wp2_with fail
        refine (Name2_calls _ _ HP1.out).mono ?_
        rintro e w3 ⟨rfl, hb⟩
        have HB3 := Lib.hid (Below.then HB2.out hb)
        have HX3 := Lib.hid ((hb.block _ (blk_lt HX2.out)).trans HX2.out)
        rw [HN1.out]
        clear hb y yf
        obtain ⟨y, yf⟩ := blk_all HX3.out
        cases n1 with
        | false =>
          have HY : Hid (3 = checkTols l) := HX.out
          go_wp2
          go_ret
          exact ⟨ret_i HY.out, HB3.out⟩
        | true =>
          cases n5 with
          | false =>
            cases n3 with
            | false =>
              go_wp2_with fail
              refine (Name2_calls _ _ HP2.out).mono ?_
              rintro e w4 ⟨rfl, hb⟩
              have HB4 := Lib.hid (Below.then HB3.out hb)
              have HX4 := Lib.hid ((hb.block _ (blk_lt HX3.out)).trans HX3.out)
              rw [HN2.out]
              clear hb y yf
              obtain ⟨y, yf⟩ := blk_all HX4.out
              cases n2 with
              | false =>
                have HY : Hid (3 = checkTols l) := HX.out
                go_wp2
                go_ret
                exact ⟨ret_i HY.out, HB4.out⟩
              | true =>
                have HY : Hid (firstV tolV (l.drop (k + 1)) = checkTols l) := HX.out
                go_wp2
                go_roundw
                case rel => exact ⟨k + 1, by omega, by go_num, HY.out, HB4.out⟩
                case measure => simp [intOf]; omega
            | true =>
              obtain rfl : n2 = false := HE.out rfl
              have HY : Hid (3 = checkTols l) := HX.out
              go_wp2
              go_ret
              exact ⟨ret_i HY.out, HB3.out⟩
          | true =>
            cases n3 with
            | false =>
              have HY : Hid (3 = checkTols l) := HX.out
              go_wp2
              go_ret
              exact ⟨ret_i HY.out, HB3.out⟩
            | true =>
              have HY : Hid (firstV tolV (l.drop (k + 1)) = checkTols l) := HX.out
              go_wp2
              go_roundw
              case rel => exact ⟨k + 1, by omega, by go_num, HY.out, HB3.out⟩
              case measure => simp [intOf]; omega
      | true =>
        cases n5 with
        | false =>
          cases n3 with
          | false =>
            go_wp2_with fail
            refine (Name2_calls _ _ HP2.out).mono ?_
            rintro e w3 ⟨rfl, hb⟩
            have HB3 := Lib.hid (Below.then HB2.out hb)
            have HX3 := Lib.hid ((hb.block _ (blk_lt HX2.out)).trans HX2.out)
            rw [HN2.out]
            clear hb y yf
            obtain ⟨y, yf⟩ := blk_all HX3.out
            cases n2 with
            | false =>
              have HY : Hid (3 = checkTols l) := HX.out
              go_wp2
              go_ret
              exact ⟨ret_i HY.out, HB3.out⟩
            | true =>
              have HY : Hid (firstV tolV (l.drop (k + 1)) = checkTols l) := HX.out
              go_wp2
              go_roundw
              case rel => exact ⟨k + 1, by omega, by go_num, HY.out, HB3.out⟩
              case measure => simp [intOf]; omega
          | true =>
            obtain rfl : n2 = false := HE.out rfl
            have HY : Hid (3 = checkTols l) := HX.out
            go_wp2
            go_ret
            exact ⟨ret_i HY.out, HB2.out⟩
        | true =>
          cases n3 with
          | false =>
            have HY : Hid (3 = checkTols l) := HX.out
            go_wp2
            go_ret
            exact ⟨ret_i HY.out, HB2.out⟩
          | true =>
            have HY : Hid (firstV tolV (l.drop (k + 1)) = checkTols l) := HX.out
            go_wp2
            go_roundw
            case rel => exact ⟨k + 1, by omega, by go_num, HY.out, HB2.out⟩
            case measure => simp [intOf]; omega
    · obtain rfl : k = l.length := by omega
      have hr := HR.out
      rw [List.drop_length] at hr
      have HY : Hid (0 = checkTols l) := hr
      clear hr
      go_wp2
      go_ret
      exact ⟨ret_i HY.out, HB.out⟩
end Go.Proofs.YtnmhicgbdalniaaGreatDoor
