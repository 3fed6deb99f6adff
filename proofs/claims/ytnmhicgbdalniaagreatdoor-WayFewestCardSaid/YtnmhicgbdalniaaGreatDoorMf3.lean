import Derived.Test.YtnmhicgbdalniaaGreatDoorMf2
import Derived.Deep.RegionHeld3
import Derived.Deep.DeepCutAuto
import Derived.Deep.CutBlock
namespace Go.Proofs.YtnmhicgbdalniaaGreatDoor
open Go.RowKit

theorem alloc_then {w wr : World} (h : Below w.heap.size w wr) (o : Obj) : Below w.heap.size w (wr.alloc o) := Below.then h (alloc_below _ _)
set_option maxHeartbeats 2000000 in
theorem CheckSet_calls (v : Value) (l : List Pair) (w : World) (hs : Kd.pair.S (vw w []) v l) :
    Calls Tryz.prog 76 #[v] w (NumDone (checkSet l) w) := by
  obtain ⟨A, cap, rfl, hs⟩ := hs.val
  obtain ⟨-, hcap, hlen⟩ := hs.form
  have HS := Lib.hid hs
  clear hs
  go_enter Tryz.func76, Tryz.ntmps76
  by_cases h8 : 8 < l.length
  · have HZ : Hid (checkSet l = 4) := manyV_big h8 _
    go_wp2
    go_ret
    exact ⟨ret_i HZ.out.symm, Below.refl _ _⟩
  have HZ : Hid (checkSet l = rowsV pairV Pair.key none l) := manyV_few h8 _
  go_wp2
  go_loopw [3] (fun i wr => ∃ k : Nat, k ≤ l.length ∧ i = .int .i64 k ∧ Hid (rowsV pairV Pair.key (prevN Pair.key l k) (l.drop k) = checkSet l) ∧ Hid (Below w.heap.size w wr)) (fun i _ => l.length - (intOf i).toNat)
  case atStart => exact ⟨0, Nat.zero_le _, rfl, HZ.out.symm, Below.refl _ _⟩
  case round =>
    clear HZ
    obtain ⟨k, hk, rfl, HR, HB⟩ := hrel
    by_cases hlt : k < l.length
    · obtain ⟨b, off, rfl, hc, hp1, hp2⟩ := (HS.out.mono (vw_below HB.out)).elemN k hlt
      have c0 : wr.cell? ⟨b, off + k * 2, none⟩ = some (.string l[k].key) := hc 0 _ rfl
      have c1 : wr.cell? ⟨b, off + k * 2 + 1, none⟩ = some (.string l[k].val) := hc 1 _ rfl
      have hr := HR.out
      rw [rowsV_at _ _ hlt] at hr
      have hav : pairV l[k] = if isName l[k].key = false then 3 else if isName l[k].val = false then 3 else 0 := rfl
      obtain ⟨n1, hn1⟩ : ∃ n1, isName l[k].key = n1 := ⟨_, rfl⟩
      obtain ⟨n2, hn2⟩ : ∃ n2, isName l[k].val = n2 := ⟨_, rfl⟩
      rw [hn1, hn2] at hav
      rw [hav] at hr
      have HX := Lib.hid hr
      have HN1 := Lib.hid hn1
      have HN2 := Lib.hid hn2
      have HP1 := Lib.hid hp1
      have HP2 := Lib.hid hp2
      clear hr hc hav hn1 hn2 hp1 hp2
      go_wp2_with fail
      refine (IsName_calls _ _ HP1.out).mono ?_
      rintro e w' ⟨rfl, rfl⟩
      rw [HN1.out]
      cases n1 with
      | false =>
        have HY : Hid (3 = checkSet l) := HX.out
        go_wp2
        go_ret
        exact ⟨ret_i HY.out, HB.out⟩
      | true =>
        go_wp2_with fail
        refine (IsName_calls _ _ HP2.out).mono ?_
        rintro e w' ⟨rfl, rfl⟩
        rw [HN2.out]
        cases n2 with
        | false =>
          have HY : Hid (3 = checkSet l) := HX.out
          go_wp2
          go_ret
          exact ⟨ret_i HY.out, HB.out⟩
        | true =>
        have hy := HX.out
        rw [if_neg (by decide), if_neg (by decide), orV_r rfl] at hy
        by_cases hk0 : k = 0
        · subst hk0
          rw [tooLow_first, if_neg (by decide)] at hy
          have HY := Lib.hid hy
          clear hy
          go_wp2_with fail
          go_quiet (fail)
          go_wp2
          go_roundw
          case rel => exact ⟨0 + 1, by omega, by go_num, HY.out, drewN_then HB.out _⟩
          case measure => simp [intOf]; omega
        · rw [tooLow_next _ hlt (by omega), ← le_ltS] at hy
          obtain ⟨b', off', hA, hc', -⟩ := (HS.out.mono (vw_below HB.out)).elemN (k - 1) (by omega)
          injection hA with hA
          injection hA with e1 e2
          subst e1 e2
          have c2 : wr.cell? ⟨b, off + (k - 1) * 2, none⟩ = some (.string l[k - 1].key) := hc' 0 _ rfl
          obtain ⟨q, hq⟩ : ∃ q, (Op.bytesLess l[k].key.toList l[k - 1].key.toList || (l[k].key.toList == l[k - 1].key.toList)) = q := ⟨_, rfl⟩
          rw [hq] at hy
          clear hc'
          have hk1 : 0 < k := by omega
          have hk2 : ((k : Int) - 1).toNat = k - 1 := by omega
          cases q with
          | true =>
            have HY : Hid (13 = checkSet l) := hy
            clear hy
            go_wp2_with fail
            go_quiet (fail)
            go_wp2
            go_ret
            exact ⟨ret_i HY.out, drewN_then HB.out _⟩
          | false =>
            have HY : Hid (rowsV pairV Pair.key (prevN Pair.key l (k + 1)) (l.drop (k + 1)) = checkSet l) := hy
            clear hy
            go_wp2_with fail
            go_quiet (fail)
            go_wp2
            go_roundw
            case rel => exact ⟨k + 1, by omega, by go_num, HY.out, drewN_then HB.out _⟩
            case measure => simp [intOf]; omega
    · obtain rfl : k = l.length := by omega
      have hr := HR.out
      rw [List.drop_length] at hr
      have HY : Hid (0 = checkSet l) := hr
      clear hr
      go_wp2
      go_ret
      exact ⟨ret_i HY.out, HB.out⟩
set_option maxHeartbeats 2000000 in
theorem CheckSel_calls (v : Value) (l : List Term) (w : World) (hs : Kd.term.S (vw w []) v l) :
    Calls Tryz.prog 77 #[v] w (NumDone (checkSel l) w) := by
  obtain ⟨A, cap, rfl, hs⟩ := hs.val
  obtain ⟨-, hcap, hlen⟩ := hs.form
  have HS := Lib.hid hs
  clear hs
  go_enter Tryz.func77, Tryz.ntmps77
  by_cases h8 : 8 < l.length
  · have HZ : Hid (checkSel l = 4) := manyV_big h8 _
    go_wp2
    go_ret
    exact ⟨ret_i HZ.out.symm, Below.refl _ _⟩
  have HZ : Hid (checkSel l = firstV termV l) := manyV_few h8 _
  go_wp2
  go_loopw [3] (fun i wr => ∃ k : Nat, k ≤ l.length ∧ i = .int .i64 k ∧ Hid (firstV termV (l.drop k) = checkSel l) ∧ Hid (Below w.heap.size w wr)) (fun i _ => l.length - (intOf i).toNat)
  case atStart => exact ⟨0, Nat.zero_le _, rfl, HZ.out.symm, Below.refl _ _⟩
  case round =>
    clear HZ
    obtain ⟨k, hk, rfl, HR, HB⟩ := hrel
    by_cases hlt : k < l.length
    · obtain ⟨b, off, rfl, hc, hi, hp1, hp2⟩ := (HS.out.mono (vw_below HB.out)).elemN k hlt
      have hr := HR.out
      rw [firstV_at _ hlt] at hr
      obtain ⟨x, hx⟩ : ∃ x, l[k] = x := ⟨_, rfl⟩
      rw [hx] at hr hc hi hp1 hp2
      have HC : Hid (wr.rangeAt b (off + k * 3) _) := hc
      have hav : termV x = if x.op < 1 then 1 else if 4 < x.op then 1 else if isName x.key = false then 3 else if x.op ≤ 2 then (if isName x.val = false then 3 else 0) else if emptyB x.val = false then 3 else 0 := rfl
      obtain ⟨n1, hn1⟩ : ∃ n1, isName x.key = n1 := ⟨_, rfl⟩
      obtain ⟨n2, hn2⟩ : ∃ n2, isName x.val = n2 := ⟨_, rfl⟩
      have e1 := empty_beq x.val
      have hem : emptyB x.val = decide (x.val = ⟨#[]⟩) := rfl
      obtain ⟨n3, hn3⟩ : ∃ n3, decide (x.val = ⟨#[]⟩) = n3 := ⟨_, rfl⟩
      rw [hn1, hn2, hem, hn3] at hav
      rw [hn3] at e1
      rw [hav] at hr
      have HX := Lib.hid hr
      have HN1 := Lib.hid hn1
      have HN2 := Lib.hid hn2
      have HP1 := Lib.hid hp1
      have HP2 := Lib.hid hp2
      clear hr hc hav hn1 hn2 hp1 hp2 hx hem hn3
      obtain ⟨hi1, hi2⟩ := hi
      go_upto_region 7 with (with_reducible refine wpList_load_mid rfl 238 _ rfl b (off + k * 3) rfl _ _ HC.out Tryz.underlying238 rfl (by kernel_rfl) ?_)
      have HB2 : Hid (Below w.heap.size w (wr.alloc (.cells #[.int .i64 x.op, .string x.key, .string x.val] 238))) := alloc_then HB.out _
      have hub : (wr.alloc (.cells #[.int .i64 x.op, .string x.key, .string x.val] 238)).heap[wr.heap.size]? = some (.cells #[.int .i64 x.op, .string x.key, .string x.val] 238 (0, 0)) := blk_last _ _
      generalize hU : wr.alloc (.cells #[.int .i64 x.op, .string x.key, .string x.val] 238) = U at HB2 hub ⊢
      obtain ⟨z, zf⟩ := blk_all hub
      clear hU hub
      by_cases o1 : x.op < 1
      · have hy := HX.out
        rw [if_pos o1] at hy
        have HY : Hid (1 = checkSel l) := hy
        clear hy
        go_wp2
        go_ret
        exact ⟨ret_i HY.out, HB2.out⟩
      by_cases o2 : 4 < x.op
      · have hy := HX.out
        rw [if_neg o1, if_pos o2] at hy
        have HY : Hid (1 = checkSel l) := hy
        clear hy
        go_wp2
        go_ret
        exact ⟨ret_i HY.out, HB2.out⟩
      have hy := HX.out
      rw [if_neg o1, if_neg o2] at hy
      clear HX
      have HX := Lib.hid hy
      clear hy
      by_cases o3 : x.op ≤ 2
      · have hy := HX.out
        rw [if_pos o3] at hy
        clear HX
        have HX := Lib.hid hy
        clear hy
        go_wp2_with fail
        refine (IsName_calls _ _ HP1.out).mono ?_
        rintro e w' ⟨rfl, rfl⟩
        rw [HN1.out]
        cases n1 with
        | false =>
          have HY : Hid (3 = checkSel l) := HX.out
          go_wp2
          go_ret
          exact ⟨ret_i HY.out, HB2.out⟩
        | true =>
          go_wp2_with fail
          refine (IsName_calls _ _ HP2.out).mono ?_
          rintro e w' ⟨rfl, rfl⟩
          rw [HN2.out]
          cases n2 with
          | false =>
            have HY : Hid (3 = checkSel l) := HX.out
            go_wp2
            go_ret
            exact ⟨ret_i HY.out, HB2.out⟩
          | true =>
            have HY : Hid (firstV termV (l.drop (k + 1)) = checkSel l) := HX.out
            go_wp2
            go_roundw
            case rel => exact ⟨k + 1, by omega, by go_num, HY.out, HB2.out⟩
            case measure => simp [intOf]; omega
      · have hy := HX.out
        rw [if_neg o3] at hy
        clear HX
        have HX := Lib.hid hy
        clear hy
        go_wp2_with fail
        refine (IsName_calls _ _ HP1.out).mono ?_
        rintro e w' ⟨rfl, rfl⟩
        rw [HN1.out]
        cases n1 with
        | false =>
          have HY : Hid (3 = checkSel l) := HX.out
          go_wp2
          go_ret
          exact ⟨ret_i HY.out, HB2.out⟩
        | true =>
          cases n3 with
          | false =>
            have HY : Hid (3 = checkSel l) := HX.out
            go_wp2
            go_ret
            exact ⟨ret_i HY.out, HB2.out⟩
          | true =>
            have HY : Hid (firstV termV (l.drop (k + 1)) = checkSel l) := HX.out
            go_wp2
            go_roundw
            case rel => exact ⟨k + 1, by omega, by go_num, HY.out, HB2.out⟩
            case measure => simp [intOf]; omega
    · obtain rfl : k = l.length := by omega
      have hr := HR.out
      rw [List.drop_length] at hr
      have HY : Hid (0 = checkSel l) := hr
      clear hr
      go_wp2
      go_ret
      exact ⟨ret_i HY.out, HB.out⟩
set_option maxHeartbeats 2000000 in
theorem CheckTols_calls (v : Value) (l : List Tnt) (w : World) (hs : Kd.tnt.S (vw w []) v l) :
    Calls Tryz.prog 78 #[v] w (NumDone (checkTols l) w) := by
  obtain ⟨A, cap, rfl, hs⟩ := hs.val
  obtain ⟨-, hcap, hlen⟩ := hs.form
  have HS := Lib.hid hs
  clear hs
  go_enter Tryz.func78, Tryz.ntmps78
  by_cases h8 : 8 < l.length
  · have HZ : Hid (checkTols l = 4) := manyV_big h8 _
    go_wp2
    go_ret
    exact ⟨ret_i HZ.out.symm, Below.refl _ _⟩
  have HZ : Hid (checkTols l = firstV tolV l) := manyV_few h8 _
  go_wp2
  go_loopw [3] (fun i wr => ∃ k : Nat, k ≤ l.length ∧ i = .int .i64 k ∧ Hid (firstV tolV (l.drop k) = checkTols l) ∧ Hid (Below w.heap.size w wr)) (fun i _ => l.length - (intOf i).toNat)
  case atStart => exact ⟨0, Nat.zero_le _, rfl, HZ.out.symm, Below.refl _ _⟩
  case round =>
    clear HZ
    obtain ⟨k, hk, rfl, HR, HB⟩ := hrel
    by_cases hlt : k < l.length
    · obtain ⟨b, off, rfl, hc, hp1, hp2⟩ := (HS.out.mono (vw_below HB.out)).elemN k hlt
      have hr := HR.out
      rw [firstV_at _ hlt] at hr
      obtain ⟨x, hx⟩ : ∃ x, l[k] = x := ⟨_, rfl⟩
      rw [hx] at hr hc hp1 hp2
      have hav : tolV x = if emptyB x.key = false ∧ isName x.key = false then 3 else if x.b = true then (if emptyB x.val = false then 3 else 0) else if isName x.val = false then 3 else 0 := rfl
      obtain ⟨n1, hn1⟩ : ∃ n1, isName x.key = n1 := ⟨_, rfl⟩
      obtain ⟨n2, hn2⟩ : ∃ n2, isName x.val = n2 := ⟨_, rfl⟩
      have e1 := empty_beq x.val
      have e2 := empty_beq x.key
      have hem : emptyB x.val = decide (x.val = ⟨#[]⟩) := rfl
      have hem2 : emptyB x.key = decide (x.key = ⟨#[]⟩) := rfl
      obtain ⟨n3, hn3⟩ : ∃ n3, decide (x.val = ⟨#[]⟩) = n3 := ⟨_, rfl⟩
      obtain ⟨n4, hn4⟩ : ∃ n4, decide (x.key = ⟨#[]⟩) = n4 := ⟨_, rfl⟩
      obtain ⟨n5, hn5⟩ : ∃ n5, x.b = n5 := ⟨_, rfl⟩
      rw [hn1, hn2, hem, hn3, hem2, hn4, hn5] at hav
      rw [hn3] at e1
      rw [hn4] at e2
      rw [hn5] at hc
      rw [hav] at hr
      have HC : Hid (wr.rangeAt b (off + k * 3) _) := hc
      have HX := Lib.hid hr
      have HN1 := Lib.hid hn1
      have HN2 := Lib.hid hn2
      have HP1 := Lib.hid hp1
      have HP2 := Lib.hid hp2
      clear hr hc hav hn1 hn2 hp1 hp2 hx hem hn3 hem2 hn4 hn5
      go_upto_region 7 with (with_reducible refine wpList_load_mid rfl 239 _ rfl b (off + k * 3) rfl _ _ HC.out Tryz.underlying239 rfl (by kernel_rfl) ?_)
      have HB2 : Hid (Below w.heap.size w (wr.alloc (.cells #[.string x.key, .string x.val, .bool n5] 239))) := alloc_then HB.out _
      have hub : (wr.alloc (.cells #[.string x.key, .string x.val, .bool n5] 239)).heap[wr.heap.size]? = some (.cells #[.string x.key, .string x.val, .bool n5] 239 (0, 0)) := blk_last _ _
      generalize hU : wr.alloc (.cells #[.string x.key, .string x.val, .bool n5] 239) = U at HB2 hub ⊢
      obtain ⟨z, zf⟩ := blk_all hub
      clear hU hub
      cases n4 with
      | true =>
        cases n5 with
        | true =>
          cases n3 with
          | false =>
            have HY : Hid (3 = checkTols l) := HX.out
            go_wp2
            go_ret
            exact ⟨ret_i HY.out, HB2.out⟩
          | true =>
            have HY : Hid (firstV tolV (l.drop (k + 1)) = checkTols l) := HX.out
            go_wp2
            go_roundw
            case rel => exact ⟨k + 1, by omega, by go_num, HY.out, HB2.out⟩
            case measure => simp [intOf]; omega
        | false =>
          go_wp2_with fail
          refine (IsName_calls _ _ HP2.out).mono ?_
          rintro e w' ⟨rfl, rfl⟩
          rw [HN2.out]
          cases n2 with
          | false =>
            have HY : Hid (3 = checkTols l) := HX.out
            go_wp2
            go_ret
            exact ⟨ret_i HY.out, HB2.out⟩
          | true =>
            have HY : Hid (firstV tolV (l.drop (k + 1)) = checkTols l) := HX.out
            go_wp2
            go_roundw
            case rel => exact ⟨k + 1, by omega, by go_num, HY.out, HB2.out⟩
            case measure => simp [intOf]; omega
      | false =>
        go_wp2_with fail
        refine (IsName_calls _ _ HP1.out).mono ?_
        rintro e w' ⟨rfl, rfl⟩
        rw [HN1.out]
        cases n1 with
        | false =>
          have HY : Hid (3 = checkTols l) := HX.out
          go_wp2
          go_ret
          exact ⟨ret_i HY.out, HB2.out⟩
        | true =>
          cases n5 with
          | true =>
            cases n3 with
            | false =>
              have HY : Hid (3 = checkTols l) := HX.out
              go_wp2
              go_ret
              exact ⟨ret_i HY.out, HB2.out⟩
            | true =>
              have HY : Hid (firstV tolV (l.drop (k + 1)) = checkTols l) := HX.out
              go_wp2
              go_roundw
              case rel => exact ⟨k + 1, by omega, by go_num, HY.out, HB2.out⟩
              case measure => simp [intOf]; omega
          | false =>
            go_wp2_with fail
            refine (IsName_calls _ _ HP2.out).mono ?_
            rintro e w' ⟨rfl, rfl⟩
            rw [HN2.out]
            cases n2 with
            | false =>
              have HY : Hid (3 = checkTols l) := HX.out
              go_wp2
              go_ret
              exact ⟨ret_i HY.out, HB2.out⟩
            | true =>
              have HY : Hid (firstV tolV (l.drop (k + 1)) = checkTols l) := HX.out
              go_wp2
              go_roundw
              case rel => exact ⟨k + 1, by omega, by go_num, HY.out, HB2.out⟩
              case measure => simp [intOf]; omega
    · obtain rfl : k = l.length := by omega
      have hr := HR.out
      rw [List.drop_length] at hr
      have HY : Hid (0 = checkTols l) := hr
      clear hr
      go_wp2
      go_ret
      exact ⟨ret_i HY.out, HB.out⟩
end Go.Proofs.YtnmhicgbdalniaaGreatDoor
namespace Go.Proofs.YtnmhicgbdalniaaGreatDoor
open Go.RowKit

theorem any_none {l : List Tnt} {k : Nat} (hk : k < l.length) {x : Tnt} (h : ∀ j, (hj : j < l.length) → j < k → sameT l[j] x = false) : (l.take k).any (fun y => sameT y x) = false := by
  rw [Bool.eq_false_iff]
  intro h2
  obtain ⟨y, hy, hs⟩ := List.any_eq_true.1 h2
  obtain ⟨j, hj, rfl⟩ := List.getElem_of_mem hy
  rw [List.length_take] at hj
  rw [List.getElem_take] at hs
  rw [h j (by omega) (by omega)] at hs
  cases hs
theorem any_some {l : List Tnt} {k j : Nat} (hk : k < l.length) (hj : j < k) {x : Tnt} (h : sameT (l[j]'(by omega)) x = true) : (l.take k).any (fun y => sameT y x) = true := by
  refine List.any_eq_true.2 ⟨l[j], ?_, h⟩
  exact List.mem_take_iff_getElem.2 ⟨j, by omega, rfl⟩
theorem eq_beq (a b : ByteArray) : (a.toList == b.toList) = decide (a = b) := by
  by_cases h : a = b
  · rw [str_beq h, decide_eq_true h]
  · rw [str_nbeq h, decide_eq_false h]
set_option maxHeartbeats 2000000 in
theorem CheckTaints_calls (v : Value) (l : List Tnt) (w : World) (hs : Kd.tnt.S (vw w []) v l) :
    Calls Tryz.prog 295 #[v] w (NumDone (checkTaints l) w) := by
  obtain ⟨A, cap, rfl, hs⟩ := hs.val
  obtain ⟨-, hcap, hlen⟩ := hs.form
  have HS := Lib.hid hs
  clear hs
  go_enter Tryz.func295, Tryz.ntmps295
  by_cases h8 : 8 < l.length
  · have HZ : Hid (checkTaints l = 4) := manyV_big h8 _
    go_wp2
    go_ret
    exact ⟨ret_i HZ.out.symm, Below.refl _ _⟩
  have HZ : Hid (checkTaints l = taintsV [] l) := manyV_few h8 _
  go_wp2
  go_loopw [3] (fun i wr => ∃ k : Nat, k ≤ l.length ∧ i = .int .i64 k ∧ Hid (taintsV (l.take k) (l.drop k) = checkTaints l) ∧ Hid (Below w.heap.size w wr)) (fun i _ => l.length - (intOf i).toNat)
  case atStart => exact ⟨0, Nat.zero_le _, rfl, HZ.out.symm, Below.refl _ _⟩
  case round =>
    clear HZ
    obtain ⟨k, hk, rfl, HR, HB⟩ := hrel
    by_cases hlt : k < l.length
    · obtain ⟨b, off, rfl, hc, hp1, hp2⟩ := (HS.out.mono (vw_below HB.out)).elemN k hlt
      have c0 : wr.cell? ⟨b, off + k * 3, none⟩ = some (.string l[k].key) := hc 0 _ rfl
      have c1 : wr.cell? ⟨b, off + k * 3 + 1, none⟩ = some (.string l[k].val) := hc 1 _ rfl
      have hr := HR.out
      rw [taintsV_at hlt] at hr
      obtain ⟨n1, hn1⟩ : ∃ n1, isName l[k].key = n1 := ⟨_, rfl⟩
      obtain ⟨n2, hn2⟩ : ∃ n2, isName l[k].val = n2 := ⟨_, rfl⟩
      rw [hn1, hn2] at hr
      have HX := Lib.hid hr
      have HN1 := Lib.hid hn1
      have HN2 := Lib.hid hn2
      have HP1 := Lib.hid hp1
      have HP2 := Lib.hid hp2
      clear hr hc hn1 hn2 hp1 hp2
      go_wp2_with fail
      refine (IsName_calls _ _ HP1.out).mono ?_
      rintro e w' ⟨rfl, rfl⟩
      rw [HN1.out]
      cases n1 with
      | false =>
        have HY : Hid (3 = checkTaints l) := HX.out
        go_wp2
        go_ret
        exact ⟨ret_i HY.out, HB.out⟩
      | true =>
      go_wp2_with fail
      refine (IsName_calls _ _ HP2.out).mono ?_
      rintro e w' ⟨rfl, rfl⟩
      rw [HN2.out]
      cases n2 with
      | false =>
        have HY : Hid (3 = checkTaints l) := HX.out
        go_wp2
        go_ret
        exact ⟨ret_i HY.out, HB.out⟩
      | true =>
      have hy := HX.out
      rw [if_neg (by decide), if_neg (by decide)] at hy
      have HY := Lib.hid hy
      clear hy HX c0 c1
      go_wp2_with fail
      go_loopw [4] (fun j wi => ∃ q : Nat, q ≤ k ∧ j = .int .i64 q ∧ Hid (∀ j, (hj : j < l.length) → j < q → sameT l[j] l[k] = false) ∧ Hid (Below w.heap.size w wi)) (fun j _ => k - (intOf j).toNat)
      case atStart => exact ⟨0, Nat.zero_le _, rfl, fun _ _ h => by omega, HB.out⟩
      case round =>
        clear HB
        obtain ⟨q, hq, rfl, HP, HB⟩ := hrel
        by_cases hqk : q < k
        · obtain ⟨b', off', hA, hc, -⟩ := (HS.out.mono (vw_below HB.out)).elemN k hlt
          injection hA with hA
          injection hA with e1 e2
          subst e1 e2
          obtain ⟨b', off', hA, hc', -⟩ := (HS.out.mono (vw_below HB.out)).elemN q (by omega)
          injection hA with hA
          injection hA with e1 e2
          subst e1 e2
          have c0 : wr.cell? ⟨b, off + k * 3, none⟩ = some (.string l[k].key) := hc 0 _ rfl
          have c1 : wr.cell? ⟨b, off + k * 3 + 1, none⟩ = some (.string l[k].val) := hc 1 _ rfl
          have c2 : wr.cell? ⟨b, off + q * 3, none⟩ = some (.string l[q].key) := hc' 0 _ rfl
          have c3 : wr.cell? ⟨b, off + q * 3 + 1, none⟩ = some (.string l[q].val) := hc' 1 _ rfl
          have b1 := eq_beq l[q].key l[k].key
          have b2 := eq_beq l[q].val l[k].val
          have hst : sameT l[q] l[k] = (decide (l[q].key = l[k].key) && decide (l[q].val = l[k].val)) := rfl
          obtain ⟨m1, hm1⟩ : ∃ m, decide (l[q].key = l[k].key) = m := ⟨_, rfl⟩
          obtain ⟨m2, hm2⟩ : ∃ m, decide (l[q].val = l[k].val) = m := ⟨_, rfl⟩
          rw [hm1] at b1 hst
          rw [hm2] at b2 hst
          have HT := Lib.hid hst
          clear hm1 hm2 hst hc hc'
          have NEXT : sameT l[q] l[k] = false → Hid (∀ j, (hj : j < l.length) → j < q + 1 → sameT l[j] l[k] = false) := fun h j hj hjq => by
            by_cases e : j = q
            · subst e; exact h
            · exact HP.out j hj (by omega)
          cases m1 with
          | false =>
            have HN := NEXT HT.out
            clear NEXT
            go_wp2_with fail
            go_quiet (fail)
            go_wp2
            go_roundw
            case rel => exact ⟨q + 1, by omega, by go_num, HN.out, drewN_then HB.out _⟩
            case measure => simp [intOf]; omega
          | true =>
            cases m2 with
            | false =>
              have HN := NEXT HT.out
              clear NEXT
              go_wp2_with fail
              go_quiet (fail)
              go_wp2
              go_roundw
              case rel => exact ⟨q + 1, by omega, by go_num, HN.out, drewN_then HB.out _⟩
              case measure => simp [intOf]; omega
            | true =>
              clear NEXT
              have hy := HY.out
              rw [if_pos (any_some hlt hqk HT.out)] at hy
              have HZ := Lib.hid hy
              clear hy
              go_wp2_with fail
              go_quiet (fail)
              go_wp2
              go_ret
              exact ⟨ret_i HZ.out, drewN_then HB.out _⟩
        · obtain rfl : q = k := by omega
          have hy := HY.out
          rw [if_neg (by rw [any_none hlt HP.out]; decide)] at hy
          have HZ := Lib.hid hy
          clear hy
          go_wp2
          go_roundw
          case rel => exact ⟨q + 1, by omega, by go_num, HZ.out, HB.out⟩
          case measure => simp [intOf]; omega
    · obtain rfl : k = l.length := by omega
      have hr := HR.out
      rw [List.drop_length] at hr
      have HY : Hid (0 = checkTaints l) := hr
      clear hr
      go_wp2
      go_ret
      exact ⟨ret_i HY.out, HB.out⟩
end Go.Proofs.YtnmhicgbdalniaaGreatDoor
namespace Go.Proofs.YtnmhicgbdalniaaGreatDoor
open Go.RowKit

set_option maxHeartbeats 4000000 in
theorem CheckNode_calls (v : Value) (x : Nd) (w : World) (hs : Kd.node.V (vw w []) v x) :
    Calls Tryz.prog 237 #[v] w (NumDone (checkNode x) w) := by
  obtain ⟨cs, rfl, B1, d1, B2, d2, B3, d3, rfl, s0, s1, s2, s3⟩ := hs
  have S0 := Lib.hid s0
  have S1 := Lib.hid s1
  have S2 := Lib.hid s2
  have S3 := Lib.hid s3
  clear s0 s1 s2 s3
  have HX : Hid (orV (if isName x.name = false then 3 else 0) (orV (checkVec x.cap) (orV (checkSet x.labels) (checkTaints x.taints))) = checkNode x) := rfl
  go_enter Tryz.func237, Tryz.ntmps237
  have HB : Hid (Below w.heap.size w (w.alloc (.cells #[.string x.name, .slice B1 x.cap.length d1, .slice B2 x.labels.length d2, .slice B3 x.taints.length d3, .bool x.cordon] 150))) := alloc_below _ _
  have HQ : Hid ((w.alloc (.cells #[.string x.name, .slice B1 x.cap.length d1, .slice B2 x.labels.length d2, .slice B3 x.taints.length d3, .bool x.cordon] 150)).heap[w.heap.size]? = some (.cells #[.string x.name, .slice B1 x.cap.length d1, .slice B2 x.labels.length d2, .slice B3 x.taints.length d3, .bool x.cordon] 150 (0, 0))) := blk_last _ _
  go_upto_region 1 with fail
  generalize w.alloc (.cells #[.string x.name, .slice B1 x.cap.length d1, .slice B2 x.labels.length d2, .slice B3 x.taints.length d3, .bool x.cordon] 150) = W at HB HQ ⊢
  obtain ⟨z, zf⟩ := blk_all HQ.out
  go_wp2_with fail
  refine (IsName_calls _ _ S0.out).mono ?_
  rintro e w' ⟨rfl, rfl⟩
  obtain ⟨n1, hn1⟩ : ∃ n1, isName x.name = n1 := ⟨_, rfl⟩
  rw [hn1]
  have hx := HX.out
  rw [hn1] at hx
  clear HX hn1
  cases n1 with
  | false =>
    have HX : Hid (3 = checkNode x) := hx
    clear hx
    go_wp2
    go_ret
    exact ⟨ret_i HX.out, HB.out⟩
  | true =>
  rw [if_neg (by decide), orV_r rfl] at hx
  have HX := Lib.hid hx
  clear hx
  go_wp2_with fail
  refine (CheckVec_calls _ x.cap _ (S1.out.mono (vw_below HB.out))).mono ?_
  rintro e w1 ⟨rfl, hb⟩
  obtain ⟨n1, hn1⟩ : ∃ n1, checkVec x.cap = n1 := ⟨_, rfl⟩
  rw [hn1]
  have hx := HX.out
  rw [hn1] at hx
  have HB1 := Lib.hid (Below.then HB.out hb)
  have q := (hb.block _ (blk_lt HQ.out)).trans HQ.out
  clear z zf HX HB HQ hb hn1
  have HB := HB1
  have HQ := Lib.hid q
  clear HB1
  obtain ⟨z, zf⟩ := blk_all q
  clear q
  by_cases h0 : n1 ≠ 0
  · rw [orV_l h0] at hx
    have HX := Lib.hid hx
    clear hx
    have t1 : (n1 == 0) = false := by simp [h0]
    go_wp2
    go_ret
    exact ⟨ret_i HX.out, HB.out⟩
  obtain rfl : n1 = 0 := Decidable.not_not.1 h0
  rw [orV_r rfl] at hx
  have HX := Lib.hid hx
  clear hx h0
  go_wp2_with fail
  refine (CheckSet_calls _ x.labels _ (S2.out.mono (vw_below HB.out))).mono ?_
  rintro e w1 ⟨rfl, hb⟩
  obtain ⟨n1, hn1⟩ : ∃ n1, checkSet x.labels = n1 := ⟨_, rfl⟩
  rw [hn1]
  have hx := HX.out
  rw [hn1] at hx
  have HB1 := Lib.hid (Below.then HB.out hb)
  have q := (hb.block _ (blk_lt HQ.out)).trans HQ.out
  clear z zf HX HB HQ hb hn1
  have HB := HB1
  have HQ := Lib.hid q
  clear HB1
  obtain ⟨z, zf⟩ := blk_all q
  clear q
  by_cases h0 : n1 ≠ 0
  · rw [orV_l h0] at hx
    have HX := Lib.hid hx
    clear hx
    have t1 : (n1 == 0) = false := by simp [h0]
    go_wp2
    go_ret
    exact ⟨ret_i HX.out, HB.out⟩
  obtain rfl : n1 = 0 := Decidable.not_not.1 h0
  rw [orV_r rfl] at hx
  have HX := Lib.hid hx
  clear hx h0
  go_wp2_with fail
  refine (CheckTaints_calls _ x.taints _ (S3.out.mono (vw_below HB.out))).mono ?_
  rintro e w1 ⟨rfl, hb⟩
  have HB1 := Lib.hid (Below.then HB.out hb)
  clear hb
  go_wp2
  go_ret
  exact ⟨ret_i HX.out, HB1.out⟩
set_option maxHeartbeats 4000000 in
theorem CheckBudget_calls (v : Value) (x : Bd) (w : World) (hs : Kd.budget.V (vw w []) v x) :
    Calls Tryz.prog 238 #[v] w (NumDone (checkBudget x) w) := by
  obtain ⟨cs, rfl, B1, d1, rfl, ⟨s0, hf1, hf2⟩, s1⟩ := hs
  have S0 := Lib.hid s0
  have S1 := Lib.hid s1
  clear s0 s1
  have HX : Hid (orV (if isName x.name = false then 3 else 0) (orV (checkSel x.sel) (if x.floor < 0 then 1 else if 128 < x.floor then 1 else 0)) = checkBudget x) := rfl
  go_enter Tryz.func238, Tryz.ntmps238
  have HB : Hid (Below w.heap.size w (w.alloc (.cells #[.string x.name, .slice B1 x.sel.length d1, .int .i64 x.floor] 242))) := alloc_below _ _
  have HQ : Hid ((w.alloc (.cells #[.string x.name, .slice B1 x.sel.length d1, .int .i64 x.floor] 242)).heap[w.heap.size]? = some (.cells #[.string x.name, .slice B1 x.sel.length d1, .int .i64 x.floor] 242 (0, 0))) := blk_last _ _
  go_upto_region 1 with fail
  generalize w.alloc (.cells #[.string x.name, .slice B1 x.sel.length d1, .int .i64 x.floor] 242) = W at HB HQ ⊢
  obtain ⟨z, zf⟩ := blk_all HQ.out
  go_wp2_with fail
  refine (IsName_calls _ _ S0.out).mono ?_
  rintro e w' ⟨rfl, rfl⟩
  obtain ⟨n1, hn1⟩ : ∃ n1, isName x.name = n1 := ⟨_, rfl⟩
  rw [hn1]
  have hx := HX.out
  rw [hn1] at hx
  clear HX hn1
  cases n1 with
  | false =>
    have HX : Hid (3 = checkBudget x) := hx
    clear hx
    go_wp2
    go_ret
    exact ⟨ret_i HX.out, HB.out⟩
  | true =>
  rw [if_neg (by decide), orV_r rfl] at hx
  have HX := Lib.hid hx
  clear hx
  go_wp2_with fail
  refine (CheckSel_calls _ x.sel _ (S1.out.mono (vw_below HB.out))).mono ?_
  rintro e w1 ⟨rfl, hb⟩
  obtain ⟨n1, hn1⟩ : ∃ n1, checkSel x.sel = n1 := ⟨_, rfl⟩
  rw [hn1]
  have hx := HX.out
  rw [hn1] at hx
  have HB1 := Lib.hid (Below.then HB.out hb)
  have q := (hb.block _ (blk_lt HQ.out)).trans HQ.out
  clear z zf HX HB HQ hb hn1
  have HB := HB1
  have HQ := Lib.hid q
  clear HB1
  obtain ⟨z, zf⟩ := blk_all q
  clear q
  by_cases h0 : n1 ≠ 0
  · rw [orV_l h0] at hx
    have HX := Lib.hid hx
    clear hx
    have t1 : (n1 == 0) = false := by simp [h0]
    go_wp2
    go_ret
    exact ⟨ret_i HX.out, HB.out⟩
  obtain rfl : n1 = 0 := Decidable.not_not.1 h0
  rw [orV_r rfl] at hx
  have HX := Lib.hid hx
  clear hx h0
  by_cases hc : x.floor < 0
  · have hx := HX.out
    rw [if_pos hc] at hx
    have HX : Hid (1 = checkBudget x) := hx
    clear hx
    go_wp2
    go_ret
    exact ⟨ret_i HX.out, HB.out⟩
  have hx := HX.out
  rw [if_neg hc] at hx
  clear HX
  have HX := Lib.hid hx
  clear hx
  by_cases hc : 128 < x.floor
  · have hx := HX.out
    rw [if_pos hc] at hx
    have HX : Hid (1 = checkBudget x) := hx
    clear hx
    go_wp2
    go_ret
    exact ⟨ret_i HX.out, HB.out⟩
  have hx := HX.out
  rw [if_neg hc] at hx
  clear HX
  have HX := Lib.hid hx
  clear hx
  go_wp2
  go_ret
  exact ⟨ret_i HX.out, HB.out⟩
end Go.Proofs.YtnmhicgbdalniaaGreatDoor
namespace Go.Proofs.YtnmhicgbdalniaaGreatDoor
open Go.RowKit

set_option maxHeartbeats 8000000 in
theorem CheckPod_calls (v : Value) (x : Pd) (w : World) (hs : Kd.pod.V (vw w []) v x) :
    Calls Tryz.prog 18 #[v] w (NumDone (checkPod x) w) := by
  obtain ⟨cs, rfl, B1, d1, B2, d2, B3, d3, B4, d4, rfl, ⟨⟨s0, s1, hp1, hp2⟩, s7, ⟨hm1, hm2⟩, s9⟩, s3, s4, s5, s6⟩ := hs
  have S0 := Lib.hid s0
  have S1 := Lib.hid s1
  have S3 := Lib.hid s3
  have S4 := Lib.hid s4
  have S5 := Lib.hid s5
  have S6 := Lib.hid s6
  have S7 := Lib.hid s7
  have S9 := Lib.hid s9
  clear s0 s1 s3 s4 s5 s6 s7 s9
  have HX : Hid (orV (if isName x.name = false then 3 else 0) (orV (maybeV x.owner) (orV (prioV x) (orV (checkVec x.need) (orV (checkSet x.labels) (orV (checkSel x.sel) (orV (checkTols x.tols) (orV (maybeV x.key) (orV (mostV x) (maybeV x.node))))))))) = checkPod x) := rfl
  go_enter Tryz.func18, Tryz.ntmps18
  have HB : Hid (Below w.heap.size w (w.alloc (.cells #[.string x.name, .string x.owner, .int .i64 x.prio, .slice B1 x.need.length d1, .slice B2 x.labels.length d2, .slice B3 x.sel.length d3, .slice B4 x.tols.length d4, .string x.key, .int .i64 x.most, .string x.node, .bool x.hold] 45))) := alloc_below _ _
  have HQ : Hid ((w.alloc (.cells #[.string x.name, .string x.owner, .int .i64 x.prio, .slice B1 x.need.length d1, .slice B2 x.labels.length d2, .slice B3 x.sel.length d3, .slice B4 x.tols.length d4, .string x.key, .int .i64 x.most, .string x.node, .bool x.hold] 45)).heap[w.heap.size]? = some (.cells #[.string x.name, .string x.owner, .int .i64 x.prio, .slice B1 x.need.length d1, .slice B2 x.labels.length d2, .slice B3 x.sel.length d3, .slice B4 x.tols.length d4, .string x.key, .int .i64 x.most, .string x.node, .bool x.hold] 45 (0, 0))) := blk_last _ _
  go_upto_region 1 with fail
  generalize w.alloc (.cells #[.string x.name, .string x.owner, .int .i64 x.prio, .slice B1 x.need.length d1, .slice B2 x.labels.length d2, .slice B3 x.sel.length d3, .slice B4 x.tols.length d4, .string x.key, .int .i64 x.most, .string x.node, .bool x.hold] 45) = W at HB HQ ⊢
  obtain ⟨z, zf⟩ := blk_all HQ.out
  go_wp2_with fail
  refine (IsName_calls _ _ S0.out).mono ?_
  rintro e w' ⟨rfl, rfl⟩
  obtain ⟨n1, hn1⟩ : ∃ n1, isName x.name = n1 := ⟨_, rfl⟩
  rw [hn1]
  have hx := HX.out
  rw [hn1] at hx
  clear HX hn1
  cases n1 with
  | false =>
    have HX : Hid (3 = checkPod x) := hx
    clear hx
    go_wp2
    go_ret
    exact ⟨ret_i HX.out, HB.out⟩
  | true =>
  rw [if_neg (by decide), orV_r rfl] at hx
  have HX := Lib.hid hx
  clear hx
  obtain ⟨n2, hn2⟩ : ∃ n, isName x.owner = n := ⟨_, rfl⟩
  obtain ⟨n3, hn3⟩ : ∃ n, decide (x.owner = ⟨#[]⟩) = n := ⟨_, rfl⟩
  have e3 := empty_beq x.owner
  rw [hn3] at e3
  have hm : maybeV x.owner = if n3 = false ∧ n2 = false then 3 else 0 := by rw [← hn2, ← hn3]; rfl
  have HN2 := Lib.hid hn2
  have hx := HX.out
  rw [hm] at hx
  clear HX hn2 hn3 hm
  have hor : (n3 = false ∧ n2 = false) ∨ n3 = true ∨ (n3 = false ∧ n2 = true) := by cases n2 <;> cases n3 <;> simp
  rcases hor with ⟨rfl, rfl⟩ | rfl | ⟨rfl, rfl⟩
  · have HX : Hid (3 = checkPod x) := hx
    clear hx
    go_wp2_with fail
    refine (IsName_calls _ _ S1.out).mono ?_
    rintro e w' ⟨rfl, rfl⟩
    rw [HN2.out]
    go_wp2
    go_ret
    exact ⟨ret_i HX.out, HB.out⟩
  case' inr.inr =>
    go_wp2_with fail
    refine (IsName_calls _ _ S1.out).mono ?_
    rintro e w' ⟨rfl, rfl⟩
    rw [HN2.out]
  all_goals
    rw [if_neg (by simp), orV_r rfl] at hx
    have HX := Lib.hid hx
    clear hx HN2
    go_upto_region 3 with fail
    clear e3
    have hpv : prioV x = if x.prio < -1 then 1 else if 1000000 < x.prio then 1 else if x.hold = decide (x.prio = -1) then 0 else 1 := rfl
    have hx := HX.out
    rw [hpv] at hx
    clear HX hpv
    have HX := Lib.hid hx
    clear hx
    by_cases hc1 : x.prio < -1
    · have hx := HX.out
      rw [if_pos hc1] at hx
      have HX : Hid (1 = checkPod x) := hx
      clear hx
      go_wp2
      go_ret
      exact ⟨ret_i HX.out, HB.out⟩
    have hx := HX.out
    rw [if_neg hc1] at hx
    clear HX
    have HX := Lib.hid hx
    clear hx
    by_cases hc2 : 1000000 < x.prio
    · have hx := HX.out
      rw [if_pos hc2] at hx
      have HX : Hid (1 = checkPod x) := hx
      clear hx
      go_wp2
      go_ret
      exact ⟨ret_i HX.out, HB.out⟩
    have hx := HX.out
    rw [if_neg hc2] at hx
    clear HX
    have HX := Lib.hid hx
    clear hx
    obtain ⟨d, hd⟩ : ∃ d, decide (x.prio = -1) = d := ⟨_, rfl⟩
    obtain ⟨g, hg⟩ : ∃ g, x.hold = g := ⟨_, rfl⟩
    have hx := HX.out
    rw [hg, hd] at hx
    have t1 : (x.prio == -1) = d := hd
    clear HX hd
    by_cases hgd : g = d
    case neg =>
      rw [if_neg hgd] at hx
      have HX : Hid (1 = checkPod x) := hx
      clear hx
      have hor : (g = false ∧ d = true) ∨ (g = true ∧ d = false) := by cases g <;> cases d <;> simp_all
      rcases hor with ⟨rfl, rfl⟩ | ⟨rfl, rfl⟩
      all_goals
        go_wp2
        go_ret
        exact ⟨ret_i HX.out, HB.out⟩
    subst hgd
    rw [if_pos rfl, orV_r rfl] at hx
    have HX := Lib.hid hx
    clear hx
    go_upto_region 5 with fail
    clear t1 hg hc1 hc2
    go_wp2_with fail
    refine (CheckVec_calls _ x.need _ (S3.out.mono (vw_below HB.out))).mono ?_
    rintro e w1 ⟨rfl, hb⟩
    obtain ⟨n1, hn1⟩ : ∃ n1, checkVec x.need = n1 := ⟨_, rfl⟩
    rw [hn1]
    have hx := HX.out
    rw [hn1] at hx
    have HB1 := Lib.hid (Below.then HB.out hb)
    have q := (hb.block _ (blk_lt HQ.out)).trans HQ.out
    clear z zf HX HB HQ hb hn1
    have HB := HB1
    have HQ := Lib.hid q
    clear HB1
    obtain ⟨z, zf⟩ := blk_all q
    clear q
    by_cases h0 : n1 ≠ 0
    · rw [orV_l h0] at hx
      have HX := Lib.hid hx
      clear hx
      have t1 : (n1 == 0) = false := by simp [h0]
      go_wp2
      go_ret
      exact ⟨ret_i HX.out, HB.out⟩
    obtain rfl : n1 = 0 := Decidable.not_not.1 h0
    rw [orV_r rfl] at hx
    have HX := Lib.hid hx
    clear hx h0
    go_wp2_with fail
    refine (CheckSet_calls _ x.labels _ (S4.out.mono (vw_below HB.out))).mono ?_
    rintro e w1 ⟨rfl, hb⟩
    obtain ⟨n1, hn1⟩ : ∃ n1, checkSet x.labels = n1 := ⟨_, rfl⟩
    rw [hn1]
    have hx := HX.out
    rw [hn1] at hx
    have HB1 := Lib.hid (Below.then HB.out hb)
    have q := (hb.block _ (blk_lt HQ.out)).trans HQ.out
    clear z zf HX HB HQ hb hn1
    have HB := HB1
    have HQ := Lib.hid q
    clear HB1
    obtain ⟨z, zf⟩ := blk_all q
    clear q
    by_cases h0 : n1 ≠ 0
    · rw [orV_l h0] at hx
      have HX := Lib.hid hx
      clear hx
      have t1 : (n1 == 0) = false := by simp [h0]
      go_wp2
      go_ret
      exact ⟨ret_i HX.out, HB.out⟩
    obtain rfl : n1 = 0 := Decidable.not_not.1 h0
    rw [orV_r rfl] at hx
    have HX := Lib.hid hx
    clear hx h0
    go_wp2_with fail
    refine (CheckSel_calls _ x.sel _ (S5.out.mono (vw_below HB.out))).mono ?_
    rintro e w1 ⟨rfl, hb⟩
    obtain ⟨n1, hn1⟩ : ∃ n1, checkSel x.sel = n1 := ⟨_, rfl⟩
    rw [hn1]
    have hx := HX.out
    rw [hn1] at hx
    have HB1 := Lib.hid (Below.then HB.out hb)
    have q := (hb.block _ (blk_lt HQ.out)).trans HQ.out
    clear z zf HX HB HQ hb hn1
    have HB := HB1
    have HQ := Lib.hid q
    clear HB1
    obtain ⟨z, zf⟩ := blk_all q
    clear q
    by_cases h0 : n1 ≠ 0
    · rw [orV_l h0] at hx
      have HX := Lib.hid hx
      clear hx
      have t1 : (n1 == 0) = false := by simp [h0]
      go_wp2
      go_ret
      exact ⟨ret_i HX.out, HB.out⟩
    obtain rfl : n1 = 0 := Decidable.not_not.1 h0
    rw [orV_r rfl] at hx
    have HX := Lib.hid hx
    clear hx h0
    go_wp2_with fail
    refine (CheckTols_calls _ x.tols _ (S6.out.mono (vw_below HB.out))).mono ?_
    rintro e w1 ⟨rfl, hb⟩
    obtain ⟨n1, hn1⟩ : ∃ n1, checkTols x.tols = n1 := ⟨_, rfl⟩
    rw [hn1]
    have hx := HX.out
    rw [hn1] at hx
    have HB1 := Lib.hid (Below.then HB.out hb)
    have q := (hb.block _ (blk_lt HQ.out)).trans HQ.out
    clear z zf HX HB HQ hb hn1
    have HB := HB1
    have HQ := Lib.hid q
    clear HB1
    obtain ⟨z, zf⟩ := blk_all q
    clear q
    by_cases h0 : n1 ≠ 0
    · rw [orV_l h0] at hx
      have HX := Lib.hid hx
      clear hx
      have t1 : (n1 == 0) = false := by simp [h0]
      go_wp2
      go_ret
      exact ⟨ret_i HX.out, HB.out⟩
    obtain rfl : n1 = 0 := Decidable.not_not.1 h0
    rw [orV_r rfl] at hx
    have HX := Lib.hid hx
    clear hx h0
    obtain ⟨n2, hn2⟩ : ∃ n, isName x.key = n := ⟨_, rfl⟩
    obtain ⟨n3, hn3⟩ : ∃ n, decide (x.key = ⟨#[]⟩) = n := ⟨_, rfl⟩
    have e3 := empty_beq x.key
    rw [hn3] at e3
    have hm : maybeV x.key = if n3 = false ∧ n2 = false then 3 else 0 := by rw [← hn2, ← hn3]; rfl
    have HN2 := Lib.hid hn2
    have hmo : mostV x = if n3 = true then (if x.most ≠ 0 then 1 else 0) else if x.most < 1 ∨ 128 < x.most then 1 else 0 := by rw [← hn3]; rfl
    have hx := HX.out
    rw [hm] at hx
    clear HX hn2 hn3 hm
    have hor : (n3 = false ∧ n2 = false) ∨ n3 = true ∨ (n3 = false ∧ n2 = true) := by cases n2 <;> cases n3 <;> simp
    rcases hor with ⟨rfl, rfl⟩ | rfl | ⟨rfl, rfl⟩
    · have HX : Hid (3 = checkPod x) := hx
      clear hx
      go_wp2_with fail
      refine (IsName_calls _ _ S7.out).mono ?_
      rintro e w' ⟨rfl, rfl⟩
      rw [HN2.out]
      go_wp2
      go_ret
      exact ⟨ret_i HX.out, HB.out⟩
    · rw [if_neg (by simp), orV_r rfl, hmo, if_pos rfl] at hx
      clear hmo HN2
      by_cases hc : x.most ≠ 0
      · rw [if_pos hc] at hx
        have HX : Hid (1 = checkPod x) := hx
        clear hx
        have t1 : (x.most == 0) = false := by simp [hc]
        go_wp2
        go_ret
        exact ⟨ret_i HX.out, HB.out⟩
      rw [if_neg hc, orV_r rfl] at hx
      have HX := Lib.hid hx
      have t1 : (x.most == 0) = true := by simpa using hc
      clear hx hc
      go_upto_region 21 with fail
      clear e3 t1
      obtain ⟨n2, hn2⟩ : ∃ n, isName x.node = n := ⟨_, rfl⟩
      obtain ⟨n3, hn3⟩ : ∃ n, decide (x.node = ⟨#[]⟩) = n := ⟨_, rfl⟩
      have e3 := empty_beq x.node
      rw [hn3] at e3
      have hm : maybeV x.node = if n3 = false ∧ n2 = false then 3 else 0 := by rw [← hn2, ← hn3]; rfl
      have HN2 := Lib.hid hn2
      have hx := HX.out
      rw [hm] at hx
      clear HX hn2 hn3 hm
      have hor : (n3 = false ∧ n2 = false) ∨ n3 = true ∨ (n3 = false ∧ n2 = true) := by cases n2 <;> cases n3 <;> simp
      rcases hor with ⟨rfl, rfl⟩ | rfl | ⟨rfl, rfl⟩
      · have HX : Hid (3 = checkPod x) := hx
        clear hx
        go_wp2_with fail
        refine (IsName_calls _ _ S9.out).mono ?_
        rintro e w' ⟨rfl, rfl⟩
        rw [HN2.out]
        go_wp2
        go_ret
        exact ⟨ret_i HX.out, HB.out⟩
      case' inr.inr =>
        go_wp2_with fail
        refine (IsName_calls _ _ S9.out).mono ?_
        rintro e w' ⟨rfl, rfl⟩
        rw [HN2.out]
      all_goals
        rw [if_neg (by simp)] at hx
        have HX := Lib.hid hx
        clear hx HN2
        go_wp2
        go_ret
        exact ⟨ret_i HX.out, HB.out⟩
    · rw [if_neg (by simp), orV_r rfl, hmo, if_neg (by simp)] at hx
      go_wp2_with fail
      refine (IsName_calls _ _ S7.out).mono ?_
      rintro e w' ⟨rfl, rfl⟩
      rw [HN2.out]
      clear hmo HN2
      by_cases hc : x.most < 1 ∨ 128 < x.most
      · rw [if_pos hc] at hx
        have HX : Hid (1 = checkPod x) := hx
        clear hx
        rcases hc with hc | hc
        · go_wp2
          go_ret
          exact ⟨ret_i HX.out, HB.out⟩
        · have hc2 : ¬ x.most < 1 := by omega
          go_wp2
          go_ret
          exact ⟨ret_i HX.out, HB.out⟩
      rw [if_neg hc, orV_r rfl] at hx
      have HX := Lib.hid hx
      have t1 : ¬ x.most < 1 := fun h => hc (.inl h)
      have t2 : ¬ 128 < x.most := fun h => hc (.inr h)
      clear hx hc
      go_upto_region 21 with fail
      clear e3 t1 t2
      obtain ⟨n2, hn2⟩ : ∃ n, isName x.node = n := ⟨_, rfl⟩
      obtain ⟨n3, hn3⟩ : ∃ n, decide (x.node = ⟨#[]⟩) = n := ⟨_, rfl⟩
      have e3 := empty_beq x.node
      rw [hn3] at e3
      have hm : maybeV x.node = if n3 = false ∧ n2 = false then 3 else 0 := by rw [← hn2, ← hn3]; rfl
      have HN2 := Lib.hid hn2
      have hx := HX.out
      rw [hm] at hx
      clear HX hn2 hn3 hm
      have hor : (n3 = false ∧ n2 = false) ∨ n3 = true ∨ (n3 = false ∧ n2 = true) := by cases n2 <;> cases n3 <;> simp
      rcases hor with ⟨rfl, rfl⟩ | rfl | ⟨rfl, rfl⟩
      · have HX : Hid (3 = checkPod x) := hx
        clear hx
        go_wp2_with fail
        refine (IsName_calls _ _ S9.out).mono ?_
        rintro e w' ⟨rfl, rfl⟩
        rw [HN2.out]
        go_wp2
        go_ret
        exact ⟨ret_i HX.out, HB.out⟩
      case' inr.inr =>
        go_wp2_with fail
        refine (IsName_calls _ _ S9.out).mono ?_
        rintro e w' ⟨rfl, rfl⟩
        rw [HN2.out]
      all_goals
        rw [if_neg (by simp)] at hx
        have HX := Lib.hid hx
        clear hx HN2
        go_wp2
        go_ret
        exact ⟨ret_i HX.out, HB.out⟩
end Go.Proofs.YtnmhicgbdalniaaGreatDoor
namespace Go.Proofs.YtnmhicgbdalniaaGreatDoor
open Go.RowKit

set_option maxHeartbeats 4000000 in
theorem CheckNodes_calls (v : Value) (l : List Nd) (w : World) (hs : Kd.node.S (vw w []) v l) :
    Calls Tryz.prog 159 #[v] w (NumDone (checkNodes l) w) := by
  obtain ⟨A, cap, rfl, hs⟩ := hs.val
  obtain ⟨-, hcap, hlen⟩ := hs.form
  have HS := Lib.hid hs
  clear hs
  go_enter Tryz.func159, Tryz.ntmps159
  by_cases h8 : 32 < l.length
  · have HZ : Hid (checkNodes l = 4) := manyV_big h8 _
    go_wp2
    go_ret
    exact ⟨ret_i HZ.out.symm, Below.refl _ _⟩
  have HZ : Hid (checkNodes l = rowsV checkNode Nd.name none l) := manyV_few h8 _
  go_wp2
  go_loopw [3] (fun i wr => ∃ k : Nat, k ≤ l.length ∧ i = .int .i64 k ∧ Hid (rowsV checkNode Nd.name (prevN Nd.name l k) (l.drop k) = checkNodes l) ∧ Hid (Below w.heap.size w wr)) (fun i _ => l.length - (intOf i).toNat)
  case atStart => exact ⟨0, Nat.zero_le _, rfl, HZ.out.symm, Below.refl _ _⟩
  case round =>
    clear HZ
    obtain ⟨k, hk, rfl, HR, HB⟩ := hrel
    by_cases hlt : k < l.length
    · obtain ⟨b, off, cs, rfl, hn, hc⟩ := HS.out.both HB.out k hlt
      have HV : Hid (Kd.node.V (vw w []) (.agg cs.toArray) l[k]) := ⟨cs, rfl, hn⟩
      obtain ⟨B1, d1, B2, d2, B3, d3, rfl, -⟩ := hn
      have HC : Hid (wr.rangeAt b (off + k * 5) _) := hc
      have hr := HR.out
      rw [rowsV_at _ _ hlt] at hr
      have HX := Lib.hid hr
      clear hr hc
      go_wp2_with (with_reducible refine wpList_load_mid rfl 150 _ rfl b (off + k * 5) rfl _ _ HC.out Tryz.underlying150 rfl (by kernel_rfl) ?_)
      refine (CheckNode_calls _ l[k] _ (Kd.V.mono (vw_below HB.out) HV.out)).mono ?_
      rintro e w1 ⟨rfl, hb⟩
      obtain ⟨n1, hn1⟩ : ∃ n1, checkNode l[k] = n1 := ⟨_, rfl⟩
      rw [hn1]
      have hx := HX.out
      rw [hn1] at hx
      have HB1 := Lib.hid (Below.then HB.out hb)
      clear HB HC HV hb hn1 HX
      have HB := HB1
      clear HB1
      by_cases h0 : n1 ≠ 0
      · rw [orV_l h0] at hx
        have HX := Lib.hid hx
        clear hx
        have t1 : (n1 == 0) = false := by simp [h0]
        go_wp2
        go_ret
        exact ⟨ret_i HX.out, HB.out⟩
      obtain rfl : n1 = 0 := Decidable.not_not.1 h0
      rw [orV_r rfl] at hx
      clear h0
      by_cases hk0 : k = 0
      · subst hk0
        rw [tooLow_first, if_neg (by decide)] at hx
        have HY := Lib.hid hx
        clear hx
        go_upto_region 9 with fail
        go_quiet (fail)
        go_wp2
        go_roundw
        case rel => exact ⟨0 + 1, by omega, by go_num, HY.out, drewN_then HB.out _⟩
        case measure => simp [intOf]; omega
      · rw [tooLow_next _ hlt (by omega), ← le_ltS] at hx
        obtain ⟨b', off', cs, hA, ⟨C1, g1, C2, g2, C3, g3, rfl, -⟩, hc⟩ := HS.out.both HB.out k hlt
        injection hA with hA
        injection hA with e1 e2
        subst e1 e2
        obtain ⟨b', off', cs, hA, ⟨D1, h1, D2, h2, D3, h3, rfl, -⟩, hc'⟩ := HS.out.both HB.out (k - 1) (by omega)
        injection hA with hA
        injection hA with e1 e2
        subst e1 e2
        have c0 : w1.cell? ⟨b, off + k * 5, none⟩ = some (.string l[k].name) := hc 0 _ rfl
        have c2 : w1.cell? ⟨b, off + (k - 1) * 5, none⟩ = some (.string l[k - 1].name) := hc' 0 _ rfl
        obtain ⟨q, hq⟩ : ∃ q, (Op.bytesLess l[k].name.toList l[k - 1].name.toList || (l[k].name.toList == l[k - 1].name.toList)) = q := ⟨_, rfl⟩
        rw [hq] at hx
        clear hc' hc
        have hk1 : 0 < k := by omega
        have hk2 : ((k : Int) - 1).toNat = k - 1 := by omega
        cases q with
        | true =>
          have HY : Hid (13 = checkNodes l) := hx
          clear hx
          go_upto_region 9 with fail
          go_quiet (fail)
          go_wp2
          go_ret
          exact ⟨ret_i HY.out, drewN_then HB.out _⟩
        | false =>
          have HY : Hid (rowsV checkNode Nd.name (prevN Nd.name l (k + 1)) (l.drop (k + 1)) = checkNodes l) := hx
          clear hx
          go_upto_region 9 with fail
          go_quiet (fail)
          go_wp2
          go_roundw
          case rel => exact ⟨k + 1, by omega, by go_num, HY.out, drewN_then HB.out _⟩
          case measure => simp [intOf]; omega
    · obtain rfl : k = l.length := by omega
      have hr := HR.out
      rw [List.drop_length] at hr
      have HY : Hid (0 = checkNodes l) := hr
      clear hr
      go_wp2
      go_ret
      exact ⟨ret_i HY.out, HB.out⟩
set_option maxHeartbeats 4000000 in
theorem CheckPods_calls (v : Value) (l : List Pd) (w : World) (hs : Kd.pod.S (vw w []) v l) :
    Calls Tryz.prog 160 #[v] w (NumDone (checkPods l) w) := by
  obtain ⟨A, cap, rfl, hs⟩ := hs.val
  obtain ⟨-, hcap, hlen⟩ := hs.form
  have HS := Lib.hid hs
  clear hs
  go_enter Tryz.func160, Tryz.ntmps160
  by_cases h8 : 128 < l.length
  · have HZ : Hid (checkPods l = 4) := manyV_big h8 _
    go_wp2
    go_ret
    exact ⟨ret_i HZ.out.symm, Below.refl _ _⟩
  have HZ : Hid (checkPods l = rowsV checkPod Pd.name none l) := manyV_few h8 _
  go_wp2
  go_loopw [3] (fun i wr => ∃ k : Nat, k ≤ l.length ∧ i = .int .i64 k ∧ Hid (rowsV checkPod Pd.name (prevN Pd.name l k) (l.drop k) = checkPods l) ∧ Hid (Below w.heap.size w wr)) (fun i _ => l.length - (intOf i).toNat)
  case atStart => exact ⟨0, Nat.zero_le _, rfl, HZ.out.symm, Below.refl _ _⟩
  case round =>
    clear HZ
    obtain ⟨k, hk, rfl, HR, HB⟩ := hrel
    by_cases hlt : k < l.length
    · obtain ⟨b, off, cs, rfl, hn, hc⟩ := HS.out.both HB.out k hlt
      have HV : Hid (Kd.pod.V (vw w []) (.agg cs.toArray) l[k]) := ⟨cs, rfl, hn⟩
      obtain ⟨B1, d1, B2, d2, B3, d3, B4, d4, rfl, -⟩ := hn
      have HC : Hid (wr.rangeAt b (off + k * 11) _) := hc
      have hr := HR.out
      rw [rowsV_at _ _ hlt] at hr
      have HX := Lib.hid hr
      clear hr hc
      go_wp2_with (with_reducible refine wpList_load_mid rfl 45 _ rfl b (off + k * 11) rfl _ _ HC.out Tryz.underlying45 rfl (by kernel_rfl) ?_)
      refine (CheckPod_calls _ l[k] _ (Kd.V.mono (vw_below HB.out) HV.out)).mono ?_
      rintro e w1 ⟨rfl, hb⟩
      obtain ⟨n1, hn1⟩ : ∃ n1, checkPod l[k] = n1 := ⟨_, rfl⟩
      rw [hn1]
      have hx := HX.out
      rw [hn1] at hx
      have HB1 := Lib.hid (Below.then HB.out hb)
      clear HB HC HV hb hn1 HX
      have HB := HB1
      clear HB1
      by_cases h0 : n1 ≠ 0
      · rw [orV_l h0] at hx
        have HX := Lib.hid hx
        clear hx
        have t1 : (n1 == 0) = false := by simp [h0]
        go_wp2
        go_ret
        exact ⟨ret_i HX.out, HB.out⟩
      obtain rfl : n1 = 0 := Decidable.not_not.1 h0
      rw [orV_r rfl] at hx
      clear h0
      by_cases hk0 : k = 0
      · subst hk0
        rw [tooLow_first, if_neg (by decide)] at hx
        have HY := Lib.hid hx
        clear hx
        go_upto_region 9 with fail
        go_quiet (fail)
        go_wp2
        go_roundw
        case rel => exact ⟨0 + 1, by omega, by go_num, HY.out, drewN_then HB.out _⟩
        case measure => simp [intOf]; omega
      · rw [tooLow_next _ hlt (by omega), ← le_ltS] at hx
        obtain ⟨b', off', cs, hA, ⟨C1, g1, C2, g2, C3, g3, C4, g4, rfl, -⟩, hc⟩ := HS.out.both HB.out k hlt
        injection hA with hA
        injection hA with e1 e2
        subst e1 e2
        obtain ⟨b', off', cs, hA, ⟨D1, h1, D2, h2, D3, h3, D4, h4, rfl, -⟩, hc'⟩ := HS.out.both HB.out (k - 1) (by omega)
        injection hA with hA
        injection hA with e1 e2
        subst e1 e2
        have c0 : w1.cell? ⟨b, off + k * 11, none⟩ = some (.string l[k].name) := hc 0 _ rfl
        have c2 : w1.cell? ⟨b, off + (k - 1) * 11, none⟩ = some (.string l[k - 1].name) := hc' 0 _ rfl
        obtain ⟨q, hq⟩ : ∃ q, (Op.bytesLess l[k].name.toList l[k - 1].name.toList || (l[k].name.toList == l[k - 1].name.toList)) = q := ⟨_, rfl⟩
        rw [hq] at hx
        clear hc' hc
        have hk1 : 0 < k := by omega
        have hk2 : ((k : Int) - 1).toNat = k - 1 := by omega
        cases q with
        | true =>
          have HY : Hid (13 = checkPods l) := hx
          clear hx
          go_upto_region 9 with fail
          go_quiet (fail)
          go_wp2
          go_ret
          exact ⟨ret_i HY.out, drewN_then HB.out _⟩
        | false =>
          have HY : Hid (rowsV checkPod Pd.name (prevN Pd.name l (k + 1)) (l.drop (k + 1)) = checkPods l) := hx
          clear hx
          go_upto_region 9 with fail
          go_quiet (fail)
          go_wp2
          go_roundw
          case rel => exact ⟨k + 1, by omega, by go_num, HY.out, drewN_then HB.out _⟩
          case measure => simp [intOf]; omega
    · obtain rfl : k = l.length := by omega
      have hr := HR.out
      rw [List.drop_length] at hr
      have HY : Hid (0 = checkPods l) := hr
      clear hr
      go_wp2
      go_ret
      exact ⟨ret_i HY.out, HB.out⟩
set_option maxHeartbeats 4000000 in
theorem CheckBudgets_calls (v : Value) (l : List Bd) (w : World) (hs : Kd.budget.S (vw w []) v l) :
    Calls Tryz.prog 161 #[v] w (NumDone (checkBudgets l) w) := by
  obtain ⟨A, cap, rfl, hs⟩ := hs.val
  obtain ⟨-, hcap, hlen⟩ := hs.form
  have HS := Lib.hid hs
  clear hs
  go_enter Tryz.func161, Tryz.ntmps161
  by_cases h8 : 8 < l.length
  · have HZ : Hid (checkBudgets l = 4) := manyV_big h8 _
    go_wp2
    go_ret
    exact ⟨ret_i HZ.out.symm, Below.refl _ _⟩
  have HZ : Hid (checkBudgets l = rowsV checkBudget Bd.name none l) := manyV_few h8 _
  go_wp2
  go_loopw [3] (fun i wr => ∃ k : Nat, k ≤ l.length ∧ i = .int .i64 k ∧ Hid (rowsV checkBudget Bd.name (prevN Bd.name l k) (l.drop k) = checkBudgets l) ∧ Hid (Below w.heap.size w wr)) (fun i _ => l.length - (intOf i).toNat)
  case atStart => exact ⟨0, Nat.zero_le _, rfl, HZ.out.symm, Below.refl _ _⟩
  case round =>
    clear HZ
    obtain ⟨k, hk, rfl, HR, HB⟩ := hrel
    by_cases hlt : k < l.length
    · obtain ⟨b, off, cs, rfl, hn, hc⟩ := HS.out.both HB.out k hlt
      have HV : Hid (Kd.budget.V (vw w []) (.agg cs.toArray) l[k]) := ⟨cs, rfl, hn⟩
      obtain ⟨B1, d1, rfl, -⟩ := hn
      have HC : Hid (wr.rangeAt b (off + k * 3) _) := hc
      have hr := HR.out
      rw [rowsV_at _ _ hlt] at hr
      have HX := Lib.hid hr
      clear hr hc
      go_wp2_with (with_reducible refine wpList_load_mid rfl 242 _ rfl b (off + k * 3) rfl _ _ HC.out Tryz.underlying242 rfl (by kernel_rfl) ?_)
      refine (CheckBudget_calls _ l[k] _ (Kd.V.mono (vw_below HB.out) HV.out)).mono ?_
      rintro e w1 ⟨rfl, hb⟩
      obtain ⟨n1, hn1⟩ : ∃ n1, checkBudget l[k] = n1 := ⟨_, rfl⟩
      rw [hn1]
      have hx := HX.out
      rw [hn1] at hx
      have HB1 := Lib.hid (Below.then HB.out hb)
      clear HB HC HV hb hn1 HX
      have HB := HB1
      clear HB1
      by_cases h0 : n1 ≠ 0
      · rw [orV_l h0] at hx
        have HX := Lib.hid hx
        clear hx
        have t1 : (n1 == 0) = false := by simp [h0]
        go_wp2
        go_ret
        exact ⟨ret_i HX.out, HB.out⟩
      obtain rfl : n1 = 0 := Decidable.not_not.1 h0
      rw [orV_r rfl] at hx
      clear h0
      by_cases hk0 : k = 0
      · subst hk0
        rw [tooLow_first, if_neg (by decide)] at hx
        have HY := Lib.hid hx
        clear hx
        go_upto_region 9 with fail
        go_quiet (fail)
        go_wp2
        go_roundw
        case rel => exact ⟨0 + 1, by omega, by go_num, HY.out, drewN_then HB.out _⟩
        case measure => simp [intOf]; omega
      · rw [tooLow_next _ hlt (by omega), ← le_ltS] at hx
        obtain ⟨b', off', cs, hA, ⟨C1, g1, rfl, -⟩, hc⟩ := HS.out.both HB.out k hlt
        injection hA with hA
        injection hA with e1 e2
        subst e1 e2
        obtain ⟨b', off', cs, hA, ⟨D1, h1, rfl, -⟩, hc'⟩ := HS.out.both HB.out (k - 1) (by omega)
        injection hA with hA
        injection hA with e1 e2
        subst e1 e2
        have c0 : w1.cell? ⟨b, off + k * 3, none⟩ = some (.string l[k].name) := hc 0 _ rfl
        have c2 : w1.cell? ⟨b, off + (k - 1) * 3, none⟩ = some (.string l[k - 1].name) := hc' 0 _ rfl
        obtain ⟨q, hq⟩ : ∃ q, (Op.bytesLess l[k].name.toList l[k - 1].name.toList || (l[k].name.toList == l[k - 1].name.toList)) = q := ⟨_, rfl⟩
        rw [hq] at hx
        clear hc' hc
        have hk1 : 0 < k := by omega
        have hk2 : ((k : Int) - 1).toNat = k - 1 := by omega
        cases q with
        | true =>
          have HY : Hid (13 = checkBudgets l) := hx
          clear hx
          go_upto_region 9 with fail
          go_quiet (fail)
          go_wp2
          go_ret
          exact ⟨ret_i HY.out, drewN_then HB.out _⟩
        | false =>
          have HY : Hid (rowsV checkBudget Bd.name (prevN Bd.name l (k + 1)) (l.drop (k + 1)) = checkBudgets l) := hx
          clear hx
          go_upto_region 9 with fail
          go_quiet (fail)
          go_wp2
          go_roundw
          case rel => exact ⟨k + 1, by omega, by go_num, HY.out, drewN_then HB.out _⟩
          case measure => simp [intOf]; omega
    · obtain rfl : k = l.length := by omega
      have hr := HR.out
      rw [List.drop_length] at hr
      have HY : Hid (0 = checkBudgets l) := hr
      clear hr
      go_wp2
      go_ret
      exact ⟨ret_i HY.out, HB.out⟩
end Go.Proofs.YtnmhicgbdalniaaGreatDoor
namespace Go.Proofs.YtnmhicgbdalniaaGreatDoor
open Go.RowKit

/-! Sums of vectors. -/
theorem ret_ii {a b c d : Int} (h : (a, b) = (c, d)) : Ending.returned (.tuple #[.int .i64 a, .int .i64 b]) = .returned (.tuple #[.int .i64 c, .int .i64 d]) := by
  injection h with h1 h2; rw [h1, h2]
set_option maxHeartbeats 1000000 in
theorem GetA_calls (v : Value) (l : List Amt) (key : ByteArray) (w : World) (hs : Kd.amt.S (vw w []) v l) :
    Calls Tryz.prog 133 #[v, .string key] w (SameDone (.int .i64 (getA l key)) w) := by
  obtain ⟨A, cap, rfl, hs⟩ := hs.val
  obtain ⟨-, hcap, hlen⟩ := hs.form
  have HS := Lib.hid hs
  clear hs
  go_enter Tryz.func133, Tryz.ntmps133
  go_wp2
  go_loop [5] (fun i => ∃ k : Nat, k ≤ l.length ∧ i = .int .i64 k ∧ Hid (getA (l.drop k) key = getA l key)) (fun i => l.length - (intOf i).toNat)
  case atStart => exact ⟨0, Nat.zero_le _, rfl, rfl⟩
  case round =>
    obtain ⟨k, hk, rfl, HR⟩ := hrel
    by_cases hlt : k < l.length
    · obtain ⟨b, off, rfl, hc, -⟩ := HS.out.elemN k hlt
      have c0 : w.cell? ⟨b, off + k * 2, none⟩ = some (.string l[k].name) := hc 0 _ rfl
      have c1 : w.cell? ⟨b, off + k * 2 + 1, none⟩ = some (.int .i64 l[k].n) := hc 1 _ rfl
      have hr := HR.out
      rw [getA_at hlt] at hr
      clear hc
      by_cases he : l[k].name = key
      · have hb := str_beq he
        rw [if_pos he] at hr
        have HX := Lib.hid hr
        clear he hr
        go_wp2
        go_ret
        exact ⟨ret_i HX.out, rfl⟩
      · have hb := str_nbeq he
        rw [if_neg he] at hr
        have HX := Lib.hid hr
        clear he hr
        go_wp2
        go_round
        case rel => exact ⟨k + 1, by omega, by go_num, HX.out⟩
        case measure => simp [intOf]; omega
    · obtain rfl : k = l.length := by omega
      have hr := HR.out
      rw [List.drop_length] at hr
      have HY : Hid (0 = getA l key) := hr
      clear hr
      go_wp2
      go_ret
      exact ⟨ret_i HY.out, rfl⟩
def AddDone (a b : Int) (w : World) (e : Ending) (w' : World) : Prop := e = .returned (.tuple #[.int .i64 (addN a b).1, .int .i64 (addN a b).2]) ∧ w = w'
set_option maxHeartbeats 1000000 in
theorem Add5_calls (a b : Int) (w : World) (ha : i64 a) (hb : i64 b) : Calls Tryz.prog 272 #[.int .i64 a, .int .i64 b] w (AddDone a b w) := by
  obtain ⟨a1, a2⟩ := ha
  obtain ⟨b1, b2⟩ := hb
  go_enter Tryz.func272, Tryz.ntmps272
  by_cases h1 : a < 0
  · have HZ : Hid (addN a b = (0, 1)) := if_pos h1
    go_wp2
    go_ret2
    exact ⟨ret_ii HZ.out.symm, rfl⟩
  by_cases h2 : b < 0
  · have HZ : Hid (addN a b = (0, 1)) := (if_neg h1).trans (if_pos h2)
    go_wp2
    go_ret2
    exact ⟨ret_ii HZ.out.symm, rfl⟩
  by_cases h3 : 9223372036854775807 - b < a
  · have HZ : Hid (addN a b = (0, 5)) := (if_neg h1).trans ((if_neg h2).trans (if_pos h3))
    go_wp2
    go_ret2
    exact ⟨ret_ii HZ.out.symm, rfl⟩
  have HZ : Hid (addN a b = (a + b, 0)) := (if_neg h1).trans ((if_neg h2).trans (if_neg h3))
  go_wp2
  go_ret2
  exact ⟨ret_ii HZ.out.symm, rfl⟩
set_option maxHeartbeats 1000000 in
theorem both_calls (va vb : Value) (a b : List Amt) (w : World) (ha : Kd.amt.S (vw w []) va a) (hb : Kd.amt.S (vw w []) vb b) :
    Calls Tryz.prog 270 #[va, vb] w (NumDone (orV (checkVec a) (checkVec b)) w) := by
  obtain ⟨A, cap, rfl, ha⟩ := ha.val
  obtain ⟨B, cap2, rfl, hb⟩ := hb.val
  have HA := Lib.hid ha
  have HB := Lib.hid hb
  clear ha hb
  go_enter Tryz.func270, Tryz.ntmps270
  go_wp2_with fail
  refine (CheckVec_calls _ a _ HA.out).mono ?_
  rintro e w1 ⟨rfl, hb⟩
  obtain ⟨n1, hn1⟩ : ∃ n1, checkVec a = n1 := ⟨_, rfl⟩
  rw [hn1]
  have H1 := Lib.hid hb
  have HN := Lib.hid hn1
  clear hb hn1
  by_cases h0 : n1 ≠ 0
  · have t1 : (n1 == 0) = false := by simp [h0]
    have HX : Hid (n1 = orV (checkVec a) (checkVec b)) := by show _ = _; rw [HN.out, orV_l h0]
    go_wp2
    go_ret
    exact ⟨ret_i HX.out, H1.out⟩
  obtain rfl : n1 = 0 := Decidable.not_not.1 h0
  clear h0
  go_wp2_with fail
  refine (CheckVec_calls _ b _ (HB.out.mono (vw_below H1.out))).mono ?_
  rintro e w2 ⟨rfl, hb⟩
  have H2 := Lib.hid (Below.then H1.out hb)
  clear hb
  go_wp2
  go_ret
  exact ⟨ret_i (by rw [HN.out, orV_r rfl]), H2.out⟩
set_option maxHeartbeats 1000000 in
theorem Fits_calls (va vb : Value) (a b : List Amt) (w : World) (ha : Kd.amt.S (vw w []) va a) (hb : Kd.amt.S (vw w []) vb b) :
    Calls Tryz.prog 144 #[va, vb] w (fun e w' => e = .returned (.bool (fitsV a b)) ∧ Below w.heap.size w w') := by
  obtain ⟨A, cap, rfl, ha⟩ := ha.val
  obtain ⟨-, hcap, hlen⟩ := ha.form
  obtain ⟨B, cap2, rfl, hb⟩ := hb.val
  have HA := Lib.hid ha
  have HD := Lib.hid hb
  clear ha hb
  go_enter Tryz.func144, Tryz.ntmps144
  go_wp2
  go_loopw [5] (fun i wr => ∃ k : Nat, k ≤ a.length ∧ i = .int .i64 k ∧ Hid (fitsV (a.drop k) b = fitsV a b) ∧ Hid (Below w.heap.size w wr)) (fun i _ => a.length - (intOf i).toNat)
  case atStart => exact ⟨0, Nat.zero_le _, rfl, rfl, Below.refl _ _⟩
  case round =>
    obtain ⟨k, hk, rfl, HR, HB⟩ := hrel
    by_cases hlt : k < a.length
    · obtain ⟨o, off, rfl, hc, -, hi1, hi2⟩ := (HA.out.mono (vw_below HB.out)).elemN k hlt
      have c0 : wr.cell? ⟨o, off + k * 2, none⟩ = some (.string a[k].name) := hc 0 _ rfl
      have c1 : wr.cell? ⟨o, off + k * 2 + 1, none⟩ = some (.int .i64 a[k].n) := hc 1 _ rfl
      have hr := HR.out
      rw [List.drop_eq_getElem_cons hlt, fitsV, List.all_cons] at hr
      obtain ⟨g, hg⟩ : ∃ g, getA b a[k].name = g := ⟨_, rfl⟩
      rw [hg] at hr
      have HR2 := Lib.hid hr
      have HG := Lib.hid hg
      have HDW := Lib.hid (HD.out.mono (vw_below HB.out))
      clear hc hr hg
      go_upto_region 4 with fail
      go_quiet ((go_at_call 133; exact Calls.quiet_of_same ((GetA_calls _ b _ _ (HDW.out.mono (vw_drewN _))).mono fun _ _ h => ⟨h.1, h.2.symm⟩)))
      rw [HG.out]
      by_cases hgt : g < a[k].n
      · have hx := HR2.out
        rw [decide_eq_false (by omega), Bool.false_and] at hx
        have HX := Lib.hid hx
        clear hx
        go_wp2
        go_ret
        exact ⟨ret_bool HX.out, drewN_then HB.out _⟩
      · have hx := HR2.out
        rw [decide_eq_true (by omega), Bool.true_and] at hx
        have HX := Lib.hid hx
        clear hx
        go_wp2
        go_roundw
        case rel => exact ⟨k + 1, by omega, by go_num, HX.out, drewN_then HB.out _⟩
        case measure => simp [intOf]; omega
    · obtain rfl : k = a.length := by omega
      have hr := HR.out
      rw [List.drop_length] at hr
      have HX : Hid (true = fitsV a b) := hr
      clear hr
      go_wp2
      go_ret
      exact ⟨ret_bool HX.out, HB.out⟩
end Go.Proofs.YtnmhicgbdalniaaGreatDoor
namespace Go.Proofs.YtnmhicgbdalniaaGreatDoor
open Go.RowKit Go.Sort

def RowDone (l : List ByteArray) (w : World) (e : Ending) (w' : World) : Prop := ∃ sv, e = .returned sv ∧ w'.ownsRow w.heap.size 9 1 sv l.length (l.map Value.string) ∧ Below w.heap.size w w'
theorem namesV_nil_l (b : List Amt) : namesV [] b = b.map (·.name) := by cases b <;> simp [namesV]
theorem namesV_nil_r : ∀ (a : List Amt), namesV a [] = a.map (·.name)
  | [] => by simp [namesV]
  | x :: a => by rw [namesV, namesV_nil_r a, List.map_cons]
theorem names_a (a b : List Amt) {p q : Nat} (hp : p < a.length) (hq : q = b.length) : namesV (a.drop p) (b.drop q) = a[p].name :: namesV (a.drop (p + 1)) (b.drop q) := by
  subst hq
  rw [List.drop_length, namesV_nil_r, namesV_nil_r, List.drop_eq_getElem_cons hp, List.map_cons]
theorem names_b (a b : List Amt) {p q : Nat} (hp : p = a.length) (hq : q < b.length) : namesV (a.drop p) (b.drop q) = b[q].name :: namesV (a.drop p) (b.drop (q + 1)) := by
  subst hp
  rw [List.drop_length, namesV_nil_l, namesV_nil_l, List.drop_eq_getElem_cons hq, List.map_cons]
theorem names_ab (a b : List Amt) {p q : Nat} (hp : p < a.length) (hq : q < b.length) : namesV (a.drop p) (b.drop q) =
    if ltS a[p].name b[q].name = true then a[p].name :: namesV (a.drop (p + 1)) (b.drop q) else if ltS b[q].name a[p].name = true then b[q].name :: namesV (a.drop p) (b.drop (q + 1)) else a[p].name :: namesV (a.drop (p + 1)) (b.drop (q + 1)) := by
  conv => lhs; rw [List.drop_eq_getElem_cons hp, List.drop_eq_getElem_cons hq, namesV]
  rw [← List.drop_eq_getElem_cons hp, ← List.drop_eq_getElem_cons hq]
theorem own_snoc {w2 : World} {base : Nat} {e : TypeId} {v : Value} {l : List ByteArray} {x : ByteArray} (h : w2.ownsRow base e 1 v (l.length + 1) (l.map Value.string ++ [.string x])) : w2.ownsRow base e 1 v (l ++ [x]).length ((l ++ [x]).map Value.string) := by
  rw [List.length_append, List.map_append]; exact h
set_option maxHeartbeats 1000000 in
set_option maxRecDepth 100000 in
theorem names_calls (va vb : Value) (a b : List Amt) (w : World) (ha : Kd.amt.S (vw w []) va a) (hb : Kd.amt.S (vw w []) vb b) (hla : a.length ≤ 1000) (hlb : b.length ≤ 1000) :
    Calls Tryz.prog 271 #[va, vb] w (RowDone (namesV a b) w) := by
  obtain ⟨i0, hi, hz0, hz1, hz2⟩ := info_parts info_str
  obtain ⟨A, cap, rfl, ha⟩ := ha.val
  obtain ⟨B, cap2, rfl, hb⟩ := hb.val
  obtain ⟨-, fa1, fa2⟩ := ha.form
  obtain ⟨-, fb1, fb2⟩ := hb.form
  have HA := Lib.hid ha
  have HD := Lib.hid hb
  clear ha hb
  go_enter Tryz.func271, Tryz.ntmps271
  go_wp2
  go_loopw [5, 6, 7] (fun o i j wr => ∃ (p q : Nat) (done : List ByteArray), p ≤ a.length ∧ q ≤ b.length ∧ i = .int .i64 p ∧ j = .int .i64 q ∧ done.length ≤ p + q ∧ Hid (namesV a b = done ++ namesV (a.drop p) (b.drop q)) ∧ Hid (wr.ownsRow w.heap.size 9 1 o done.length (done.map Value.string)) ∧ Hid (Below w.heap.size w wr)) (fun _ i j _ => a.length + b.length - (intOf i).toNat - (intOf j).toNat)
  case atStart => exact ⟨0, 0, [], Nat.zero_le _, Nat.zero_le _, rfl, rfl, Nat.zero_le _, rfl, World.ownsRow_nil _ _ _ _, Below.refl _ _⟩
  case round =>
    obtain ⟨p, q, done, hp, hq, rfl, rfl, hdl, HR, HO, HB⟩ := hrel
    by_cases hend : p = a.length ∧ q = b.length
    · obtain ⟨rfl, rfl⟩ := hend
      have hr := HR.out
      rw [List.drop_length, List.drop_length, show namesV [] [] = [] by simp [namesV], List.append_nil] at hr
      have HX := Lib.hid hr
      clear hr
      go_wp2
      go_ret
      exact ⟨_, rfl, by rw [HX.out]; exact HO.out, HB.out⟩
    have hdl2 : done.length + 1 ≤ 2001 := by omega
    by_cases hql : q < b.length
    · by_cases hpl : p < a.length
      · have hall := names_ab a b hpl hql
        rw [← less_ltS, ← less_ltS] at hall
        obtain ⟨m1, hm1⟩ : ∃ m, Op.bytesLess a[p].name.toList b[q].name.toList = m := ⟨_, rfl⟩
        obtain ⟨m2, hm2⟩ : ∃ m, Op.bytesLess b[q].name.toList a[p].name.toList = m := ⟨_, rfl⟩
        rw [hm1, hm2] at hall
        have HALL := Lib.hid hall
        clear hend
        clear hall
        obtain ⟨oa, fa, rfl, hca, -⟩ := (HA.out.mono (vw_below HB.out)).elemN p hpl
        have ca : wr.cell? ⟨oa, fa + p * 2, none⟩ = some (.string a[p].name) := hca 0 _ rfl
        clear hca
        obtain ⟨ob, fb, rfl, hcb, -⟩ := (HD.out.mono (vw_below HB.out)).elemN q hql
        have cb : wr.cell? ⟨ob, fb + q * 2, none⟩ = some (.string b[q].name) := hcb 0 _ rfl
        clear hcb
        cases m1 with
        | true =>
          go_upto_region 8 with fail
          go_quiet (fail)
          have HB1 : Hid (Below w.heap.size w (wr.drewN nq)) := drewN_then HB.out nq
          have HO1 := Lib.hid (own_below HO.out (drewN_below wr nq))
          have ca' : (wr.drewN nq).cell? ⟨oa, fa + p * 2, none⟩ = some (.string a[p].name) := ca
          have cb' : (wr.drewN nq).cell? ⟨ob, fb + q * 2, none⟩ = some (.string b[q].name) := cb
          generalize wr.drewN nq = wr1 at HB1 HO1 ca' cb' ⊢
          clear HB HO ca cb
          have HB := HB1
          have HO := HO1
          clear HB1 HO1
          have ca := ca'
          clear ca'
          have cb := cb'
          clear cb'
          have HX : Hid (namesV a b = (done ++ [a[p].name]) ++ namesV (a.drop (p + 1)) (b.drop q)) := by
            show _ = _
            rw [HR.out, HALL.out, if_pos rfl]; simp
          have hsz := HB.out.size
          go_wp2_with (at_builtin; refine wpList_append_own _ rfl _ _ 53 rfl w.heap.size 9 i0 (.string ⟨#[]⟩) 1 16 Tryz.underlying53 hi hz0 hz1 hz2 rfl (by decide) _ _ _ rfl (HO.out.alloc _) ⟨wr1.heap.size, 0, none⟩ 1 1 [.string a[p].name] rfl rfl (one_new _ _ _) (by simp [Value.oneCell']) (by simp only [maxLen]; omega) (by omega) (by simp; omega) ?_)
          intro v' w2 hown' hgrow _
          have HB4 := Lib.hid ((HB.out.alloc hsz _).grown hgrow (by simp; omega) (fun q hq => (HO.out.lt q hq).1))
          have HO4 := Lib.hid (own_snoc hown')
          clear hown' hgrow
          go_wp2
          go_roundw
          case rel => exact ⟨(p + 1), q, done ++ [a[p].name], by omega, by omega, by go_num, by go_num, by rw [List.length_append, List.length_singleton]; omega, HX.out, HO4.out, HB4.out⟩
          case measure => simp [intOf]; omega
        | false =>
          go_upto_region 8 with fail
          go_quiet (fail)
          have HB1 : Hid (Below w.heap.size w (wr.drewN nq)) := drewN_then HB.out nq
          have HO1 := Lib.hid (own_below HO.out (drewN_below wr nq))
          have ca' : (wr.drewN nq).cell? ⟨oa, fa + p * 2, none⟩ = some (.string a[p].name) := ca
          have cb' : (wr.drewN nq).cell? ⟨ob, fb + q * 2, none⟩ = some (.string b[q].name) := cb
          generalize wr.drewN nq = wr1 at HB1 HO1 ca' cb' ⊢
          clear HB HO ca cb
          have HB := HB1
          have HO := HO1
          clear HB1 HO1
          have ca := ca'
          clear ca'
          have cb := cb'
          clear cb'
          cases m2 with
          | true =>
            go_upto_region 11 with fail
            go_quiet (fail)
            have HB1 : Hid (Below w.heap.size w (wr1.drewN nq)) := drewN_then HB.out nq
            have HO1 := Lib.hid (own_below HO.out (drewN_below wr1 nq))
            have ca' : (wr1.drewN nq).cell? ⟨oa, fa + p * 2, none⟩ = some (.string a[p].name) := ca
            have cb' : (wr1.drewN nq).cell? ⟨ob, fb + q * 2, none⟩ = some (.string b[q].name) := cb
            generalize wr1.drewN nq = wr2 at HB1 HO1 ca' cb' ⊢
            clear HB HO ca cb
            have HB := HB1
            have HO := HO1
            clear HB1 HO1
            have ca := ca'
            clear ca'
            have cb := cb'
            clear cb'
            have HX : Hid (namesV a b = (done ++ [b[q].name]) ++ namesV (a.drop p) (b.drop (q + 1))) := by
              show _ = _
              rw [HR.out, HALL.out, if_neg (by decide), if_pos rfl]; simp
            have hsz := HB.out.size
            go_wp2_with (at_builtin; refine wpList_append_own _ rfl _ _ 53 rfl w.heap.size 9 i0 (.string ⟨#[]⟩) 1 16 Tryz.underlying53 hi hz0 hz1 hz2 rfl (by decide) _ _ _ rfl (HO.out.alloc _) ⟨wr2.heap.size, 0, none⟩ 1 1 [.string b[q].name] rfl rfl (one_new _ _ _) (by simp [Value.oneCell']) (by simp only [maxLen]; omega) (by omega) (by simp; omega) ?_)
            intro v' w2 hown' hgrow _
            have HB4 := Lib.hid ((HB.out.alloc hsz _).grown hgrow (by simp; omega) (fun q hq => (HO.out.lt q hq).1))
            have HO4 := Lib.hid (own_snoc hown')
            clear hown' hgrow
            go_wp2
            go_roundw
            case rel => exact ⟨p, (q + 1), done ++ [b[q].name], by omega, by omega, by go_num, by go_num, by rw [List.length_append, List.length_singleton]; omega, HX.out, HO4.out, HB4.out⟩
            case measure => simp [intOf]; omega
          | false =>
            go_upto_region 11 with fail
            go_quiet (fail)
            have HB1 : Hid (Below w.heap.size w (wr1.drewN nq)) := drewN_then HB.out nq
            have HO1 := Lib.hid (own_below HO.out (drewN_below wr1 nq))
            have ca' : (wr1.drewN nq).cell? ⟨oa, fa + p * 2, none⟩ = some (.string a[p].name) := ca
            have cb' : (wr1.drewN nq).cell? ⟨ob, fb + q * 2, none⟩ = some (.string b[q].name) := cb
            generalize wr1.drewN nq = wr2 at HB1 HO1 ca' cb' ⊢
            clear HB HO ca cb
            have HB := HB1
            have HO := HO1
            clear HB1 HO1
            have ca := ca'
            clear ca'
            have cb := cb'
            clear cb'
            have HX : Hid (namesV a b = (done ++ [a[p].name]) ++ namesV (a.drop (p + 1)) (b.drop (q + 1))) := by
              show _ = _
              rw [HR.out, HALL.out, if_neg (by decide), if_neg (by decide)]; simp
            have hsz := HB.out.size
            go_wp2_with (at_builtin; refine wpList_append_own _ rfl _ _ 53 rfl w.heap.size 9 i0 (.string ⟨#[]⟩) 1 16 Tryz.underlying53 hi hz0 hz1 hz2 rfl (by decide) _ _ _ rfl (HO.out.alloc _) ⟨wr2.heap.size, 0, none⟩ 1 1 [.string a[p].name] rfl rfl (one_new _ _ _) (by simp [Value.oneCell']) (by simp only [maxLen]; omega) (by omega) (by simp; omega) ?_)
            intro v' w2 hown' hgrow _
            have HB4 := Lib.hid ((HB.out.alloc hsz _).grown hgrow (by simp; omega) (fun q hq => (HO.out.lt q hq).1))
            have HO4 := Lib.hid (own_snoc hown')
            clear hown' hgrow
            go_wp2
            go_roundw
            case rel => exact ⟨(p + 1), (q + 1), done ++ [a[p].name], by omega, by omega, by go_num, by go_num, by rw [List.length_append, List.length_singleton]; omega, HX.out, HO4.out, HB4.out⟩
            case measure => simp [intOf]; omega
      · have HPE : Hid (p = a.length) := by show _ = _; omega
        obtain ⟨ob, fb, rfl, hcb, -⟩ := (HD.out.mono (vw_below HB.out)).elemN q hql
        have cb : wr.cell? ⟨ob, fb + q * 2, none⟩ = some (.string b[q].name) := hcb 0 _ rfl
        clear hcb
        clear hend
        go_upto_region 8 with fail
        have hg : decide (p < a.length) = false := by simpa using hpl
        have hg2 : decide (b.length ≤ q) = false := by simpa using hql
        have hg3 : decide (a.length ≤ p) = true := by simpa using hpl
        go_quiet (fail)
        have HB1 : Hid (Below w.heap.size w (wr.drewN nq)) := drewN_then HB.out nq
        have HO1 := Lib.hid (own_below HO.out (drewN_below wr nq))
        have cb' : (wr.drewN nq).cell? ⟨ob, fb + q * 2, none⟩ = some (.string b[q].name) := cb
        generalize wr.drewN nq = wr1 at HB1 HO1 cb' ⊢
        clear HB HO cb
        have HB := HB1
        have HO := HO1
        clear HB1 HO1
        have cb := cb'
        clear cb'
        go_upto_region 11 with fail
        go_quiet (fail)
        have HB1 : Hid (Below w.heap.size w (wr1.drewN nq)) := drewN_then HB.out nq
        have HO1 := Lib.hid (own_below HO.out (drewN_below wr1 nq))
        have cb' : (wr1.drewN nq).cell? ⟨ob, fb + q * 2, none⟩ = some (.string b[q].name) := cb
        generalize wr1.drewN nq = wr2 at HB1 HO1 cb' ⊢
        clear HB HO cb
        have HB := HB1
        have HO := HO1
        clear HB1 HO1
        have cb := cb'
        clear cb'
        have HX : Hid (namesV a b = (done ++ [b[q].name]) ++ namesV (a.drop p) (b.drop (q + 1))) := by
          show _ = _
          rw [HR.out, names_b a b HPE.out hql]; simp
        have hsz := HB.out.size
        go_wp2_with (at_builtin; refine wpList_append_own _ rfl _ _ 53 rfl w.heap.size 9 i0 (.string ⟨#[]⟩) 1 16 Tryz.underlying53 hi hz0 hz1 hz2 rfl (by decide) _ _ _ rfl (HO.out.alloc _) ⟨wr2.heap.size, 0, none⟩ 1 1 [.string b[q].name] rfl rfl (one_new _ _ _) (by simp [Value.oneCell']) (by simp only [maxLen]; omega) (by omega) (by simp; omega) ?_)
        intro v' w2 hown' hgrow _
        have HB4 := Lib.hid ((HB.out.alloc hsz _).grown hgrow (by simp; omega) (fun q hq => (HO.out.lt q hq).1))
        have HO4 := Lib.hid (own_snoc hown')
        clear hown' hgrow
        go_wp2
        go_roundw
        case rel => exact ⟨p, (q + 1), done ++ [b[q].name], by omega, by omega, by go_num, by go_num, by rw [List.length_append, List.length_singleton]; omega, HX.out, HO4.out, HB4.out⟩
        case measure => simp [intOf]; omega
    · have HQE : Hid (q = b.length) := by show _ = _; omega
      have hpl : p < a.length := by omega
      clear hend
      obtain ⟨oa, fa, rfl, hca, -⟩ := (HA.out.mono (vw_below HB.out)).elemN p hpl
      have ca : wr.cell? ⟨oa, fa + p * 2, none⟩ = some (.string a[p].name) := hca 0 _ rfl
      clear hca
      go_upto_region 8 with fail
      have hg2 : decide (b.length ≤ q) = true := by simpa using hql
      go_quiet (fail)
      have HB1 : Hid (Below w.heap.size w (wr.drewN nq)) := drewN_then HB.out nq
      have HO1 := Lib.hid (own_below HO.out (drewN_below wr nq))
      have ca' : (wr.drewN nq).cell? ⟨oa, fa + p * 2, none⟩ = some (.string a[p].name) := ca
      generalize wr.drewN nq = wr1 at HB1 HO1 ca' ⊢
      clear HB HO ca
      have HB := HB1
      have HO := HO1
      clear HB1 HO1
      have ca := ca'
      clear ca'
      have HX : Hid (namesV a b = (done ++ [a[p].name]) ++ namesV (a.drop (p + 1)) (b.drop q)) := by
        show _ = _
        rw [HR.out, names_a a b hpl HQE.out]; simp
      have hsz := HB.out.size
      go_wp2_with (at_builtin; refine wpList_append_own _ rfl _ _ 53 rfl w.heap.size 9 i0 (.string ⟨#[]⟩) 1 16 Tryz.underlying53 hi hz0 hz1 hz2 rfl (by decide) _ _ _ rfl (HO.out.alloc _) ⟨wr1.heap.size, 0, none⟩ 1 1 [.string a[p].name] rfl rfl (one_new _ _ _) (by simp [Value.oneCell']) (by simp only [maxLen]; omega) (by omega) (by simp; omega) ?_)
      intro v' w2 hown' hgrow _
      have HB4 := Lib.hid ((HB.out.alloc hsz _).grown hgrow (by simp; omega) (fun q hq => (HO.out.lt q hq).1))
      have HO4 := Lib.hid (own_snoc hown')
      clear hown' hgrow
      go_wp2
      go_roundw
      case rel => exact ⟨(p + 1), q, done ++ [a[p].name], by omega, by omega, by go_num, by go_num, by rw [List.length_append, List.length_singleton]; omega, HX.out, HO4.out, HB4.out⟩
      case measure => simp [intOf]; omega
end Go.Proofs.YtnmhicgbdalniaaGreatDoor
namespace Go.Proofs.YtnmhicgbdalniaaGreatDoor
open Go.RowKit Go.Sort

theorem namesV_mem : ∀ (a b : List Amt) (x : ByteArray), x ∈ namesV a b → x ∈ a.map (·.name) ∨ x ∈ b.map (·.name)
  | [], b, x, h => by rw [namesV_nil_l] at h; exact .inr h
  | a :: r, [], x, h => by rw [namesV_nil_r] at h; exact .inl h
  | a :: r, b :: t, x, h => by
    rw [namesV] at h
    split at h
    · rcases List.mem_cons.1 h with rfl | h
      · exact .inl (by simp)
      · rcases namesV_mem r (b :: t) x h with k | k
        · exact .inl (by rw [List.map_cons]; exact List.mem_cons_of_mem _ k)
        · exact .inr k
    · split at h
      · rcases List.mem_cons.1 h with rfl | h
        · exact .inr (by simp)
        · rcases namesV_mem (a :: r) t x h with k | k
          · exact .inl k
          · exact .inr (by rw [List.map_cons]; exact List.mem_cons_of_mem _ k)
      · rcases List.mem_cons.1 h with rfl | h
        · exact .inl (by simp)
        · rcases namesV_mem r t x h with k | k
          · exact .inl (by rw [List.map_cons]; exact List.mem_cons_of_mem _ k)
          · exact .inr (by rw [List.map_cons]; exact List.mem_cons_of_mem _ k)
termination_by a b => a.length + b.length
theorem namesV_len : ∀ (a b : List Amt), (namesV a b).length ≤ a.length + b.length
  | [], b => by rw [namesV_nil_l]; simp
  | a :: r, [] => by rw [namesV_nil_r]; simp
  | a :: r, b :: t => by
    rw [namesV]
    have h1 := namesV_len r (b :: t)
    have h2 := namesV_len (a :: r) t
    have h3 := namesV_len r t
    simp only [List.length_cons] at h1 h2 h3 ⊢
    split
    · simp only [List.length_cons]; omega
    · split <;> (simp only [List.length_cons]; omega)
termination_by a b => a.length + b.length
def AmtOk (x : Amt) : Prop := sok x.name ∧ i64 x.n
theorem amt_ok {w : World} {M : List Nat} {v : Value} {l : List Amt} (s : Kd.amt.S (vw w M) v l) : ∀ x ∈ l, AmtOk x := by
  intro x hx
  obtain ⟨A, c, rfl, s⟩ := s.val
  obtain ⟨j, hj, rfl⟩ := List.getElem_of_mem hx
  obtain ⟨_, _, _, _, h⟩ := s.elemN j hj
  exact h
theorem getA_ok : ∀ {l : List Amt}, (∀ x ∈ l, AmtOk x) → ∀ k, i64 (getA l k)
  | [], _, _ => ⟨by show (-9223372036854775808 : Int) ≤ 0; decide, by show (0 : Int) ≤ 9223372036854775807; decide⟩
  | x :: r, h, k => by
    unfold getA
    split
    · exact (h x (List.mem_cons_self ..)).2
    · exact getA_ok (fun y hy => h y (List.mem_cons_of_mem _ hy)) k
theorem addN_ok {a b : Int} (ha : i64 a) (hb : i64 b) : i64 (addN a b).1 := by
  unfold addN
  obtain ⟨a1, a2⟩ := ha
  obtain ⟨b1, b2⟩ := hb
  split
  · exact ⟨by decide, by decide⟩
  · split
    · exact ⟨by decide, by decide⟩
    · split
      · exact ⟨by decide, by decide⟩
      · exact ⟨by show _ ≤ a + b; omega, by show a + b ≤ _; omega⟩
theorem checkVec_len {l : List Amt} (h : checkVec l = 0) : l.length ≤ 8 := by
  unfold checkVec manyV at h
  split at h
  · cases h
  · omega
theorem addL_at (a b : List Amt) {l : List ByteArray} {k : Nat} (h : k < l.length) (out : List Amt) : addL a b (l.drop k) out =
    if (addN (getA a l[k]) (getA b l[k])).2 ≠ 0 then ([], (addN (getA a l[k]) (getA b l[k])).2) else addL a b (l.drop (k + 1)) (out ++ [⟨l[k], (addN (getA a l[k]) (getA b l[k])).1⟩]) := by
  rw [List.drop_eq_getElem_cons h, addL]
def VecDone (r : List Amt × Int) (w : World) (e : Ending) (w' : World) : Prop := ∃ A c, e = .returned (.tuple #[.slice A r.1.length c, .int .i64 r.2]) ∧ Kd.amt.S (vw w' []) (.slice A r.1.length c) r.1 ∧ Below w.heap.size w w'
theorem vec_none {r : List Amt × Int} {n : Int} {w w' : World} (h : r = ([], n)) (hb : Below w.heap.size w w') : VecDone r w (.returned (.tuple #[.slice none 0 0, .int .i64 n])) w' := by
  subst h
  exact ⟨none, 0, rfl, Kd.S.nil _ _, hb⟩
theorem vec_some {r : List Amt × Int} {l : List Amt} {A : Option Addr} {c : Nat} {n : Int} {w w' : World} (h : r = (l, n)) (s : Kd.amt.S (vw w' []) (.slice A l.length c) l) (hb : Below w.heap.size w w') : VecDone r w (.returned (.tuple #[.slice A l.length c, .int .i64 n])) w' := by
  subst h
  exact ⟨A, c, rfl, s, hb⟩
def WholeDone (A : Option Addr) (n c : Nat) (w : World) (e : Ending) (w' : World) : Prop := e = .returned (if 8 < n then .tuple #[.slice none 0 0, .int .i64 4] else .tuple #[.slice A n c, .int .i64 0]) ∧ w = w'
theorem whole_calls (A : Option Addr) (n c : Nat) (w : World) (hn : n ≤ 140737488351232) : Calls Tryz.prog 273 #[.slice A n c] w (WholeDone A n c w) := by
  go_enter Tryz.func273, Tryz.ntmps273
  by_cases h8 : 8 < n
  · have HX : Hid ((if 8 < n then Value.tuple #[.slice none 0 0, .int .i64 4] else .tuple #[.slice A n c, .int .i64 0]) = .tuple #[.slice none 0 0, .int .i64 4]) := if_pos h8
    go_wp2
    go_ret2
    exact ⟨by rw [HX.out]; rfl, rfl⟩
  · have HX : Hid ((if 8 < n then Value.tuple #[.slice none 0 0, .int .i64 4] else .tuple #[.slice A n c, .int .i64 0]) = .tuple #[.slice A n c, .int .i64 0]) := if_neg h8
    go_wp2
    go_ret2
    exact ⟨by rw [HX.out]; rfl, rfl⟩
theorem nx_vw0 (w : World) : (nx w 0 none).le (vw w []) := nx_vw (by simp)
set_option maxHeartbeats 4000000 in
set_option maxRecDepth 100000 in
theorem AddVec_calls (va vb : Value) (a b : List Amt) (w : World) (ha : Kd.amt.S (vw w []) va a) (hb : Kd.amt.S (vw w []) vb b) :
    Calls Tryz.prog 213 #[va, vb] w (VecDone (addVec a b) w) := by
  obtain ⟨i0, hi, hz0, hz1, hz2⟩ := info_parts info_Of2
  have hoa := amt_ok ha
  have hob := amt_ok hb
  obtain ⟨A, cap, rfl, ha⟩ := ha.val
  obtain ⟨B, cap2, rfl, hb⟩ := hb.val
  have HA := Lib.hid ha
  have HD := Lib.hid hb
  have HOA := Lib.hid hoa
  have HOB := Lib.hid hob
  clear ha hb hoa hob
  go_enter Tryz.func213, Tryz.ntmps213
  go_wp2_with fail
  refine (both_calls _ _ a b _ HA.out HD.out).mono ?_
  rintro e w1 ⟨rfl, hb⟩
  obtain ⟨n1, hn1⟩ : ∃ n1, orV (checkVec a) (checkVec b) = n1 := ⟨_, rfl⟩
  rw [hn1]
  have H1 := Lib.hid hb
  have HN := Lib.hid hn1
  clear hb hn1
  by_cases h0 : n1 ≠ 0
  · have t1 : (n1 == 0) = false := by simp [h0]
    have HX : Hid (addVec a b = ([], n1)) := by
      show _ = _
      have hn := HN.out
      unfold addVec
      by_cases c1 : checkVec a ≠ 0
      · rw [if_pos c1, ← hn, orV_l c1]
      · rw [if_neg c1]
        rw [orV_r (Decidable.not_not.1 c1)] at hn
        rw [hn, if_pos h0]
    go_wp2
    go_ret2
    exact vec_none HX.out H1.out
  obtain rfl : n1 = 0 := Decidable.not_not.1 h0
  have hca : checkVec a = 0 := by
    have hn := HN.out
    by_cases c1 : checkVec a ≠ 0
    · rw [orV_l c1] at hn; exact hn
    · exact Decidable.not_not.1 c1
  have hcb : checkVec b = 0 := by
    have hn := HN.out
    rwa [orV_r hca] at hn
  have la := checkVec_len hca
  have lb := checkVec_len hcb
  have HX : Hid (addVec a b = addL a b (namesV a b) []) := by
    show _ = _
    unfold addVec
    rw [if_neg (by rw [hca]; decide), if_neg (by rw [hcb]; decide)]
  clear h0 HN hca hcb
  go_wp2_with fail
  refine (names_calls _ _ a b _ (HA.out.mono (vw_below H1.out)) (HD.out.mono (vw_below H1.out)) (by omega) (by omega)).mono ?_
  rintro e w2 ⟨sv, rfl, ho, hb⟩
  have hnl := namesV_len a b
  have hnm : ∀ x ∈ namesV a b, sok x := fun x hx => by
    rcases namesV_mem a b x hx with h | h
    · obtain ⟨y, hy, rfl⟩ := List.mem_map.1 h
      exact (HOA.out y hy).1
    · obtain ⟨y, hy, rfl⟩ := List.mem_map.1 h
      exact (HOB.out y hy).1
  have hs : Kd.str.S (vw w2 []) sv (namesV a b) := Kd.S.of_own ho (by omega) (fun x hx => hnm x hx) (by simp)
  obtain ⟨l, hl⟩ : ∃ l, namesV a b = l := ⟨_, rfl⟩
  rw [hl] at hs hnl hnm HX
  obtain ⟨C, cc, rfl, hs⟩ := hs.val
  obtain ⟨-, fl1, fl2⟩ := hs.form
  have HL := Lib.hid hs
  have HNM := Lib.hid hnm
  have H2 := Lib.hid (Below.then H1.out hb)
  clear hb ho hs hl hnm H1
  go_wp2
  go_loopw [8, 9] (fun o i wr => ∃ (k : Nat) (out : List Amt), k ≤ l.length ∧ i = .int .i64 k ∧ out.length = k ∧ Hid (addL a b (l.drop k) out = addVec a b) ∧ Hid (Kd.amt.Own wr w2.heap.size 217 0 o out) ∧ Hid (Below w2.heap.size w2 wr)) (fun _ i _ => l.length - (intOf i).toNat)
  case atStart => exact ⟨0, [], Nat.zero_le _, rfl, rfl, HX.out.symm, Kd.Own.nil _ _ _ _ _, Below.refl _ _⟩
  case round =>
    clear HX
    obtain ⟨k, out, hk, rfl, hok, HR, HO, HB⟩ := hrel
    have HK := Lib.hid hok
    have hokl : out.length ≤ k := by omega
    clear hok
    by_cases hlt : k < l.length
    · obtain ⟨b', off, rfl, hc, hp⟩ := (HL.out.mono (vw_below HB.out)).elem1 k hlt
      have HP := Lib.hid hp
      have hr := HR.out
      rw [addL_at a b hlt] at hr
      have HR2 := Lib.hid hr
      have HWA := Lib.hid (HA.out.mono (vw_below (Below.then H2.out HB.out)))
      have HWB := Lib.hid (HD.out.mono (vw_below (Below.then H2.out HB.out)))
      have hga := getA_ok HOA.out l[k]
      have hgb := getA_ok HOB.out l[k]
      have hgs := addN_ok hga hgb
      have HGA := Lib.hid hga
      have HGB := Lib.hid hgb
      clear hp hr hga hgb
      go_upto_region 9 with fail
      have hq1 : ∀ n : Nat, Hid (Kd.amt.S (vw (wr.drewN n) []) (.slice A a.length cap) a) := fun n => HWA.out.mono (vw_drewN n)
      have hq2 : ∀ n : Nat, Hid (Kd.amt.S (vw (wr.drewN n) []) (.slice B b.length cap2) b) := fun n => HWB.out.mono (vw_drewN n)
      go_quiet (first
        | (go_at_call 133; exact Calls.quiet_of_same ((GetA_calls _ _ _ _ (by first | with_reducible exact (hq1 _).out | with_reducible exact (hq2 _).out)).mono fun _ _ h => ⟨h.1, h.2.symm⟩))
        | (go_at_call 272; exact Calls.quiet_of_same ((Add5_calls _ _ _ HGA.out HGB.out).mono fun _ _ h => ⟨h.1, h.2.symm⟩)))
      have HB1 : Hid (Below w2.heap.size w2 (wr.drewN nq)) := drewN_then HB.out nq
      have HO1 := Lib.hid (HO.out.below (drewN_below wr nq))
      have hc' : (wr.drewN nq).cell? ⟨b', off + k, none⟩ = some (.string l[k]) := hc
      generalize wr.drewN nq = wr1 at HB1 HO1 hc' ⊢
      obtain ⟨x, hx⟩ : ∃ x, (addN (getA a l[k]) (getA b l[k])).1 = x := ⟨_, rfl⟩
      obtain ⟨m, hm⟩ : ∃ m, (addN (getA a l[k]) (getA b l[k])).2 = m := ⟨_, rfl⟩
      have hr := HR2.out
      rw [hx, hm] at hr
      rw [hx] at hgs
      rw [hx, hm]
      have HGS := Lib.hid hgs
      clear hx hm hc HWA HWB HGA HGB HR2 HB HO hgs hq1 hq2
      by_cases h0 : m ≠ 0
      · have t1 : (m == 0) = false := by simp [h0]
        rw [if_pos h0] at hr
        have HX := Lib.hid hr
        clear hr
        go_wp2
        go_ret2
        exact vec_none HX.out.symm (Below.then H2.out HB1.out)
      rw [if_neg h0] at hr
      have HX := Lib.hid hr
      obtain rfl : m = 0 := Decidable.not_not.1 h0
      clear hr h0
      have hsz := HB1.out.size
      obtain ⟨css, k1, k2, k3⟩ := HO1.out
      have HK1 := Lib.hid k1
      have HK2 := Lib.hid k2
      have HK3 := Lib.hid k3
      clear k1 k2 k3
      have NEWS : Hid (∀ ad, some (⟨wr1.heap.size, 0, none⟩ : Addr) = some ad → ∀ j u, [Value.string l[k], .int .i64 x][j]? = some u → (wr1.alloc (.cells #[.string l[k], .int .i64 x] 217)).cell? (ad.add j) = some u) := by
        rintro ad h
        cases h
        exact World.news_of_block (cs := #[.string l[k], .int .i64 x]) (t := 217) (fr := (0, 0)) (heap_alloc_new wr1 _)
      go_wp2_with (at_builtin; refine wpList_app _ w2.heap.size 40 217 i0 (.agg #[.string ⟨#[]⟩, .int .i64 0]) 2 24 Tryz.underlying40 hi hz0 hz1 hz2 rfl (by decide) _ _ css.flatten (HK3.out.alloc _) (some ⟨wr1.heap.size, 0, none⟩) 1 1 [.string l[k], .int .i64 x] rfl (fun e => by cases e) NEWS.out (by simp [Value.oneCell']) (by simp only [maxLen]; omega) (by omega) (by simp; omega) _ _ rfl rfl rfl rfl ?_)
      intro v2 w3 ho2 hg2 hv2
      have HB2 : Hid (Below w2.heap.size w2 w3) := grown_then HB1.out (alloc_below wr1 (.cells #[.string l[k], .int .i64 x] 217)) hg2 (fun q hq => (HK3.out.lt q hq).1)
      have HO2 : Hid (Kd.amt.Own w3 w2.heap.size 217 0 v2 (out ++ [⟨l[k], x⟩])) :=
        Kd.Own.snoc HK1.out HK2.out ⟨rfl, HP.out, HGS.out⟩ (alloc_below wr1 (.cells #[.string l[k], .int .i64 x] 217)) ho2 hg2 (hv2.imp id fun h => by rw [h]; simp)
      clear ho2 hg2 hv2
      go_wp2
      go_roundw
      case rel => exact ⟨k + 1, out ++ [Amt.mk l[k] x], by omega, by go_num, by rw [List.length_append, HK.out]; rfl, HX.out, HO2.out, HB2.out⟩
      case measure => simp [intOf]; omega
    · obtain rfl : k = l.length := by omega
      have hr := HR.out
      rw [List.drop_length, addL] at hr
      obtain ⟨A2, c2, rfl, s2⟩ := (HO.out.S (Nat.zero_le _) (by omega)).val
      have S2 := Lib.hid (s2.mono (nx_vw0 _))
      have HB3 := Lib.hid (Below.then H2.out HB.out)
      have HX := Lib.hid hr
      clear s2 hr HO HR
      go_wp2_with fail
      by_cases h8 : 8 < out.length
      · have HY : Hid (addVec a b = ([], 4)) := by
          show _ = _
          have := HX.out
          rw [if_pos h8] at this
          exact this.symm
        refine (whole_calls A2 out.length c2 _ (by omega)).mono ?_
        rintro e w' ⟨rfl, rfl⟩
        rw [if_pos h8]
        go_wp2
        go_ret2
        exact vec_none HY.out HB3.out
      · have HY : Hid (addVec a b = (out, 0)) := by
          show _ = _
          have := HX.out
          rw [if_neg h8] at this
          exact this.symm
        refine (whole_calls A2 out.length c2 _ (by omega)).mono ?_
        rintro e w' ⟨rfl, rfl⟩
        rw [if_neg h8]
        go_wp2
        go_ret2
        exact vec_some HY.out S2.out HB3.out
end Go.Proofs.YtnmhicgbdalniaaGreatDoor
namespace Go.Proofs.YtnmhicgbdalniaaGreatDoor
open Go.RowKit Go.Sort

theorem filter_on {p : Pd → Bool} {l : List Pd} {k : Nat} (h : k < l.length) : (l.drop k).filter p = if p l[k] = true then l[k] :: (l.drop (k + 1)).filter p else (l.drop (k + 1)).filter p := by
  rw [List.drop_eq_getElem_cons h, List.filter_cons]
set_option maxHeartbeats 4000000 in
set_option maxRecDepth 100000 in
theorem Used_calls (v : Value) (s : St) (name : ByteArray) (w : World) (hs : Kd.state.V (vw w []) v s) :
    Calls Tryz.prog 131 #[v, .string name] w (VecDone (usedV s name) w) := by
  obtain ⟨cs, rfl, A1, c1, A2, c2, A3, c3, rfl, s1, s2, -⟩ := hs
  obtain ⟨-, f2, f2'⟩ := s2.form
  have S1 := Lib.hid s1
  have S2 := Lib.hid s2
  clear s1 s2
  go_enter Tryz.func131, Tryz.ntmps131
  have HB : Hid (Below w.heap.size w (w.alloc (.cells #[.slice A1 s.nodes.length c1, .slice A2 s.pods.length c2, .slice A3 s.budgets.length c3] 51))) := alloc_below _ _
  have HQ : Hid ((w.alloc (.cells #[.slice A1 s.nodes.length c1, .slice A2 s.pods.length c2, .slice A3 s.budgets.length c3] 51)).heap[w.heap.size]? = some (.cells #[.slice A1 s.nodes.length c1, .slice A2 s.pods.length c2, .slice A3 s.budgets.length c3] 51 (0, 0))) := blk_last _ _
  go_upto_region 1 with fail
  generalize w.alloc (.cells #[.slice A1 s.nodes.length c1, .slice A2 s.pods.length c2, .slice A3 s.budgets.length c3] 51) = W at HB HQ ⊢
  obtain ⟨z, zf⟩ := blk_all HQ.out
  go_wp2_with fail
  refine (FindNode_calls _ s.nodes name _ (S1.out.mono (vw_below HB.out))).mono ?_
  rintro e w1 ⟨cs, rfl, hk, hb⟩
  obtain ⟨D1, g1, D2, g2, D3, g3, rfl, -⟩ := hk
  obtain ⟨nd, hnd⟩ : ∃ nd, (findV s.nodes name).1 = nd := ⟨_, rfl⟩
  obtain ⟨fk, hfk⟩ : ∃ fk, (findV s.nodes name).2 = fk := ⟨_, rfl⟩
  rw [hnd, hfk]
  have HF := Lib.hid hfk
  have HB1 := Lib.hid (Below.then HB.out hb)
  have q := (hb.block _ (blk_lt HQ.out)).trans HQ.out
  have HQ1 := Lib.hid q
  clear z zf hb hnd hfk q
  obtain ⟨U, hU⟩ : ∃ U : World, U = w1.alloc (.cells #[.string nd.name, .slice D1 nd.cap.length g1, .slice D2 nd.labels.length g2, .slice D3 nd.taints.length g3, .bool nd.cordon] 150) := ⟨_, rfl⟩
  have HBU : Hid (Below w.heap.size w U) := by rw [hU]; exact alloc_then HB1.out _
  have hq : U.heap[w.heap.size]? = some (.cells #[.slice A1 s.nodes.length c1, .slice A2 s.pods.length c2, .slice A3 s.budgets.length c3] 51 (0, 0)) := by rw [hU]; exact (blk_old _ _ (blk_lt HQ1.out)).trans HQ1.out
  obtain ⟨z, zf⟩ := blk_all hq
  have HQU := Lib.hid hq
  clear hq HQ HB HB1 HQ1
  cases fk with
  | false =>
    have HX : Hid (usedV s name = ([], 3)) := by show _ = _; unfold usedV; rw [HF.out, if_pos rfl]
    go_wp2
    rw [← hU]
    go_ret2
    exact vec_none HX.out HBU.out
  | true =>
  have HX : Hid (usedV s name = sumV Pd.need (s.pods.filter (onB name)) []) := by show _ = _; unfold usedV; rw [HF.out, if_neg (by decide)]
  go_wp2
  rw [← hU]
  clear hU HF z zf
  go_loopw [8, 9] (fun o i wr => ∃ (k : Nat) (l : List Amt), k ≤ s.pods.length ∧ i = .int .i64 k ∧ Hid (sumV Pd.need ((s.pods.drop k).filter (onB name)) l = usedV s name) ∧ Hid (Kd.amt.S (vw wr []) o l) ∧ Hid (Below U.heap.size U wr)) (fun _ i _ => s.pods.length - (intOf i).toNat)
  case atStart => exact ⟨0, [], Nat.zero_le _, rfl, HX.out.symm, Kd.S.nil _ _, Below.refl _ _⟩
  case round =>
    clear HX
    obtain ⟨k, l, hk, rfl, HR, HO, HB⟩ := hrel
    have q1 := (HB.out.block _ (blk_lt HQU.out)).trans HQU.out
    obtain ⟨z, zf⟩ := blk_all q1
    clear q1
    obtain ⟨B, cb, rfl, ho⟩ := HO.out.val
    clear HO
    have HO := Lib.hid ho
    clear ho
    by_cases hlt : k < s.pods.length
    · obtain ⟨b, off, cs, rfl, hn, hc⟩ := S2.out.both (Below.then HBU.out HB.out) k hlt
      obtain ⟨E1, x1, E2, x2, E3, x3, E4, x4, rfl, -, t1, -⟩ := hn
      have c9 : wr.cell? ⟨b, off + k * 11 + 9, none⟩ = some (.string s.pods[k].node) := hc 9 _ rfl
      have c3 : wr.cell? ⟨b, off + k * 11 + 3, none⟩ = some (.slice E1 s.pods[k].need.length x1) := hc 3 _ rfl
      have T1 := Lib.hid (t1.mono (vw_below (Below.then HBU.out HB.out)))
      have hr := HR.out
      rw [filter_on hlt] at hr
      clear hc t1
      have e1 := eq_beq s.pods[k].node name
      obtain ⟨m, hm⟩ : ∃ m, decide (s.pods[k].node = name) = m := ⟨_, rfl⟩
      rw [hm] at e1
      rw [show onB name s.pods[k] = m from hm] at hr
      clear hm
      cases m with
      | false =>
        have HX := Lib.hid hr
        clear hr
        go_wp2
        go_roundw
        case rel => exact ⟨k + 1, l, by omega, by go_num, HX.out, HO.out, HB.out⟩
        case measure => simp [intOf]; omega
      | true =>
        rw [if_pos rfl, sumV] at hr
        have HX := Lib.hid hr
        clear hr
        go_wp2_with fail
        refine (AddVec_calls _ _ l s.pods[k].need _ HO.out T1.out).mono ?_
        rintro e w2 ⟨C, cc, rfl, hs, hb⟩
        obtain ⟨l2, hl2⟩ : ∃ l2, (addVec l s.pods[k].need).1 = l2 := ⟨_, rfl⟩
        obtain ⟨n1, hn1⟩ : ∃ n1, (addVec l s.pods[k].need).2 = n1 := ⟨_, rfl⟩
        have hx := HX.out
        rw [hl2, hn1] at hx
        rw [hl2] at hs
        rw [hl2, hn1]
        have HB2 := Lib.hid (Below.then HB.out hb)
        have HS2 := Lib.hid hs
        clear hl2 hn1 HX hb hs c9 c3 z zf
        by_cases h0 : n1 ≠ 0
        · rw [if_pos h0] at hx
          have HX := Lib.hid hx
          clear hx
          have t1 : (n1 == 0) = false := by simp [h0]
          go_wp2
          go_ret2
          exact vec_none HX.out.symm (Below.then HBU.out HB2.out)
        rw [if_neg h0] at hx
        have HX := Lib.hid hx
        obtain rfl : n1 = 0 := Decidable.not_not.1 h0
        clear hx h0
        go_wp2
        go_roundw
        case rel => exact ⟨k + 1, l2, by omega, by go_num, HX.out, HS2.out, HB2.out⟩
        case measure => simp [intOf]; omega
    · obtain rfl : k = s.pods.length := by omega
      have hr := HR.out
      rw [List.drop_length, List.filter_nil, sumV] at hr
      have HX := Lib.hid hr
      clear hr
      go_wp2
      go_ret2
      exact vec_some HX.out.symm HO.out (Below.then HBU.out HB.out)
set_option maxHeartbeats 4000000 in
set_option maxRecDepth 100000 in
theorem Total_calls (v : Value) (s : St) (w : World) (hs : Kd.state.V (vw w []) v s) :
    Calls Tryz.prog 162 #[v] w (VecDone (totalV s) w) := by
  obtain ⟨cs, rfl, A1, c1, A2, c2, A3, c3, rfl, s1, -, -⟩ := hs
  obtain ⟨-, f2, f2'⟩ := s1.form
  have S1 := Lib.hid s1
  clear s1
  have HX : Hid (sumV Nd.cap s.nodes [] = totalV s) := rfl
  go_enter Tryz.func162, Tryz.ntmps162
  have HB : Hid (Below w.heap.size w (w.alloc (.cells #[.slice A1 s.nodes.length c1, .slice A2 s.pods.length c2, .slice A3 s.budgets.length c3] 51))) := alloc_below _ _
  have HQ : Hid ((w.alloc (.cells #[.slice A1 s.nodes.length c1, .slice A2 s.pods.length c2, .slice A3 s.budgets.length c3] 51)).heap[w.heap.size]? = some (.cells #[.slice A1 s.nodes.length c1, .slice A2 s.pods.length c2, .slice A3 s.budgets.length c3] 51 (0, 0))) := blk_last _ _
  go_upto_region 1 with fail
  generalize w.alloc (.cells #[.slice A1 s.nodes.length c1, .slice A2 s.pods.length c2, .slice A3 s.budgets.length c3] 51) = W at HB HQ ⊢
  obtain ⟨z, zf⟩ := blk_all HQ.out
  go_wp2
  clear z zf
  go_loopw [4, 5] (fun o i wr => ∃ (k : Nat) (l : List Amt), k ≤ s.nodes.length ∧ i = .int .i64 k ∧ Hid (sumV Nd.cap (s.nodes.drop k) l = totalV s) ∧ Hid (Kd.amt.S (vw wr []) o l) ∧ Hid (Below W.heap.size W wr)) (fun _ i _ => s.nodes.length - (intOf i).toNat)
  case atStart => exact ⟨0, [], Nat.zero_le _, rfl, HX.out, Kd.S.nil _ _, Below.refl _ _⟩
  case round =>
    clear HX
    have HBU := HB
    have HQU := HQ
    clear HB HQ
    obtain ⟨k, l, hk, rfl, HR, HO, HB⟩ := hrel
    have q1 := (HB.out.block _ (blk_lt HQU.out)).trans HQU.out
    obtain ⟨z, zf⟩ := blk_all q1
    clear q1
    obtain ⟨B, cb, rfl, ho⟩ := HO.out.val
    clear HO
    have HO := Lib.hid ho
    clear ho
    by_cases hlt : k < s.nodes.length
    · obtain ⟨b, off, cs, rfl, hn, hc⟩ := S1.out.both (Below.then HBU.out HB.out) k hlt
      obtain ⟨E1, x1, E2, x2, E3, x3, rfl, -, t1, -⟩ := hn
      have c9 : wr.cell? ⟨b, off + k * 5 + 1, none⟩ = some (.slice E1 s.nodes[k].cap.length x1) := hc 1 _ rfl
      have T1 := Lib.hid (t1.mono (vw_below (Below.then HBU.out HB.out)))
      have hr := HR.out
      rw [List.drop_eq_getElem_cons hlt, sumV] at hr
      have HX := Lib.hid hr
      clear hc t1 hr
      go_wp2_with fail
      refine (AddVec_calls _ _ l s.nodes[k].cap _ HO.out T1.out).mono ?_
      rintro e w2 ⟨C, cc, rfl, hs, hb⟩
      obtain ⟨l2, hl2⟩ : ∃ l2, (addVec l s.nodes[k].cap).1 = l2 := ⟨_, rfl⟩
      obtain ⟨n1, hn1⟩ : ∃ n1, (addVec l s.nodes[k].cap).2 = n1 := ⟨_, rfl⟩
      have hx := HX.out
      rw [hl2, hn1] at hx
      rw [hl2] at hs
      rw [hl2, hn1]
      have HB2 := Lib.hid (Below.then HB.out hb)
      have HS2 := Lib.hid hs
      clear hl2 hn1 HX hb hs c9 z zf
      by_cases h0 : n1 ≠ 0
      · rw [if_pos h0] at hx
        have HX := Lib.hid hx
        clear hx
        have t1 : (n1 == 0) = false := by simp [h0]
        go_wp2
        go_ret2
        exact vec_none HX.out.symm (Below.then HBU.out HB2.out)
      rw [if_neg h0] at hx
      have HX := Lib.hid hx
      obtain rfl : n1 = 0 := Decidable.not_not.1 h0
      clear hx h0
      go_wp2
      go_roundw
      case rel => exact ⟨k + 1, l2, by omega, by go_num, HX.out, HS2.out, HB2.out⟩
      case measure => simp [intOf]; omega
    · obtain rfl : k = s.nodes.length := by omega
      have hr := HR.out
      rw [List.drop_length, sumV] at hr
      have HX := Lib.hid hr
      clear hr
      go_wp2
      go_ret2
      exact vec_some HX.out.symm HO.out (Below.then HBU.out HB.out)
end Go.Proofs.YtnmhicgbdalniaaGreatDoor
