import Derived.Test.YtnmhicgbdalniaaGreatDoorMs8
import Derived.Deep.QuietTactic
import Derived.BigQuiet
import Derived.Sort.Walk0
import Derived.Deep.RegionHeld3
import Derived.Deep.DeepCutAuto
import Derived.Deep.CutBlock
namespace Go.Proofs.YtnmhicgbdalniaaGreatDoor
open Go.RowKit

def SameDone (v : Value) (w : World) (e : Ending) (w' : World) : Prop := e = .returned v ∧ w = w'
theorem name_at {s : ByteArray} {k : Nat} (h : k < s.size) : (s.data.toList.drop k).all nameB = (nameB s[k] && (s.data.toList.drop (k + 1)).all nameB) := by
  rw [List.drop_eq_getElem_cons (by simpa using h)]; rfl
set_option maxHeartbeats 1000000 in
theorem IsName_calls (s : ByteArray) (w : World) (hs : s.size ≤ 140737488351232) :
    Calls Tryz.prog 74 #[.string s] w (SameDone (.bool (isName s)) w) := by
  by_cases h1 : s.size < 1
  · have HZ : Hid (isName s = false) := by show _ = _; unfold isName; rw [decide_eq_false (by omega)]; rfl
    go_enter Tryz.func74, Tryz.ntmps74
    go_wp2
    go_ret
    exact ⟨ret_bool HZ.out.symm, rfl⟩
  by_cases h2 : 12 < s.size
  · have HZ : Hid (isName s = false) := by show _ = _; unfold isName; rw [decide_eq_false (by omega : ¬ s.size ≤ 12)]; simp
    go_enter Tryz.func74, Tryz.ntmps74
    go_wp2
    go_ret
    exact ⟨ret_bool HZ.out.symm, rfl⟩
  have HZ : Hid (isName s = s.data.toList.all nameB) := by show _ = _; unfold isName; rw [decide_eq_true (by omega), decide_eq_true (by omega)]; rfl
  go_enter Tryz.func74, Tryz.ntmps74
  go_wp2
  go_loop [3] (fun i => ∃ k : Nat, k ≤ s.size ∧ i = .int .i64 k ∧ Hid ((s.data.toList.drop k).all nameB = s.data.toList.all nameB)) (fun i => s.size - (intOf i).toNat)
  case atStart => exact ⟨0, Nat.zero_le _, rfl, rfl⟩
  case round =>
    obtain ⟨k, hk, rfl, HR⟩ := hrel
    by_cases hlt : k < s.size
    · obtain ⟨x, hx⟩ : ∃ x : Nat, s[k].toNat = x := ⟨_, rfl⟩
      have hr := HR.out
      rw [name_at hlt] at hr
      have hn : nameB s[k] = (decide (97 ≤ x) && decide (x ≤ 122) || decide (48 ≤ x) && decide (x ≤ 57)) := by rw [← hx]; rfl
      have HX := Lib.hid hr
      have HN := Lib.hid hn
      clear hr hn
      by_cases hc : (97 ≤ x ∧ x ≤ 122) ∨ (48 ≤ x ∧ x ≤ 57)
      · have hy := HX.out
        rw [HN.out, show (decide (97 ≤ x) && decide (x ≤ 122) || decide (48 ≤ x) && decide (x ≤ 57)) = true by simp; omega, Bool.true_and] at hy
        have HY := Lib.hid hy
        clear hy
        go_wp2
        all_goals
          go_round
          case rel => exact ⟨k + 1, by omega, by go_num, HY.out⟩
          case measure => simp [intOf]; omega
      · have hy := HX.out
        rw [HN.out, show (decide (97 ≤ x) && decide (x ≤ 122) || decide (48 ≤ x) && decide (x ≤ 57)) = false by simp; omega, Bool.false_and] at hy
        have HY := Lib.hid (HZ.out.trans hy.symm)
        clear hy
        go_wp2
        all_goals
          go_ret
          exact ⟨ret_bool HY.out.symm, rfl⟩
    · obtain rfl : k = s.size := by omega
      have hr := HR.out
      rw [List.drop_of_length_le (by simp)] at hr
      have HY : Hid (isName s = true) := by show _ = _; rw [HZ.out, ← hr]; rfl
      clear hr
      go_wp2
      go_ret
      exact ⟨ret_bool HY.out.symm, rfl⟩
end Go.Proofs.YtnmhicgbdalniaaGreatDoor
namespace Go.Proofs.YtnmhicgbdalniaaGreatDoor
open Go.RowKit

theorem less_ltS (a b : ByteArray) : Op.bytesLess a.toList b.toList = ltS a b := by
  rw [Proofs.bytesLess_eq, Lib.toList_data, Lib.toList_data]; rfl
theorem le_ltS (a b : ByteArray) : (Op.bytesLess a.toList b.toList || (a.toList == b.toList)) = !ltS b a := by
  rw [less_ltS]
  unfold ltS
  rw [Bool.eq_iff_iff]
  simp only [Bool.or_eq_true, decide_eq_true_eq, Bool.not_eq_true', decide_eq_false_iff_not, beq_iff_eq, Lib.toList_data]
  constructor
  · rintro (h | h) k
    · exact Std.lt_irrefl (Std.lt_of_lt_of_le h (Std.le_of_lt k))
    · rw [h] at k; exact Std.lt_irrefl k
  · intro h
    by_cases e : a.data.toList = b.data.toList
    · exact .inr e
    · exact .inl (Std.lt_of_le_of_ne (Std.not_lt.1 h) e)
theorem ret_i {k : IntKind} {a b : Int} (h : a = b) : Ending.returned (.int k a) = .returned (.int k b) := by rw [h]
theorem manyV_big {α : Type} {lim : Nat} {l : List α} (h : lim < l.length) (n : Int) : manyV lim l n = 4 := if_pos h
theorem manyV_few {α : Type} {lim : Nat} {l : List α} (h : ¬ lim < l.length) (n : Int) : manyV lim l n = n := if_neg h
def NumDone (n : Int) (w : World) (e : Ending) (w' : World) : Prop := e = .returned (.int .i64 n) ∧ Below w.heap.size w w'
theorem drewN_then {w wr : World} (h : Below w.heap.size w wr) (n : Nat) : Below w.heap.size w (wr.drewN n) := below_drewN h n
set_option maxHeartbeats 2000000 in
theorem CheckVec_calls (v : Value) (l : List Amt) (w : World) (hs : Kd.amt.S (vw w []) v l) :
    Calls Tryz.prog 75 #[v] w (NumDone (checkVec l) w) := by
  obtain ⟨A, cap, rfl, hs⟩ := hs.val
  obtain ⟨-, hcap, hlen⟩ := hs.form
  have HS := Lib.hid hs
  clear hs
  go_enter Tryz.func75, Tryz.ntmps75
  by_cases h8 : 8 < l.length
  · have HZ : Hid (checkVec l = 4) := manyV_big h8 _
    go_wp2
    go_ret
    exact ⟨ret_i HZ.out.symm, Below.refl _ _⟩
  have HZ : Hid (checkVec l = rowsV amtV Amt.name none l) := manyV_few h8 _
  go_wp2
  go_loopw [3] (fun i wr => ∃ k : Nat, k ≤ l.length ∧ i = .int .i64 k ∧ Hid (rowsV amtV Amt.name (prevN Amt.name l k) (l.drop k) = checkVec l) ∧ Hid (Below w.heap.size w wr)) (fun i _ => l.length - (intOf i).toNat)
  case atStart => exact ⟨0, Nat.zero_le _, rfl, HZ.out.symm, Below.refl _ _⟩
  case round =>
    clear HZ
    obtain ⟨k, hk, rfl, HR, HB⟩ := hrel
    by_cases hlt : k < l.length
    · obtain ⟨b, off, rfl, hc, hp, hi1, hi2⟩ := (HS.out.mono (vw_below HB.out)).elemN k hlt
      have c0 : wr.cell? ⟨b, off + k * 2, none⟩ = some (.string l[k].name) := hc 0 _ rfl
      have c1 : wr.cell? ⟨b, off + k * 2 + 1, none⟩ = some (.int .i64 l[k].n) := hc 1 _ rfl
      have hr := HR.out
      rw [rowsV_at _ _ hlt] at hr
      have hav : amtV l[k] = if isName l[k].name = false then 3 else if l[k].n ≤ 0 then 1 else 0 := rfl
      obtain ⟨n1, hn1⟩ : ∃ n1, isName l[k].name = n1 := ⟨_, rfl⟩
      rw [hn1] at hav
      rw [hav] at hr
      have HX := Lib.hid hr
      have HN := Lib.hid hn1
      have HP := Lib.hid hp
      clear hr hc hav hn1 hp
      go_wp2_with fail
      refine (IsName_calls _ _ HP.out).mono ?_
      rintro e w' ⟨rfl, rfl⟩
      rw [HN.out]
      cases n1 with
      | false =>
        have HY : Hid (3 = checkVec l) := HX.out
        go_wp2
        go_ret
        exact ⟨ret_i HY.out, HB.out⟩
      | true =>
        by_cases hn0 : l[k].n ≤ 0
        · have hy := HX.out
          rw [if_neg (by decide), if_pos hn0] at hy
          have HY : Hid (1 = checkVec l) := hy
          clear hy
          go_wp2
          go_ret
          exact ⟨ret_i HY.out, HB.out⟩
        have hy := HX.out
        rw [if_neg (by decide), if_neg hn0, orV_r rfl] at hy
        by_cases hk0 : k = 0
        · subst hk0
          rw [tooLow_first, if_neg (by decide)] at hy
          have HY := Lib.hid hy
          clear hy
          go_wp2_with fail
          go_quiet (fail)
          go_wp2
          go_roundw
          case rel => exact ⟨0 + 1, by omega, by go_num, HY.out, drewN_then HB.out _⟩
          case measure => simp [intOf]; omega
        · rw [tooLow_next _ hlt (by omega), ← le_ltS] at hy
          obtain ⟨b', off', hA, hc', -⟩ := (HS.out.mono (vw_below HB.out)).elemN (k - 1) (by omega)
          injection hA with hA
          injection hA with e1 e2
          subst e1 e2
          have c2 : wr.cell? ⟨b, off + (k - 1) * 2, none⟩ = some (.string l[k - 1].name) := hc' 0 _ rfl
          obtain ⟨q, hq⟩ : ∃ q, (Op.bytesLess l[k].name.toList l[k - 1].name.toList || (l[k].name.toList == l[k - 1].name.toList)) = q := ⟨_, rfl⟩
          rw [hq] at hy
          clear hc'
          have hk1 : 0 < k := by omega
          have hk2 : ((k : Int) - 1).toNat = k - 1 := by omega
          cases q with
          | true =>
            have HY : Hid (13 = checkVec l) := hy
            clear hy
            go_wp2_with fail
            go_quiet (fail)
            go_wp2
            go_ret
            exact ⟨ret_i HY.out, drewN_then HB.out _⟩
          | false =>
            have HY : Hid (rowsV amtV Amt.name (prevN Amt.name l (k + 1)) (l.drop (k + 1)) = checkVec l) := hy
            clear hy
            go_wp2_with fail
            go_quiet (fail)
            go_wp2
            go_roundw
            case rel => exact ⟨k + 1, by omega, by go_num, HY.out, drewN_then HB.out _⟩
            case measure => simp [intOf]; omega
    · obtain rfl : k = l.length := by omega
      have hr := HR.out
      rw [List.drop_length] at hr
      have HY : Hid (0 = checkVec l) := hr
      clear hr
      go_wp2
      go_ret
      exact ⟨ret_i HY.out, HB.out⟩
end Go.Proofs.YtnmhicgbdalniaaGreatDoor
namespace Go.Proofs.YtnmhicgbdalniaaGreatDoor
open Go.RowKit

theorem alloc_then {w wr : World} (h : Below w.heap.size w wr) (o : Obj) : Below w.heap.size w (wr.alloc o) := Below.then h (alloc_below _ _)
set_option maxHeartbeats 2000000 in
theorem CheckSet_calls (v : Value) (l : List Pair) (w : World) (hs : Kd.pair.S (vw w []) v l) :
    Calls Tryz.prog 76 #[v] w (NumDone (checkSet l) w) := by
  obtain ⟨A, cap, rfl, hs⟩ := hs.val
  obtain ⟨-, hcap, hlen⟩ := hs.form
  have HS := Lib.hid hs
  clear hs
  go_enter Tryz.func76, Tryz.ntmps76
  by_cases h8 : 8 < l.length
  · have HZ : Hid (checkSet l = 4) := manyV_big h8 _
    go_wp2
    go_ret
    exact ⟨ret_i HZ.out.symm, Below.refl _ _⟩
  have HZ : Hid (checkSet l = rowsV pairV Pair.key none l) := manyV_few h8 _
  go_wp2
  go_loopw [3] (fun i wr => ∃ k : Nat, k ≤ l.length ∧ i = .int .i64 k ∧ Hid (rowsV pairV Pair.key (prevN Pair.key l k) (l.drop k) = checkSet l) ∧ Hid (Below w.heap.size w wr)) (fun i _ => l.length - (intOf i).toNat)
  case atStart => exact ⟨0, Nat.zero_le _, rfl, HZ.out.symm, Below.refl _ _⟩
  case round =>
    clear HZ
    obtain ⟨k, hk, rfl, HR, HB⟩ := hrel
    by_cases hlt : k < l.length
    · obtain ⟨b, off, rfl, hc, hp1, hp2⟩ := (HS.out.mono (vw_below HB.out)).elemN k hlt
      have c0 : wr.cell? ⟨b, off + k * 2, none⟩ = some (.string l[k].key) := hc 0 _ rfl
      have c1 : wr.cell? ⟨b, off + k * 2 + 1, none⟩ = some (.string l[k].val) := hc 1 _ rfl
      have hr := HR.out
      rw [rowsV_at _ _ hlt] at hr
      have hav : pairV l[k] = if isName l[k].key = false then 3 else if isName l[k].val = false then 3 else 0 := rfl
      obtain ⟨n1, hn1⟩ : ∃ n1, isName l[k].key = n1 := ⟨_, rfl⟩
      obtain ⟨n2, hn2⟩ : ∃ n2, isName l[k].val = n2 := ⟨_, rfl⟩
      rw [hn1, hn2] at hav
      rw [hav] at hr
      have HX := Lib.hid hr
      have HN1 := Lib.hid hn1
      have HN2 := Lib.hid hn2
      have HP1 := Lib.hid hp1
      have HP2 := Lib.hid hp2
      clear hr hc hav hn1 hn2 hp1 hp2
      go_wp2_with fail
      refine (IsName_calls _ _ HP1.out).mono ?_
      rintro e w' ⟨rfl, rfl⟩
      rw [HN1.out]
      cases n1 with
      | false =>
        have HY : Hid (3 = checkSet l) := HX.out
        go_wp2
        go_ret
        exact ⟨ret_i HY.out, HB.out⟩
      | true =>
        go_wp2_with fail
        refine (IsName_calls _ _ HP2.out).mono ?_
        rintro e w' ⟨rfl, rfl⟩
        rw [HN2.out]
        cases n2 with
        | false =>
          have HY : Hid (3 = checkSet l) := HX.out
          go_wp2
          go_ret
          exact ⟨ret_i HY.out, HB.out⟩
        | true =>
        have hy := HX.out
        rw [if_neg (by decide), if_neg (by decide), orV_r rfl] at hy
        by_cases hk0 : k = 0
        · subst hk0
          rw [tooLow_first, if_neg (by decide)] at hy
          have HY := Lib.hid hy
          clear hy
          go_wp2_with fail
          go_quiet (fail)
          go_wp2
          go_roundw
          case rel => exact ⟨0 + 1, by omega, by go_num, HY.out, drewN_then HB.out _⟩
          case measure => simp [intOf]; omega
        · rw [tooLow_next _ hlt (by omega), ← le_ltS] at hy
          obtain ⟨b', off', hA, hc', -⟩ := (HS.out.mono (vw_below HB.out)).elemN (k - 1) (by omega)
          injection hA with hA
          injection hA with e1 e2
          subst e1 e2
          have c2 : wr.cell? ⟨b, off + (k - 1) * 2, none⟩ = some (.string l[k - 1].key) := hc' 0 _ rfl
          obtain ⟨q, hq⟩ : ∃ q, (Op.bytesLess l[k].key.toList l[k - 1].key.toList || (l[k].key.toList == l[k - 1].key.toList)) = q := ⟨_, rfl⟩
          rw [hq] at hy
          clear hc'
          have hk1 : 0 < k := by omega
          have hk2 : ((k : Int) - 1).toNat = k - 1 := by omega
          cases q with
          | true =>
            have HY : Hid (13 = checkSet l) := hy
            clear hy
            go_wp2_with fail
            go_quiet (fail)
            go_wp2
            go_ret
            exact ⟨ret_i HY.out, drewN_then HB.out _⟩
          | false =>
            have HY : Hid (rowsV pairV Pair.key (prevN Pair.key l (k + 1)) (l.drop (k + 1)) = checkSet l) := hy
            clear hy
            go_wp2_with fail
            go_quiet (fail)
            go_wp2
            go_roundw
            case rel => exact ⟨k + 1, by omega, by go_num, HY.out, drewN_then HB.out _⟩
            case measure => simp [intOf]; omega
    · obtain rfl : k = l.length := by omega
      have hr := HR.out
      rw [List.drop_length] at hr
      have HY : Hid (0 = checkSet l) := hr
      clear hr
      go_wp2
      go_ret
      exact ⟨ret_i HY.out, HB.out⟩
set_option maxHeartbeats 2000000 in
theorem CheckSel_calls (v : Value) (l : List Term) (w : World) (hs : Kd.term.S (vw w []) v l) :
    Calls Tryz.prog 77 #[v] w (NumDone (checkSel l) w) := by
  obtain ⟨A, cap, rfl, hs⟩ := hs.val
  obtain ⟨-, hcap, hlen⟩ := hs.form
  have HS := Lib.hid hs
  clear hs
  go_enter Tryz.func77, Tryz.ntmps77
  by_cases h8 : 8 < l.length
  · have HZ : Hid (checkSel l = 4) := manyV_big h8 _
    go_wp2
    go_ret
    exact ⟨ret_i HZ.out.symm, Below.refl _ _⟩
  have HZ : Hid (checkSel l = firstV termV l) := manyV_few h8 _
  go_wp2
  go_loopw [3] (fun i wr => ∃ k : Nat, k ≤ l.length ∧ i = .int .i64 k ∧ Hid (firstV termV (l.drop k) = checkSel l) ∧ Hid (Below w.heap.size w wr)) (fun i _ => l.length - (intOf i).toNat)
  case atStart => exact ⟨0, Nat.zero_le _, rfl, HZ.out.symm, Below.refl _ _⟩
  case round =>
    clear HZ
    obtain ⟨k, hk, rfl, HR, HB⟩ := hrel
    by_cases hlt : k < l.length
    · obtain ⟨b, off, rfl, hc, hi, hp1, hp2⟩ := (HS.out.mono (vw_below HB.out)).elemN k hlt
      have hr := HR.out
      rw [firstV_at _ hlt] at hr
      obtain ⟨x, hx⟩ : ∃ x, l[k] = x := ⟨_, rfl⟩
      rw [hx] at hr hc hi hp1 hp2
      have HC : Hid (wr.rangeAt b (off + k * 3) _) := hc
      have hav : termV x = if x.op < 1 then 1 else if 4 < x.op then 1 else if isName x.key = false then 3 else if x.op ≤ 2 then (if isName x.val = false then 3 else 0) else if emptyB x.val = false then 3 else 0 := rfl
      obtain ⟨n1, hn1⟩ : ∃ n1, isName x.key = n1 := ⟨_, rfl⟩
      obtain ⟨n2, hn2⟩ : ∃ n2, isName x.val = n2 := ⟨_, rfl⟩
      have e1 := empty_beq x.val
      have hem : emptyB x.val = decide (x.val = ⟨#[]⟩) := rfl
      obtain ⟨n3, hn3⟩ : ∃ n3, decide (x.val = ⟨#[]⟩) = n3 := ⟨_, rfl⟩
      rw [hn1, hn2, hem, hn3] at hav
      rw [hn3] at e1
      rw [hav] at hr
      have HX := Lib.hid hr
      have HN1 := Lib.hid hn1
      have HN2 := Lib.hid hn2
      have HP1 := Lib.hid hp1
      have HP2 := Lib.hid hp2
      clear hr hc hav hn1 hn2 hp1 hp2 hx hem hn3
      obtain ⟨hi1, hi2⟩ := hi
      go_upto_region 7 with (with_reducible refine wpList_load_mid rfl 238 _ rfl b (off + k * 3) rfl _ _ HC.out Tryz.underlying238 rfl (by kernel_rfl) ?_)
      have HB2 : Hid (Below w.heap.size w (wr.alloc (.cells #[.int .i64 x.op, .string x.key, .string x.val] 238))) := alloc_then HB.out _
      have hub : (wr.alloc (.cells #[.int .i64 x.op, .string x.key, .string x.val] 238)).heap[wr.heap.size]? = some (.cells #[.int .i64 x.op, .string x.key, .string x.val] 238 (0, 0)) := blk_last _ _
      generalize hU : wr.alloc (.cells #[.int .i64 x.op, .string x.key, .string x.val] 238) = U at HB2 hub ⊢
      obtain ⟨z, zf⟩ := blk_all hub
      clear hU hub
      by_cases o1 : x.op < 1
      · have hy := HX.out
        rw [if_pos o1] at hy
        have HY : Hid (1 = checkSel l) := hy
        clear hy
        go_wp2
        go_ret
        exact ⟨ret_i HY.out, HB2.out⟩
      by_cases o2 : 4 < x.op
      · have hy := HX.out
        rw [if_neg o1, if_pos o2] at hy
        have HY : Hid (1 = checkSel l) := hy
        clear hy
        go_wp2
        go_ret
        exact ⟨ret_i HY.out, HB2.out⟩
      have hy := HX.out
      rw [if_neg o1, if_neg o2] at hy
      clear HX
      have HX := Lib.hid hy
      clear hy
      by_cases o3 : x.op ≤ 2
      · have hy := HX.out
        rw [if_pos o3] at hy
        clear HX
        have HX := Lib.hid hy
        clear hy
        go_wp2_with fail
        refine (IsName_calls _ _ HP1.out).mono ?_
        rintro e w' ⟨rfl, rfl⟩
        rw [HN1.out]
        cases n1 with
        | false =>
          have HY : Hid (3 = checkSel l) := HX.out
          go_wp2
          go_ret
          exact ⟨ret_i HY.out, HB2.out⟩
        | true =>
          go_wp2_with fail
          refine (IsName_calls _ _ HP2.out).mono ?_
          rintro e w' ⟨rfl, rfl⟩
          rw [HN2.out]
          cases n2 with
          | false =>
            have HY : Hid (3 = checkSel l) := HX.out
            go_wp2
            go_ret
            exact ⟨ret_i HY.out, HB2.out⟩
          | true =>
            have HY : Hid (firstV termV (l.drop (k + 1)) = checkSel l) := HX.out
            go_wp2
            go_roundw
            case rel => exact ⟨k + 1, by omega, by go_num, HY.out, HB2.out⟩
            case measure => simp [intOf]; omega
      · have hy := HX.out
        rw [if_neg o3] at hy
        clear HX
        have HX := Lib.hid hy
        clear hy
        go_wp2_with fail
        refine (IsName_calls _ _ HP1.out).mono ?_
        rintro e w' ⟨rfl, rfl⟩
        rw [HN1.out]
        cases n1 with
        | false =>
          have HY : Hid (3 = checkSel l) := HX.out
          go_wp2
          go_ret
          exact ⟨ret_i HY.out, HB2.out⟩
        | true =>
          cases n3 with
          | false =>
            have HY : Hid (3 = checkSel l) := HX.out
            go_wp2
            go_ret
            exact ⟨ret_i HY.out, HB2.out⟩
          | true =>
            have HY : Hid (firstV termV (l.drop (k + 1)) = checkSel l) := HX.out
            go_wp2
            go_roundw
            case rel => exact ⟨k + 1, by omega, by go_num, HY.out, HB2.out⟩
            case measure => simp [intOf]; omega
    · obtain rfl : k = l.length := by omega
      have hr := HR.out
      rw [List.drop_length] at hr
      have HY : Hid (0 = checkSel l) := hr
      clear hr
      go_wp2
      go_ret
      exact ⟨ret_i HY.out, HB.out⟩
set_option maxHeartbeats 2000000 in
theorem CheckTols_calls (v : Value) (l : List Tnt) (w : World) (hs : Kd.tnt.S (vw w []) v l) :
    Calls Tryz.prog 78 #[v] w (NumDone (checkTols l) w) := by
  obtain ⟨A, cap, rfl, hs⟩ := hs.val
  obtain ⟨-, hcap, hlen⟩ := hs.form
  have HS := Lib.hid hs
  clear hs
  go_enter Tryz.func78, Tryz.ntmps78
  by_cases h8 : 8 < l.length
  · have HZ : Hid (checkTols l = 4) := manyV_big h8 _
    go_wp2
    go_ret
    exact ⟨ret_i HZ.out.symm, Below.refl _ _⟩
  have HZ : Hid (checkTols l = firstV tolV l) := manyV_few h8 _
  go_wp2
  go_loopw [3] (fun i wr => ∃ k : Nat, k ≤ l.length ∧ i = .int .i64 k ∧ Hid (firstV tolV (l.drop k) = checkTols l) ∧ Hid (Below w.heap.size w wr)) (fun i _ => l.length - (intOf i).toNat)
  case atStart => exact ⟨0, Nat.zero_le _, rfl, HZ.out.symm, Below.refl _ _⟩
  case round =>
    clear HZ
    obtain ⟨k, hk, rfl, HR, HB⟩ := hrel
    by_cases hlt : k < l.length
    · obtain ⟨b, off, rfl, hc, hp1, hp2⟩ := (HS.out.mono (vw_below HB.out)).elemN k hlt
      have hr := HR.out
      rw [firstV_at _ hlt] at hr
      obtain ⟨x, hx⟩ : ∃ x, l[k] = x := ⟨_, rfl⟩
      rw [hx] at hr hc hp1 hp2
      have hav : tolV x = if emptyB x.key = false ∧ isName x.key = false then 3 else if x.b = true then (if emptyB x.val = false then 3 else 0) else if isName x.val = false then 3 else 0 := rfl
      obtain ⟨n1, hn1⟩ : ∃ n1, isName x.key = n1 := ⟨_, rfl⟩
      obtain ⟨n2, hn2⟩ : ∃ n2, isName x.val = n2 := ⟨_, rfl⟩
      have e1 := empty_beq x.val
      have e2 := empty_beq x.key
      have hem : emptyB x.val = decide (x.val = ⟨#[]⟩) := rfl
      have hem2 : emptyB x.key = decide (x.key = ⟨#[]⟩) := rfl
      obtain ⟨n3, hn3⟩ : ∃ n3, decide (x.val = ⟨#[]⟩) = n3 := ⟨_, rfl⟩
      obtain ⟨n4, hn4⟩ : ∃ n4, decide (x.key = ⟨#[]⟩) = n4 := ⟨_, rfl⟩
      obtain ⟨n5, hn5⟩ : ∃ n5, x.b = n5 := ⟨_, rfl⟩
      rw [hn1, hn2, hem, hn3, hem2, hn4, hn5] at hav
      rw [hn3] at e1
      rw [hn4] at e2
      rw [hn5] at hc
      rw [hav] at hr
      have HC : Hid (wr.rangeAt b (off + k * 3) _) := hc
      have HX := Lib.hid hr
      have HN1 := Lib.hid hn1
      have HN2 := Lib.hid hn2
      have HP1 := Lib.hid hp1
      have HP2 := Lib.hid hp2
      clear hr hc hav hn1 hn2 hp1 hp2 hx hem hn3 hem2 hn4 hn5
      go_upto_region 7 with (with_reducible refine wpList_load_mid rfl 239 _ rfl b (off + k * 3) rfl _ _ HC.out Tryz.underlying239 rfl (by kernel_rfl) ?_)
      have HB2 : Hid (Below w.heap.size w (wr.alloc (.cells #[.string x.key, .string x.val, .bool n5] 239))) := alloc_then HB.out _
      have hub : (wr.alloc (.cells #[.string x.key, .string x.val, .bool n5] 239)).heap[wr.heap.size]? = some (.cells #[.string x.key, .string x.val, .bool n5] 239 (0, 0)) := blk_last _ _
      generalize hU : wr.alloc (.cells #[.string x.key, .string x.val, .bool n5] 239) = U at HB2 hub ⊢
      obtain ⟨z, zf⟩ := blk_all hub
      clear hU hub
      cases n4 with
      | true =>
        cases n5 with
        | true =>
          cases n3 with
          | false =>
            have HY : Hid (3 = checkTols l) := HX.out
            go_wp2
            go_ret
            exact ⟨ret_i HY.out, HB2.out⟩
          | true =>
            have HY : Hid (firstV tolV (l.drop (k + 1)) = checkTols l) := HX.out
            go_wp2
            go_roundw
            case rel => exact ⟨k + 1, by omega, by go_num, HY.out, HB2.out⟩
            case measure => simp [intOf]; omega
        | false =>
          go_wp2_with fail
          refine (IsName_calls _ _ HP2.out).mono ?_
          rintro e w' ⟨rfl, rfl⟩
          rw [HN2.out]
          cases n2 with
          | false =>
            have HY : Hid (3 = checkTols l) := HX.out
            go_wp2
            go_ret
            exact ⟨ret_i HY.out, HB2.out⟩
          | true =>
            have HY : Hid (firstV tolV (l.drop (k + 1)) = checkTols l) := HX.out
            go_wp2
            go_roundw
            case rel => exact ⟨k + 1, by omega, by go_num, HY.out, HB2.out⟩
            case measure => simp [intOf]; omega
      | false =>
        go_wp2_with fail
        refine (IsName_calls _ _ HP1.out).mono ?_
        rintro e w' ⟨rfl, rfl⟩
        rw [HN1.out]
        cases n1 with
        | false =>
          have HY : Hid (3 = checkTols l) := HX.out
          go_wp2
          go_ret
          exact ⟨ret_i HY.out, HB2.out⟩
        | true =>
          cases n5 with
          | true =>
            cases n3 with
            | false =>
              have HY : Hid (3 = checkTols l) := HX.out
              go_wp2
              go_ret
              exact ⟨ret_i HY.out, HB2.out⟩
            | true =>
              have HY : Hid (firstV tolV (l.drop (k + 1)) = checkTols l) := HX.out
              go_wp2
              go_roundw
              case rel => exact ⟨k + 1, by omega, by go_num, HY.out, HB2.out⟩
              case measure => simp [intOf]; omega
          | false =>
            go_wp2_with fail
            refine (IsName_calls _ _ HP2.out).mono ?_
            rintro e w' ⟨rfl, rfl⟩
            rw [HN2.out]
            cases n2 with
            | false =>
              have HY : Hid (3 = checkTols l) := HX.out
              go_wp2
              go_ret
              exact ⟨ret_i HY.out, HB2.out⟩
            | true =>
              have HY : Hid (firstV tolV (l.drop (k + 1)) = checkTols l) := HX.out
              go_wp2
              go_roundw
              case rel => exact ⟨k + 1, by omega, by go_num, HY.out, HB2.out⟩
              case measure => simp [intOf]; omega
    · obtain rfl : k = l.length := by omega
      have hr := HR.out
      rw [List.drop_length] at hr
      have HY : Hid (0 = checkTols l) := hr
      clear hr
      go_wp2
      go_ret
      exact ⟨ret_i HY.out, HB.out⟩
end Go.Proofs.YtnmhicgbdalniaaGreatDoor
