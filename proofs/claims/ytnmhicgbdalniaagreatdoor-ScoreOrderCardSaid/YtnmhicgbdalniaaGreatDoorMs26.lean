import Derived.Test.YtnmhicgbdalniaaGreatDoorShelf
import Derived.Test.YtnmhicgbdalniaaGreatDoorMs13
import Derived.Test.YtnmhicgbdalniaaGreatDoorMs16
import Derived.Test.YtnmhicgbdalniaaGreatDoorMs19
import Derived.Test.YtnmhicgbdalniaaGreatDoorMs22
import Derived.Test.YtnmhicgbdalniaaGreatDoorMs24
import Derived.Test.YtnmhicgbdalniaaGreatDoorMs25
import Derived.Shelf.Strings.SlTrimAscii
namespace Go.Proofs.YtnmhicgbdalniaaGreatDoor
open Go.RowKit Go.Shelf

/-! Which text may be a name: the program's side. -/
theorem dropW_nil {α : Type} (p : α → Bool) : ∀ l : List α, l.dropWhile p = [] ↔ ∀ x ∈ l, p x = true
  | [] => by simp
  | a :: r => by
    have ih := dropW_nil p r
    cases h : p a with
    | true => simp [h, ih]
    | false => simp [h]
theorem dropW_head {α : Type} (p : α → Bool) : ∀ (l : List α) (x : α) (r : List α), l.dropWhile p = x :: r → p x = false
  | [], x, r, h => by simp at h
  | a :: t, x, r, h => by
    cases hp : p a with
    | true =>
      rw [List.dropWhile_cons, if_pos hp] at h
      exact dropW_head p t x r h
    | false =>
      rw [List.dropWhile_cons, if_neg (by simp [hp])] at h
      injection h with h1 h2
      rw [← h1]; exact hp
theorem trimS_nil (l cs : List UInt8) : Lib.trimS l cs = [] ↔ l.all (fun c => cs.contains c) = true := by
  unfold Lib.trimS Lib.trimLeftS Lib.trimRightS
  rw [dropW_nil]
  constructor
  · intro h
    have h2 : l.reverse.dropWhile (cs.contains ·) = [] := by
      cases hd : l.reverse.dropWhile (cs.contains ·) with
      | nil => rfl
      | cons x r =>
        have h3 := dropW_head _ _ _ _ hd
        have := h x (by rw [hd]; simp)
        rw [this] at h3
        cases h3
    rw [dropW_nil] at h2
    exact List.all_eq_true.2 fun x hx => h2 x (List.mem_reverse.2 hx)
  · intro h
    have h2 : l.reverse.dropWhile (cs.contains ·) = [] := by
      rw [dropW_nil]
      exact fun x hx => List.all_eq_true.1 h x (List.mem_reverse.1 hx)
    rw [h2]
    simp
def abc : List UInt8 := [97, 98, 99, 100, 101, 102, 103, 104, 105, 106, 107, 108, 109, 110, 111, 112, 113, 114, 115, 116, 117, 118, 119, 120, 121, 122, 48, 49, 50, 51, 52, 53, 54, 55, 56, 57]
theorem abc_table : ∀ n, n < 256 → abc.contains (UInt8.ofNat n) = nameB (UInt8.ofNat n) := by decide +kernel
theorem abc_nameB (c : UInt8) : abc.contains c = nameB c := by
  have := abc_table c.toNat c.toNat_lt
  rwa [UInt8.ofNat_toNat] at this
theorem trim_name (s : ByteArray) : ((⟨(Lib.trimS s.data.toList abc).toArray⟩ : ByteArray).toList.isEmpty) = s.data.toList.all nameB := by
  rw [empty_beq]
  have h1 : (⟨(Lib.trimS s.data.toList abc).toArray⟩ : ByteArray) = ⟨#[]⟩ ↔ Lib.trimS s.data.toList abc = [] := by
    constructor
    · intro h
      have := congrArg (fun b : ByteArray => b.data.toList) h
      simpa using this
    · intro h
      rw [h]
  have h2 := trimS_nil s.data.toList abc
  have h3 : s.data.toList.all (fun c => abc.contains c) = s.data.toList.all nameB := by
    congr 1
    funext c
    exact abc_nameB c
  rw [h3] at h2
  cases hb : s.data.toList.all nameB with
  | true => exact decide_eq_true (h1.2 (h2.2 hb))
  | false => exact decide_eq_false fun h => by rw [h2.1 (h1.1 h)] at hb; cases hb
set_option maxHeartbeats 4000000 in
set_option maxRecDepth 100000 in
theorem Name2_calls (s : ByteArray) (w : World) (hs : sok s) : Calls Tryz.prog 312 #[.string s] w (BoolDone (isName s) w) := by
  have hs' : s.size ≤ 140737488351232 := hs
  have htr := fun W => Any.strings_Trim_laid Tryz.lays160 (by kernel_rfl) s ⟨#[97, 98, 99, 100, 101, 102, 103, 104, 105, 106, 107, 108, 109, 110, 111, 112, 113, 114, 115, 116, 117, 118, 119, 120, 121, 122, 48, 49, 50, 51, 52, 53, 54, 55, 56, 57]⟩ W (by omega) (by decide) (ascii_of_all (by decide))
  have HT : Hid (∀ W, Calls Tryz.prog 327 _ W _) := htr
  have hn : isName s = (decide (1 ≤ s.size) && (decide (s.size ≤ 12) && s.data.toList.all nameB)) := rfl
  have htn := trim_name s
  obtain ⟨m, hm⟩ : ∃ m, s.data.toList.all nameB = m := ⟨_, rfl⟩
  rw [hm] at hn htn
  clear htr hm
  go_enter Tryz.func312, Tryz.ntmps312
  by_cases h1 : 1 ≤ s.size
  · rw [decide_eq_true h1] at hn
    by_cases h2 : s.size ≤ 12
    · rw [decide_eq_true h2] at hn
      have HN := Lib.hid hn
      have HTN : Hid ((⟨(Lib.trimS s.data.toList abc).toArray⟩ : ByteArray).toList.isEmpty = m) := htn
      clear hn htn
      go_wp2_with fail
      refine (HT.out _).mono ?_
      rintro e w1 ⟨rfl, hb⟩
      have HB := Lib.hid hb
      clear hb
      obtain ⟨r, hr⟩ : ∃ r : ByteArray, (⟨(Lib.trimS s.data.toList abc).toArray⟩ : ByteArray) = r := ⟨_, rfl⟩
      have ht : r.toList.isEmpty = m := by rw [← hr]; exact HTN.out
      change _ at hr
      rw [show (⟨(Lib.trimS s.data.toList (ByteArray.mk #[97, 98, 99, 100, 101, 102, 103, 104, 105, 106, 107, 108, 109, 110, 111, 112, 113, 114, 115, 116, 117, 118, 119, 120, 121, 122, 48, 49, 50, 51, 52, 53, 54, 55, 56, 57]).data.toList).toArray⟩ : ByteArray) = r from hr]
      clear hr HTN HT
      cases m <;> (go_wp2; go_ret; exact ⟨ret_bool (by rw [HN.out]; rfl), HB.out⟩)
    · rw [decide_eq_false h2] at hn
      have HN := Lib.hid hn
      clear hn htn
      go_wp2
      go_ret
      exact ⟨ret_bool (by rw [HN.out]; rfl), Below.refl _ _⟩
  · rw [decide_eq_false h1] at hn
    have HN := Lib.hid hn
    clear hn htn
    go_wp2
    go_ret
    exact ⟨ret_bool (by rw [HN.out]; rfl), Below.refl _ _⟩
end Go.Proofs.YtnmhicgbdalniaaGreatDoor
namespace Go.Proofs.YtnmhicgbdalniaaGreatDoor
open Go.RowKit

/-! Which amounts may be: the program's side. -/
set_option maxHeartbeats 4000000 in
set_option maxRecDepth 100000 in
theorem CheckVec2_calls (v : Value) (l : List Amt) (w : World) (hs : Kd.amt.S (vw w []) v l) :
    Calls Tryz.prog 286 #[v] w (NumDone (checkVec l) w) := by
  obtain ⟨A, cap, rfl, hs⟩ := hs.val
  obtain ⟨-, hcap, hlen⟩ := hs.form
  have HS := Lib.hid hs
  clear hs
  go_enter Tryz.func286, Tryz.ntmps286
  by_cases h8 : 8 < l.length
  · have HZ : Hid (checkVec l = 4) := manyV_big h8 _
    go_wp2
    go_ret
    exact ⟨ret_i HZ.out.symm, Below.refl _ _⟩
  have HZ : Hid (checkVec l = rowsV amtV Amt.name none l) := manyV_few h8 _
  go_wp2
  go_loopw [10] (fun i wr => ∃ k : Nat, k ≤ l.length ∧ i = .int .i64 k ∧ Hid (rowsV amtV Amt.name (prevN Amt.name l k) (l.drop k) = checkVec l) ∧ Hid (Below w.heap.size w wr)) (fun i _ => l.length - (intOf i).toNat)
  case atStart => exact ⟨0, Nat.zero_le _, rfl, HZ.out.symm, Below.refl _ _⟩
  case round =>
    clear HZ
    obtain ⟨k, hk, rfl, HR, HB⟩ := hrel
    by_cases hlt : k < l.length
    · obtain ⟨b, off, rfl, hc, hp, hi1, hi2⟩ := (HS.out.mono (vw_below HB.out)).elemN k hlt
      have hr := HR.out
      rw [rowsV_at _ _ hlt] at hr
      have hav : amtV l[k] = if isName l[k].name = false then 3 else if l[k].n ≤ 0 then 1 else 0 := rfl
      have htn : 0 < k → tooLow (prevN Amt.name l k) l[k].name = (Op.bytesLess l[k].name.toList l[k - 1].name.toList || (l[k].name.toList == l[k - 1].name.toList)) := fun h => by rw [tooLow_next _ hlt h, ← le_ltS]
      have HC : Hid (wr.rangeAt b (off + k * 2) [.string l[k].name, .int .i64 l[k].n]) := hc
      obtain ⟨x, hx⟩ : ∃ x, l[k] = x := ⟨_, rfl⟩
      rw [hx] at hr hav hp hi1 hi2 HC
      simp only [hx] at htn
      obtain ⟨nm, n⟩ := x
      simp only at hr hav hp hi1 hi2 HC htn
      obtain ⟨n1, hn1⟩ : ∃ n1, isName nm = n1 := ⟨_, rfl⟩
      rw [hn1] at hav
      rw [hav] at hr
      have HX := Lib.hid hr
      have HN := Lib.hid hn1
      have HP := Lib.hid hp
      have HTN := Lib.hid htn
      clear hr hc hav hn1 hp htn hx
      have HB2 : Hid (Below w.heap.size w (wr.alloc (.cells #[.string nm, .int .i64 n] 187))) := Below.then HB.out (alloc_below _ _)
      have HX1 : Hid ((wr.alloc (.cells #[.string nm, .int .i64 n] 187)).heap[wr.heap.size]? = some (.cells #[.string nm, .int .i64 n] 187 (0, 0))) := blk_last _ _
      go_upto_region 6 with (with_reducible refine wpList_load_mid rfl 187 _ rfl b (off + k * 2) rfl _ _ HC.out Tryz.underlying187 rfl (by kernel_rfl) ?_)
      generalize wr.alloc (.cells #[.string nm, .int .i64 n] 187) = W at HB2 HX1 ⊢
      obtain ⟨y, yf⟩ := blk_all HX1.out
      go_wp2_with fail
      refine (Name2_calls _ _ HP.out).mono ?_
      rintro e w1 ⟨rfl, hb⟩
      have HB3 := Lib.hid (Below.then HB2.out hb)
      have HX2 := Lib.hid ((hb.block _ (blk_lt HX1.out)).trans HX1.out)
      rw [HN.out]
      clear hb y yf
      obtain ⟨y, yf⟩ := blk_all HX2.out
      cases n1 with
      | false =>
        have HY : Hid (3 = checkVec l) := HX.out
        go_wp2
        go_ret
        exact ⟨ret_i HY.out, HB3.out⟩
      | true =>
        by_cases hn0 : n ≤ 0
        · have hy := HX.out
          rw [if_neg (by decide), if_pos hn0] at hy
          have HY : Hid (1 = checkVec l) := hy
          clear hy
          go_wp2
          go_ret
          exact ⟨ret_i HY.out, HB3.out⟩
        have hy := HX.out
        rw [if_neg (by decide), if_neg hn0, orV_r rfl] at hy
        by_cases hk0 : k = 0
        · subst hk0
          rw [tooLow_first, if_neg (by decide)] at hy
          have HY := Lib.hid hy
          clear hy
          go_wp2_with fail
          go_quiet (fail)
          go_wp2
          go_roundw
          case rel => exact ⟨0 + 1, by omega, by go_num, HY.out, drewN_then HB3.out _⟩
          case measure => simp [intOf]; omega
        · rw [HTN.out (by omega)] at hy
          obtain ⟨b', off', hA, hc', -⟩ := (HS.out.mono (vw_below HB3.out)).elemN (k - 1) (by omega)
          injection hA with hA
          injection hA with e1 e2
          subst e1 e2
          have c2 : w1.cell? ⟨b, off + (k - 1) * 2, none⟩ = some (.string l[k - 1].name) := hc' 0 _ rfl
          obtain ⟨q, hq⟩ : ∃ q, (Op.bytesLess nm.toList l[k - 1].name.toList || (nm.toList == l[k - 1].name.toList)) = q := ⟨_, rfl⟩
          rw [hq] at hy
          clear hc'
          have hk1 : 0 < k := by omega
          have hk2 : ((k : Int) - 1).toNat = k - 1 := by omega
          cases q with
          | true =>
            have HY : Hid (13 = checkVec l) := hy
            clear hy
            go_wp2_with fail
            go_quiet (fail)
            go_wp2
            go_ret
            exact ⟨ret_i HY.out, drewN_then HB3.out _⟩
          | false =>
            have HY : Hid (rowsV amtV Amt.name (prevN Amt.name l (k + 1)) (l.drop (k + 1)) = checkVec l) := hy
            clear hy
            go_wp2_with fail
            go_quiet (fail)
            go_wp2
            go_roundw
            case rel => exact ⟨k + 1, by omega, by go_num, HY.out, drewN_then HB3.out _⟩
            case measure => simp [intOf]; omega
    · obtain rfl : k = l.length := by omega
      have hr := HR.out
      rw [List.drop_length] at hr
      have HY : Hid (0 = checkVec l) := hr
      clear hr
      go_wp2
      go_ret
      exact ⟨ret_i HY.out, HB.out⟩
end Go.Proofs.YtnmhicgbdalniaaGreatDoor
namespace Go.Proofs.YtnmhicgbdalniaaGreatDoor
open Go.RowKit Go.Sort

/-! All names of some amounts, in order: the program's side. -/
def nmsL (ls : List (List Amt)) : List ByteArray := ls.flatten.map (·.name)
theorem nmsL_snoc (ls : List (List Amt)) {k : Nat} (h : k < ls.length) : nmsL (ls.take (k + 1)) = nmsL (ls.take k) ++ ls[k].map (·.name) := by
  unfold nmsL
  rw [List.take_succ_eq_append_getElem h, List.flatten_append, List.map_append]
  simp
theorem nmsL_take_le (ls : List (List Amt)) {k : Nat} (h : k < ls.length) : (nmsL (ls.take k)).length + ls[k].length ≤ ls.flatten.length := by
  have h1 : ls.flatten = (ls.take (k + 1)).flatten ++ (ls.drop (k + 1)).flatten := by rw [← List.flatten_append, List.take_append_drop]
  rw [h1, List.length_append, List.take_succ_eq_append_getElem h, List.flatten_append, List.length_append]
  unfold nmsL
  rw [List.length_map, show [ls[k]].flatten = ls[k] by simp]
  omega
set_option maxHeartbeats 4000000 in
set_option maxRecDepth 100000 in
theorem names2_calls (v : Value) (ls : List (List Amt)) (w : World) (hs : (Kd.slice Kd.amt).S (vw w []) v ls) (hl : ls.flatten.length ≤ 1000) :
    Calls Tryz.prog 303 #[v] w (DomsDone (insAll ((nmsL ls).map bs)) w) := by
  obtain ⟨i0, hi, hz0, hz1, hz2⟩ := info_parts info_str
  obtain ⟨A, cap, rfl, hs⟩ := hs.val
  obtain ⟨-, hf1, hf2⟩ := hs.form
  have HS := Lib.hid hs
  clear hs
  go_enter Tryz.func303, Tryz.ntmps303
  go_wp2
  go_loopw [3, 10] (fun o i wr => ∃ k : Nat, k ≤ ls.length ∧ i = .int .i64 k ∧ Hid (wr.ownsRow w.heap.size 9 1 o (nmsL (ls.take k)).length (((nmsL (ls.take k)).map bs).map encStr)) ∧ Hid (Below w.heap.size w wr)) (fun _ i _ => ls.length - (intOf i).toNat)
  case atStart => exact ⟨0, Nat.zero_le _, rfl, World.ownsRow_nil _ _ _ _, Below.refl _ _⟩
  case round =>
    obtain ⟨k, hk, rfl, HO, HB⟩ := hrel
    by_cases hlt : k < ls.length
    · have hsn := nmsL_snoc ls hlt
      have hle := nmsL_take_le ls hlt
      obtain ⟨b, off, cs, rfl, ⟨v1, rfl, sv⟩, hc⟩ := HS.out.both HB.out k hlt
      have c0 : wr.cell? ⟨b, off + k, none⟩ = some v1 := by
        have := hc 0 v1 rfl
        simpa [Kd.slice] using this
      obtain ⟨x, hx⟩ : ∃ x, ls[k] = x := ⟨_, rfl⟩
      rw [hx] at hsn hle sv
      obtain ⟨B, c1, rfl, sv⟩ := sv.val
      obtain ⟨-, hg1, hg2⟩ := sv.form
      obtain ⟨N, hN⟩ : ∃ N, nmsL (ls.take k) = N := ⟨_, rfl⟩
      rw [hN] at hsn hle HO
      have SV := Lib.hid sv
      have HSN := Lib.hid hsn
      clear hc hsn hx sv hN
      go_wp2
      go_loopw [3, 16] (fun o i wr' => ∃ j : Nat, j ≤ x.length ∧ i = .int .i64 j ∧ Hid (wr'.ownsRow w.heap.size 9 1 o (N ++ (x.take j).map (·.name)).length (((N ++ (x.take j).map (·.name)).map bs).map encStr)) ∧ Hid (Below w.heap.size w wr')) (fun _ i _ => x.length - (intOf i).toNat)
      case atStart => exact ⟨0, Nat.zero_le _, rfl, by show World.ownsRow _ _ _ _ _ _ _; simpa using HO.out, HB⟩
      case round =>
        clear HO HB c0
        obtain ⟨j, hj, rfl, HO, HB⟩ := hrel
        by_cases hjt : j < x.length
        · obtain ⟨b2, off2, cs2, rfl, hK, hc2⟩ := SV.out.both HB.out j hjt
          obtain ⟨rfl, hok⟩ := hK
          have HC : Hid (wr.rangeAt b2 (off2 + j * 2) [.string x[j].name, .int .i64 x[j].n]) := hc2
          have hsx : (x.take (j + 1)).map (·.name) = (x.take j).map (·.name) ++ [x[j].name] := by rw [List.take_succ_eq_append_getElem hjt, List.map_append]; rfl
          have hlen : (N ++ (x.take j).map (·.name)).length = N.length + j := by rw [List.length_append, List.length_map, List.length_take]; omega
          obtain ⟨y, hy⟩ : ∃ y, x[j] = y := ⟨_, rfl⟩
          rw [hy] at hsx HC
          obtain ⟨nm, n⟩ := y
          simp only at hsx HC
          have HSX := Lib.hid hsx
          clear hc2 hsx hy hok
          have HB2 : Hid (Below w.heap.size w (wr.alloc (.cells #[.string nm, .int .i64 n] 187))) := Below.then HB.out (alloc_below _ _)
          have HX1 : Hid ((wr.alloc (.cells #[.string nm, .int .i64 n] 187)).heap[wr.heap.size]? = some (.cells #[.string nm, .int .i64 n] 187 (0, 0))) := blk_last _ _
          have HO2 : Hid ((wr.alloc (.cells #[.string nm, .int .i64 n] 187)).ownsRow w.heap.size 9 1 _ _ _) := own_below HO.out (alloc_below _ _)
          go_upto_region 8 with (with_reducible refine wpList_load_mid rfl 187 _ rfl b2 (off2 + j * 2) rfl _ _ HC.out Tryz.underlying187 rfl (by kernel_rfl) ?_)
          generalize wr.alloc (.cells #[.string nm, .int .i64 n] 187) = W at HB2 HX1 HO2 ⊢
          obtain ⟨y, yf⟩ := blk_all HX1.out
          have hsz := HB2.out.size
          go_wp2_with (at_builtin; refine wpList_append_own _ rfl _ _ 53 rfl w.heap.size 9 i0 (.string ⟨#[]⟩) 1 16 Tryz.underlying53 hi hz0 hz1 hz2 rfl (by decide) _ _ _ rfl (HO2.out.alloc _) ⟨W.heap.size, 0, none⟩ 1 1 [.string nm] rfl rfl (one_new _ _ _) (by simp [Value.oneCell']) (by simp only [maxLen]; omega) (by omega) (by simp; omega) ?_)
          intro v' w2 hown' hgrow _
          have HO3 : Hid (w2.ownsRow w.heap.size 9 1 v' (N ++ (x.take (j + 1)).map (·.name)).length (((N ++ (x.take (j + 1)).map (·.name)).map bs).map encStr)) := by
            show World.ownsRow _ _ _ _ _ _ _
            rw [HSX.out, ← List.append_assoc]
            refine own_congr hown' ?_ ?_
            · rw [List.length_append, hlen]; rfl
            · simp only [List.map_append, List.map_map, List.append_assoc, List.map_cons, List.map_nil, List.map_take]
              rfl
          have HB4 := Lib.hid ((HB2.out.alloc hsz _).grown hgrow (by simp; omega) (fun q hq => (HO2.out.lt q hq).1))
          clear hown' hgrow
          go_wp2
          go_roundw
          case rel => exact ⟨j + 1, by omega, by go_num, HO3, HB4⟩
          case measure => simp [intOf]; omega
        · obtain rfl : j = x.length := by omega
          have ho := HO.out
          rw [List.take_length, ← HSN.out] at ho
          have HO2 := Lib.hid ho
          clear ho
          go_wp2
          go_roundw
          case rel => exact ⟨k + 1, by omega, by go_num, HO2, HB⟩
          case measure => simp [intOf]; omega
    · obtain rfl : k = ls.length := by omega
      have ho := HO.out
      rw [List.take_length] at ho
      have hdl : (nmsL ls).length ≤ 1000 := by unfold nmsL; rw [List.length_map]; exact hl
      obtain ⟨ss, hss⟩ : ∃ ss, (nmsL ls).map bs = ss := ⟨_, rfl⟩
      have hsl : (nmsL ls).length = ss.length := by rw [← hss, List.length_map]
      rw [hss, hsl] at ho
      have HDV : Hid ((nmsL ls).map bs = ss) := hss
      rw [hsl] at hdl
      have HO3 := Lib.hid ho
      clear HO ho hss hsl
      rcases HO3.out.2 with ⟨rfl, h0⟩ | ⟨g1, cap1, cur1, rfl, -⟩
      · have he : ss = [] := List.eq_nil_of_length_eq_zero h0
        clear h0
        have HE := Lib.hid he
        clear he
        go_wp2_with (first
          | (go_at_call 257; refine (Tryz.slices_Sort_string_none none 0 _).mono ?_; rintro e w' ⟨rfl, rfl⟩)
          | (go_at_call 258; refine (Tryz.slices_Compact_string_empty none 0 _).mono ?_; rintro e w' ⟨rfl, rfl⟩))
        go_ret
        rw [HDV.out, HE.out]
        exact ⟨_, rfl, World.ownsRow_nil _ _ _ _, HB.out⟩
      · obtain ⟨g, cap, hv, hbg, hgl, hncap, hcm, hlen, hH⟩ := Lib.holds_of_ownsRow HO3.out (by simp)
        cases hv
        have hsort := Tryz.slices_Sort_string g1 0 cap1 ss wr hH hgl (by omega)
        have HX := Lib.hid (And.intro hbg (And.intro hgl (And.intro hncap hH)))
        have HSO := Lib.hid hsort
        clear hsort hbg hgl hncap hH
        go_wp2_with fail
        refine HSO.out.mono ?_
        rintro e w2 ⟨rfl, nn, os, rfl⟩
        have hl2 : (ss.mergeSort fun x y => decide (x ≤ y)).length = ss.length := List.length_mergeSort ss
        have hH2 : Holds encStr (grow (putRow encStr (Sort.ahead wr nn) g1 0 (ss.mergeSort fun x y => decide (x ≤ y)).toArray) os) g1 0 (ss.mergeSort fun x y => decide (x ≤ y)).toArray :=
          holds_grow encStr _ os g1 0 _ (by simpa [putRow, mapBlock, Sort.ahead] using HX.out.2.1) (holds_putRow encStr _ g1 0 _ _ (holds_ahead encStr wr nn g1 0 _ HX.out.2.2.2) (by simp))
        have hcomp := Tryz.slices_Compact_string g1 0 cap1 (ss.mergeSort fun x y => decide (x ≤ y)) _ hH2 (by omega) (by have := HX.out.2.2.1; omega)
        rw [hl2] at hcomp
        have HCO := Lib.hid hcomp
        clear hcomp hH2 hl2
        go_wp2_with fail
        refine HCO.out.mono ?_
        rintro e w3 ⟨rfl, q, rfl⟩
        go_wp2
        go_ret
        rw [HDV.out]
        exact doms_left HO3.out HB.out HX.out.1 rfl
end Go.Proofs.YtnmhicgbdalniaaGreatDoor
namespace Go.Proofs.YtnmhicgbdalniaaGreatDoor
open Go.RowKit Go.Sort

/-! What made makes of some vectors: the plain law, and what changes but in one block. -/
def chkL : List (List Amt) → Int
  | [] => 0
  | v :: r => if checkVec v ≠ 0 then checkVec v else chkL r
def madeL (f : ByteArray → Int × Int) : List ByteArray → List Amt → List Amt × Int
  | [], out => if 8 < out.length then ([], 4) else (out, 0)
  | x :: r, out => if (f x).2 ≠ 0 then ([], (f x).2) else madeL f r (if 0 < (f x).1 then out ++ [⟨x, (f x).1⟩] else out)
def namesL (ls : List (List Amt)) : List ByteArray := (insAll ((nmsL ls).map bs)).map ba
def madeV (f : ByteArray → Int × Int) (ls : List (List Amt)) : List Amt × Int := if chkL ls ≠ 0 then ([], chkL ls) else madeL f (namesL ls) []
theorem chkL_at (ls : List (List Amt)) {k : Nat} (h : k < ls.length) : chkL (ls.drop k) = if checkVec ls[k] ≠ 0 then checkVec ls[k] else chkL (ls.drop (k + 1)) := by
  rw [List.drop_eq_getElem_cons h]; rfl
theorem madeL_at (f : ByteArray → Int × Int) (l : List ByteArray) (out : List Amt) {k : Nat} (h : k < l.length) :
    madeL f (l.drop k) out = if (f l[k]).2 ≠ 0 then ([], (f l[k]).2) else madeL f (l.drop (k + 1)) (if 0 < (f l[k]).1 then out ++ [⟨l[k], (f l[k]).1⟩] else out) := by
  rw [List.drop_eq_getElem_cons h]; rfl
theorem madeL_bad (f : ByteArray → Int × Int) : ∀ (l : List ByteArray) (out : List Amt), (madeL f l out).2 ≠ 0 → (madeL f l out).1 = []
  | [], out => by unfold madeL; split <;> simp
  | x :: r, out => by
    rw [madeL]
    split
    · intro _; rfl
    · exact madeL_bad f r _
theorem madeV_bad {f : ByteArray → Int × Int} {ls : List (List Amt)} {n : Int} (h : (madeV f ls).2 = n) (h0 : n ≠ 0) : madeV f ls = ([], n) := by
  have h1 : (madeV f ls).1 = [] := by
    rw [← h] at h0
    unfold madeV at h0 ⊢
    split
    · rfl
    · rename_i hc
      rw [if_neg hc] at h0
      exact madeL_bad f _ _ h0
  rw [← h, ← h1]
theorem nmsL_ok {w : World} {v : Value} {ls : List (List Amt)} (s : (Kd.slice Kd.amt).S (vw w []) v ls) : ∀ x ∈ nmsL ls, sok x := by
  intro x hx
  obtain ⟨y, hy, rfl⟩ := List.mem_map.1 hx
  obtain ⟨l, hl, hyl⟩ := List.mem_flatten.1 hy
  obtain ⟨A, c, rfl, s⟩ := s.val
  obtain ⟨j, hj, rfl⟩ := List.getElem_of_mem hl
  obtain ⟨_, _, _, _, ⟨u, _, su⟩, _⟩ := s.at_ j hj
  exact (amt_ok su y hyl).1
theorem namesL_ok {w : World} {v : Value} {ls : List (List Amt)} (s : (Kd.slice Kd.amt).S (vw w []) v ls) : ∀ x ∈ namesL ls, sok x := by
  intro x hx
  obtain ⟨y, hy, rfl⟩ := List.mem_map.1 hx
  obtain ⟨z, hz, rfl⟩ := List.mem_map.1 ((insAll_mem _ _).1 hy)
  rw [ba_bs]
  exact nmsL_ok s z hz
theorem namesL_len (ls : List (List Amt)) : (namesL ls).length ≤ ls.flatten.length := by
  unfold namesL
  have := insAll_len ((nmsL ls).map bs) []
  rw [List.length_map]
  refine Nat.le_trans this ?_
  rw [List.length_nil, Nat.zero_add, List.length_map]
  unfold nmsL
  rw [List.length_map]
  exact Nat.le_refl _
theorem But.then {b : Nat} {w w1 w2 : World} (h : But b w w1) (k : Below w1.heap.size w1 w2) : But b w w2 :=
  ⟨k.os.trans h.os, k.tape.trans h.tape, k.output.trans h.output, Nat.le_trans h.size k.size, fun j hj hne => (k.block j (Nat.lt_of_lt_of_le hj h.size)).trans (h.block j hj hne)⟩
theorem But.trans {b : Nat} {w w1 w2 : World} (h : But b w w1) (k : But b w1 w2) : But b w w2 :=
  ⟨k.os.trans h.os, k.tape.trans h.tape, k.output.trans h.output, Nat.le_trans h.size k.size, fun j hj hne => (k.block j (Nat.lt_of_lt_of_le hj h.size) hne).trans (h.block j hj hne)⟩
theorem But.grown {b : Nat} {w w1 w2 : World} {row : Option Nat} (h : But b w w1) (k : w1.grownBy w2 row) (hr : ∀ q, row = some q → w.heap.size ≤ q) : But b w w2 :=
  ⟨k.os.trans h.os, k.tape.trans h.tape, k.output.trans h.output, Nat.le_trans h.size k.size, fun j hj hne => (k.block j (Nat.lt_of_lt_of_le hj h.size) (fun e => by have := hr j e.symm; omega)).trans (h.block j hj hne)⟩
theorem Below.but {b : Nat} {w w' : World} (h : Below w.heap.size w w') : But b w w' := ⟨h.os, h.tape, h.output, h.size, fun j hj _ => h.block j hj⟩
def MadeTold (bo : Nat) (R : List Amt × Int) (w : World) (e : Ending) (w' : World) : Prop :=
  But bo w w' ∧ ((R.2 = 0 ∧ e = .returned (.tuple #[]) ∧ ∃ v, w'.heap[bo]? = some (.cells #[v] 28 (0, 0)) ∧ Kd.amt.S (nx w' w.heap.size none) v R.1) ∨ (R.2 ≠ 0 ∧ e = .panicked [{ v := stopV R.2, recovered := false }]))
/-- A vector in memory that the call has made. -/
def VecNew (r : List Amt × Int) (w : World) (e : Ending) (w' : World) : Prop := ∃ A c, e = .returned (.tuple #[.slice A r.1.length c, .int .i64 r.2]) ∧ Kd.amt.S (nx w' w.heap.size none) (.slice A r.1.length c) r.1 ∧ Below w.heap.size w w'
theorem VecNew.done {r : List Amt × Int} {w : World} {e : Ending} {w' : World} (h : VecNew r w e w') : VecDone r w e w' := by
  obtain ⟨A, c, h1, h2, h3⟩ := h
  exact ⟨A, c, h1, h2.mono (nx_vw (by simp)), h3⟩
theorem vecn_none {r : List Amt × Int} {n : Int} {w w' : World} (h : r = ([], n)) (hb : Below w.heap.size w w') : VecNew r w (.returned (.tuple #[.slice none 0 0, .int .i64 n])) w' := by
  subst h
  exact ⟨none, 0, rfl, Kd.S.nil _ _, hb⟩
theorem vecn_some {r : List Amt × Int} {l : List Amt} {A : Option Addr} {c : Nat} {n : Int} {w w' : World} (h : r = (l, n)) (s : Kd.amt.S (nx w' w.heap.size none) (.slice A l.length c) l) (hb : Below w.heap.size w w') : VecNew r w (.returned (.tuple #[.slice A l.length c, .int .i64 n])) w' := by
  subst h
  exact ⟨A, c, rfl, s, hb⟩
/-- What a function of a name tells, and that it makes memory only. -/
def AmtFn (F : FuncId) (cs : List Value) (f : ByteArray → Int × Int) (w0 : World) : Prop :=
  (∀ s, i64 (f s).1) ∧ (∀ (W : World) (s : ByteArray), Below w0.heap.size w0 W → sok s → Calls Tryz.prog F (.string s :: cs).toArray W fun e w' => e = .returned (.tuple #[.int .i64 (f s).1, .int .i64 (f s).2]) ∧ Below W.heap.size W w')
end Go.Proofs.YtnmhicgbdalniaaGreatDoor
namespace Go.Proofs.YtnmhicgbdalniaaGreatDoor
open Go.RowKit Go.Sort

/-! made's inner function: the walk. -/
theorem info_amt2 : (Tryz.prog.info? 187).map (fun i => (i.zero, i.size, i.bytes)) = some (some (.agg #[.string ⟨#[]⟩, .int .i64 0]), 2, 24) := by kernel_rfl
set_option maxHeartbeats 8000000 in
set_option maxRecDepth 100000 in
theorem made1_calls (F : FuncId) (pa pb : Addr) (f : ByteArray → Int × Int) (bl bf : Nat) (T1 T2 : TypeId) (v : Value) (ls : List (List Amt)) (w0 w : World)
    (hF : ∀ (s : ByteArray) (W : World), (callFunc F #[.string s, .pointer (some pa), .pointer (some pb)]).run Tryz.prog W = .ok (.enter F #[.string s, .pointer (some pa), .pointer (some pb)]) W)
    (hf : AmtFn F [.pointer (some pa), .pointer (some pb)] f w0)
    (hv : (Kd.slice Kd.amt).S (vw w0 []) v ls) (hl : chkL ls = 0 → ls.flatten.length ≤ 1000)
    (h0 : w0.heap[bl]? = some (.cells #[v] T1 (0, 0))) (h1 : w0.heap[bf]? = some (.cells #[.func (.func F) #[] #[.pointer (some pa), .pointer (some pb)]] T2 (0, 0)))
    (hw : Below w0.heap.size w0 w) (x0 : w.heap[w0.heap.size]? = some (.cells #[.slice none 0 0] 28 (0, 0))) :
    Calls Tryz.prog 302 #[.pointer (some ⟨bl, 0, none⟩), .pointer (some ⟨bf, 0, none⟩), .pointer (some ⟨w0.heap.size, 0, none⟩)] w (MadeTold w0.heap.size (madeV f ls) w) := by
  obtain ⟨i0, hi, hz0, hz1, hz2⟩ := info_parts info_amt2
  obtain ⟨A, cap, rfl, hv⟩ := hv.val
  obtain ⟨-, hf1, hf2⟩ := hv.form
  have hNL := namesL_len ls
  have HNO := Lib.hid (namesL_ok hv)
  have HV := Lib.hid hv
  have HF := Lib.hid hf
  have H0 := Lib.hid (And.intro h0 h1)
  have HW := Lib.hid hw
  have HX0 := Lib.hid x0
  have l0 := blk_lt h0
  have l1 := blk_lt h1
  have lx := blk_lt x0
  have e0 := (hw.block _ l0).trans h0
  obtain ⟨z, zf⟩ := blk_all e0
  clear hv hf h0 h1 hw x0 e0
  go_enter Tryz.func302, Tryz.ntmps302
  go_wp2
  clear z zf
  go_loopw [11] (fun i wr => ∃ k : Nat, k ≤ ls.length ∧ i = .int .i64 k ∧ Hid (chkL (ls.drop k) = chkL ls) ∧ Hid (Below w.heap.size w wr)) (fun i _ => ls.length - (intOf i).toNat)
  case atStart => exact ⟨0, Nat.zero_le _, rfl, rfl, Below.refl _ _⟩
  case round =>
    obtain ⟨k, hk, rfl, HC, HB⟩ := hrel
    have HWR := Lib.hid (HW.out.trans (HB.out.mono HW.out.size))
    have hc := HC.out
    by_cases hlt : k < ls.length
    · rw [chkL_at ls hlt] at hc
      obtain ⟨b, off, cs, rfl, ⟨v1, rfl, sv⟩, hcc⟩ := HV.out.both HWR.out k hlt
      have c0 : wr.cell? ⟨b, off + k, none⟩ = some v1 := by
        have := hcc 0 v1 rfl
        simpa [Kd.slice] using this
      have SV := Lib.hid (Kd.S.mono (vw_below HWR.out) sv)
      obtain ⟨x, hx⟩ : ∃ x, ls[k] = x := ⟨_, rfl⟩
      rw [hx] at hc SV
      have HC2 := Lib.hid hc
      clear hc hcc sv hx
      go_wp2_with fail
      refine (CheckVec2_calls v1 x _ SV.out).mono ?_
      rintro e w1 ⟨rfl, hb⟩
      have HB1 := Lib.hid (Below.then HB.out hb)
      clear hb c0
      have hc := HC2.out
      by_cases hn : checkVec x ≠ 0
      · rw [if_pos hn] at hc
        have HR : Hid (madeV f ls = ([], checkVec x)) := by
          show _ = _
          unfold madeV
          rw [← hc, if_pos hn]
        have HN := Lib.hid hn
        clear hc hn
        go_wp2_with fail
        refine (stop_bad (checkVec x) _ HN.out).mono ?_
        rintro e w2 ⟨rfl, rfl⟩
        refine ⟨rfl, ?_⟩
        rw [HR.out]
        exact ⟨Below.but HB1.out, .inr ⟨HN.out, rfl⟩⟩
      · rw [if_neg hn] at hc
        have hn0 : checkVec x = 0 := Decidable.not_not.1 hn
        rw [hn0]
        have HC3 := Lib.hid hc
        clear hc hn hn0
        go_wp2_with fail
        refine (stop_ok _).mono ?_
        rintro e w2 ⟨rfl, rfl⟩
        go_wp2
        go_roundw
        case rel => exact ⟨k + 1, by omega, by go_num, HC3.out, HB1.out⟩
        case measure => simp [intOf]; omega
    · obtain rfl : k = ls.length := by omega
      rw [List.drop_length] at hc
      have hl := hl hc.symm
      have hq : madeV f ls = madeL f (namesL ls) [] := by
        unfold madeV
        rw [← hc, if_neg (by simp [chkL])]
      have HQ := Lib.hid hq
      have g0 := (HWR.out.block _ l0).trans H0.out.1
      obtain ⟨z, zf⟩ := blk_all g0
      clear hc hq g0 HC
      go_wp2_with fail
      refine (names2_calls _ ls _ (HV.out.mono (vw_below HWR.out)) hl).mono ?_
      rintro e w2 ⟨sv, rfl, ho, hb⟩
      have hbb := Below.then HB.out hb
      have hx2 := (hbb.block _ lx).trans HX0.out
      have hsb : w0.heap.size < w2.heap.size := Nat.lt_of_lt_of_le lx hbb.size
      have hsw : w.heap.size ≤ w2.heap.size := hbb.size
      have hss : Kd.str.S (vw w2 [w0.heap.size]) sv (namesL ls) := Kd.S.of_own (n := (insAll ((nmsL ls).map bs)).length) (by simpa [namesL, encStr, ba, Function.comp_def] using ho) (by omega) (fun x hx => HNO.out x hx) (fun q hq => by
        have := (ho.lt q hq).1
        have h2 := HB.out.size
        simp
        omega)
      have hwo : Below w0.heap.size w0 w2 := HW.out.trans (hbb.mono HW.out.size)
      obtain ⟨C, cc, rfl, hss⟩ := hss.val
      obtain ⟨-, fl1, fl2⟩ := hss.form
      obtain ⟨N, hN⟩ : ∃ N, namesL ls = N := ⟨_, rfl⟩
      obtain ⟨R, hR⟩ : ∃ R, madeV f ls = R := ⟨_, rfl⟩
      rw [hN] at hss hNL HNO fl1 fl2 HQ
      rw [hN]
      rw [hR] at HQ
      have HRR := Lib.hid hR
      have HN := Lib.hid hss
      have HBW := Lib.hid hbb
      have HX2 := Lib.hid hx2
      have HWO := Lib.hid hwo
      clear ho hb hbb hx2 hss hwo HB HWR z zf hR hN
      go_wp2
      go_loopw [22] (fun i wr => ∃ (k : Nat) (o : Value) (out : List Amt), k ≤ N.length ∧ i = .int .i64 k ∧ out.length ≤ k ∧ Hid (madeL f (N.drop k) out = R) ∧ Hid (wr.heap[w0.heap.size]? = some (.cells #[o] 28 (0, 0))) ∧ Hid (Kd.amt.Own wr w2.heap.size 187 w2.heap.size o out) ∧ Hid (But w0.heap.size w2 wr)) (fun i _ => N.length - (intOf i).toNat)
      case atStart => exact ⟨0, .slice none 0 0, [], Nat.zero_le _, rfl, Nat.le_refl _, HQ.out.symm, HX2.out, Kd.Own.nil _ _ _ _ _, But.refl _ _⟩
      case round =>
        clear HQ HX2
        obtain ⟨k, o, out, hk, rfl, hol, HR, HX, HO, HB⟩ := hrel
        have HB0 := Lib.hid (HWO.out.trans (HB.out.below (Nat.le_refl _) (by omega)))
        have hr := HR.out
        by_cases hlt : k < N.length
        · rw [madeL_at f N out hlt] at hr
          have hsl := Kd.S.mono (vw_but HB.out (List.mem_singleton.2 rfl)) HN.out
          obtain ⟨b, off, rfl, c0, hsk⟩ := hsl.elem1 k hlt
          have hii := HF.out.1 N[k]
          obtain ⟨x, hx⟩ : ∃ x, N[k] = x := ⟨_, rfl⟩
          rw [hx] at hr c0 hsk hii
          obtain ⟨p, q, hpq⟩ : ∃ p q, f x = (p, q) := ⟨_, _, rfl⟩
          have hcall := HF.out.2 wr x HB0.out hsk
          rw [hpq] at hr hii hcall
          simp only at hr hii hcall
          have HCALL := Lib.hid hcall
          have HSK := Lib.hid hsk
          have HII := Lib.hid hii
          have HR2 := Lib.hid hr
          have g1 := (HB0.out.block _ l1).trans H0.out.2
          obtain ⟨z, zf⟩ := blk_all g1
          have HCF := hF x
          clear hr hsl hx hpq hcall hsk hii g1 HR
          go_wp2_with fail
          refine HCALL.out.mono ?_
          rintro e w3 ⟨rfl, hb⟩
          have HB3 := Lib.hid (HB.out.then hb)
          have HX3 := Lib.hid ((hb.block _ (blk_lt HX.out)).trans HX.out)
          have HO3 := Lib.hid (HO.out.below hb)
          clear hb z zf c0 HCALL HX HO HB HB0
          have hr := HR2.out
          by_cases hq : q ≠ 0
          · rw [if_pos hq] at hr
            have HQ := Lib.hid hq
            have HR3 := Lib.hid hr
            clear hr hq
            go_wp2_with fail
            refine (stop_bad q _ HQ.out).mono ?_
            rintro e w4 ⟨rfl, rfl⟩
            refine ⟨rfl, ?_⟩
            rw [HRR.out, ← HR3.out]
            exact ⟨(Below.but HBW.out).trans HB3.out, .inr ⟨HQ.out, rfl⟩⟩
          · rw [if_neg hq] at hr
            obtain rfl : q = 0 := Decidable.not_not.1 hq
            have HR3 := Lib.hid hr
            clear hr hq
            go_wp2_with fail
            refine (stop_ok _).mono ?_
            rintro e w4 ⟨rfl, rfl⟩
            obtain ⟨y, yf⟩ := blk_all HX3.out
            have hr := HR3.out
            by_cases hp : 0 < p
            · rw [if_pos hp] at hr
              have HR4 := Lib.hid hr
              have hsz := HB3.out.size
              clear hr
              go_wp2_with (at_builtin; refine wpList_own (d := Kd.amt) (x := ⟨x, p⟩) _ w2.heap.size w2.heap.size 28 187 i0 _ 24 Tryz.underlying28 hi hz0 hz1 hz2 rfl (by decide) o out [.string x, .int .i64 p] (HO3.out.below (alloc_below _ _)) ⟨rfl, HSK.out, HII.out⟩ _ 1 187 (blk_last _ _) (by simp [Value.oneCell']) (by simp only [maxLen]; omega) (by omega) (by simp; omega) _ _ rfl rfl rfl rfl ?_)
              intro v5 w5 ho5 hg5
              have hb5 : But w0.heap.size w2 w5 := (HB3.out.then (alloc_below _ _)).grown hg5 (fun q hq => by obtain ⟨_, hrow⟩ := HO3.out.row; exact (hrow.lt q hq).1)
              have hx5 : w5.heap[w0.heap.size]? = some (.cells #[o] 28 (0, 0)) := by
                have hw4 : (w4.alloc (.cells #[.string x, .int .i64 p] 187)).heap[w0.heap.size]? = some (.cells #[o] 28 (0, 0)) := (blk_old _ _ (blk_lt HX3.out)).trans HX3.out
                refine (hg5.block _ (blk_lt hw4) (fun e => ?_)).trans hw4
                obtain ⟨_, hrow⟩ := HO3.out.row
                have := (hrow.lt _ e.symm).1
                omega
              obtain ⟨G5, c5, e5⟩ := ho5.form
              rw [show (out ++ [Amt.mk x p]).length = out.length + 1 by simp] at e5
              subst e5
              have HS5 : Hid (Kd.amt.Own (w5.setCell ⟨w0.heap.size, 0, none⟩ (.slice G5 (out.length + 1) c5)) w2.heap.size 187 w2.heap.size (.slice G5 (out.length + 1) c5) (out ++ [⟨x, p⟩])) := ho5.setCell hsb hsb _
              have HB5 := Lib.hid (hb5.setCell (.slice G5 (out.length + 1) c5))
              have HX5 : Hid ((w5.setCell ⟨w0.heap.size, 0, none⟩ (.slice G5 (out.length + 1) c5)).heap[w0.heap.size]? = some (.cells #[.slice G5 (out.length + 1) c5] 28 (0, 0))) := heap_setCell_same hx5
              clear y yf
              obtain ⟨y, yf⟩ := blk_all hx5
              clear hb5 hx5 ho5 hg5
              go_wp2
              go_roundw
              case rel => exact ⟨k + 1, _, out ++ [Amt.mk x p], by omega, by go_num, by rw [List.length_append]; simp; omega, HR4.out, HX5.out, HS5.out, HB5.out⟩
              case measure => simp [intOf]; omega
            · rw [if_neg hp] at hr
              have HR4 := Lib.hid hr
              clear hr
              go_wp2
              go_roundw
              case rel => exact ⟨k + 1, o, out, by omega, by go_num, by omega, HR4.out, HX3.out, HO3.out, HB3.out⟩
              case measure => simp [intOf]; omega
        · obtain rfl : k = N.length := by omega
          rw [List.drop_length, madeL] at hr
          have hS := HO.out.S (Nat.le_refl _) (by omega)
          obtain ⟨G, gc, rfl, hS⟩ := hS.val
          have HS : Hid (Kd.amt.S (nx wr w.heap.size none) (.slice G out.length gc) out) := hS.mono (nx_new hsw (by simp) rfl)
          have HR2 := Lib.hid hr
          obtain ⟨y, yf⟩ := blk_all HX.out
          clear hr hS HR
          by_cases h8 : 8 < out.length
          · have HY : Hid (madeV f ls = ([], 4)) := by
              show _ = _
              have := HR2.out
              rw [if_pos h8] at this
              rw [HRR.out, ← this]
            go_wp2_with fail
            refine (stop_bad 4 _ (by decide)).mono ?_
            rintro e w4 ⟨rfl, rfl⟩
            refine ⟨rfl, ?_⟩
            rw [HY.out]
            exact ⟨(Below.but HBW.out).trans HB.out, .inr ⟨by decide, rfl⟩⟩
          · have HY : Hid (madeV f ls = (out, 0)) := by
              show _ = _
              have := HR2.out
              rw [if_neg h8] at this
              rw [HRR.out, ← this]
            go_wp2
            go_end0
            rw [HY.out]
            exact ⟨(Below.but HBW.out).trans HB.out, .inl ⟨rfl, rfl, _, HX.out, HS.out⟩⟩
end Go.Proofs.YtnmhicgbdalniaaGreatDoor
