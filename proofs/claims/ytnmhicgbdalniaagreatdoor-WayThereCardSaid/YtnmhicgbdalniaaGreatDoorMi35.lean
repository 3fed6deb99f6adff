import Derived.Test.YtnmhicgbdalniaaGreatDoorMi17
import Derived.Test.YtnmhicgbdalniaaGreatDoorMi25
import Derived.Test.YtnmhicgbdalniaaGreatDoorMi28
import Derived.Test.YtnmhicgbdalniaaGreatDoorMi30
import Derived.Test.YtnmhicgbdalniaaGreatDoorMi32
import Derived.Deep.RegionHeld3
namespace Go.Proofs.YtnmhicgbdalniaaGreatDoor
open Go.RowKit

/-! Small checks of the program: names, numbers, the first error. -/
def namedV (s : ByteArray) : Int := if isName s = false then 3 else 0
def withinV (n lo hi : Int) : Int := if n < lo then 1 else if hi < n then 1 else 0
set_option maxHeartbeats 2000000 in
set_option maxRecDepth 100000 in
theorem Named_calls (s : ByteArray) (w : World) (hs : sok s) : Calls Tryz.prog 285 #[.string s] w (NumDone (namedV s) w) := by
  have HS := Lib.hid hs
  clear hs
  have hv : namedV s = if isName s = false then 3 else 0 := rfl
  obtain ⟨m, hm⟩ : ∃ m, isName s = m := ⟨_, rfl⟩
  rw [hm] at hv
  have HM := Lib.hid hm
  have HV := Lib.hid hv
  clear hm hv
  go_enter Tryz.func285, Tryz.ntmps285
  go_wp2_with fail
  refine (Name2_calls _ _ HS.out).mono ?_
  rintro e w1 ⟨rfl, hb⟩
  have HB := Lib.hid hb
  clear hb
  rw [HM.out]
  cases m <;> (go_wp2; go_ret; exact ⟨ret_i HV.out.symm, HB.out⟩)
set_option maxHeartbeats 2000000 in
set_option maxRecDepth 100000 in
theorem maybe_calls (s : ByteArray) (w : World) (hs : sok s) : Calls Tryz.prog 289 #[.string s] w (NumDone (maybeV s) w) := by
  have HS := Lib.hid hs
  clear hs
  have e1 := empty_beq s
  have hv : maybeV s = if emptyB s = false ∧ isName s = false then 3 else 0 := rfl
  have hn : namedV s = if isName s = false then 3 else 0 := rfl
  have hem : emptyB s = decide (s = ⟨#[]⟩) := rfl
  rw [hem] at hv
  obtain ⟨m, hm⟩ : ∃ m, decide (s = ⟨#[]⟩) = m := ⟨_, rfl⟩
  rw [hm] at hv e1
  have HV := Lib.hid hv
  have HN := Lib.hid hn
  clear hm hv hn hem
  go_enter Tryz.func289, Tryz.ntmps289
  cases m with
  | true =>
    have HZ : Hid (maybeV s = 0) := by show _ = _; rw [HV.out, if_neg (by rintro ⟨h, -⟩; cases h)]
    go_wp2
    go_ret
    exact ⟨ret_i HZ.out.symm, Below.refl _ _⟩
  | false =>
    have HZ : Hid (namedV s = maybeV s) := by
      show _ = _
      rw [HV.out, HN.out]
      by_cases h : isName s = false
      · rw [if_pos h, if_pos ⟨rfl, h⟩]
      · rw [if_neg h, if_neg fun k => h k.2]
    go_wp2_with fail
    refine (Named_calls _ _ HS.out).mono ?_
    rintro e w1 ⟨rfl, hb⟩
    have HB := Lib.hid hb
    clear hb
    go_wp2
    go_ret
    exact ⟨ret_i HZ.out, HB.out⟩
set_option maxHeartbeats 2000000 in
theorem within_calls (n lo hi : Int) (w : World) : Calls Tryz.prog 315 #[.int .i64 n, .int .i64 lo, .int .i64 hi] w (NumDone (withinV n lo hi) w) := by
  have hv : withinV n lo hi = if n < lo then 1 else if hi < n then 1 else 0 := rfl
  have HV := Lib.hid hv
  clear hv
  go_enter Tryz.func315, Tryz.ntmps315
  by_cases h1 : n < lo
  · have HZ : Hid (withinV n lo hi = 1) := by show _ = _; rw [HV.out, if_pos h1]
    go_wp2
    go_ret
    exact ⟨ret_i HZ.out.symm, Below.refl _ _⟩
  by_cases h2 : hi < n
  · have HZ : Hid (withinV n lo hi = 1) := by show _ = _; rw [HV.out, if_neg h1, if_pos h2]
    go_wp2
    go_ret
    exact ⟨ret_i HZ.out.symm, Below.refl _ _⟩
  have HZ : Hid (withinV n lo hi = 0) := by show _ = _; rw [HV.out, if_neg h1, if_neg h2]
  go_wp2
  go_ret
  exact ⟨ret_i HZ.out.symm, Below.refl _ _⟩
/-- The first error of a row of numbers. -/
def firstE : List Int → Int
  | [] => 0
  | x :: r => orV x (firstE r)
theorem firstE_at {l : List Int} {k : Nat} (h : k < l.length) : firstE (l.drop k) = orV l[k] (firstE (l.drop (k + 1))) := by
  rw [List.drop_eq_getElem_cons h]; rfl
theorem firstE_ne {l : List Int} {k : Nat} (h : k < l.length) (hn : l[k] ≠ 0) : firstE (l.drop k) = l[k] := by
  rw [firstE_at h, orV_l hn]
theorem firstE_eq {l : List Int} {k : Nat} (h : k < l.length) (hn : l[k] = 0) : firstE (l.drop k) = firstE (l.drop (k + 1)) := by
  rw [firstE_at h, orV_r hn]
set_option maxHeartbeats 2000000 in
theorem First_calls (b : Nat) (l : List Int) (w : World) (hl : l.length ≤ 100) (hc : ∀ j, (h : j < l.length) → w.cell? ⟨b, j, none⟩ = some (.int .i64 l[j])) :
    Calls Tryz.prog 284 #[.slice (some ⟨b, 0, none⟩) l.length l.length] w (NumDone (firstE l) w) := by
  have HC := Lib.hid hc
  clear hc
  go_enter Tryz.func284, Tryz.ntmps284
  go_wp2
  go_loop [7] (fun i => ∃ k : Nat, k ≤ l.length ∧ i = .int .i64 k ∧ Hid (firstE (l.drop k) = firstE l)) (fun i => l.length - (intOf i).toNat)
  case atStart => exact ⟨0, Nat.zero_le _, rfl, rfl⟩
  case round =>
    obtain ⟨k, hk, rfl, HF⟩ := hrel
    by_cases hlt : k < l.length
    · have c0 := HC.out k hlt
      by_cases h0 : l[k] = 0
      · have HZ : Hid (firstE (l.drop (k + 1)) = firstE l) := by show _ = _; rw [← firstE_eq hlt h0]; exact HF.out
        rw [h0] at c0
        clear h0 HF
        go_wp2
        go_round
        case rel => exact ⟨k + 1, by omega, by go_num, HZ.out⟩
        case measure => simp [intOf]; omega
      · have HZ : Hid (l[k] = firstE l) := by show _ = _; rw [← firstE_ne hlt h0]; exact HF.out
        obtain ⟨x, hx⟩ : ∃ x, l[k] = x := ⟨_, rfl⟩
        rw [hx] at c0 h0 HZ
        have t1 : (x == 0) = false := by simp [h0]
        clear h0 HF hx
        go_wp2
        go_ret
        exact ⟨ret_i HZ.out, Below.refl _ _⟩
    · obtain rfl : k = l.length := by omega
      have hf := HF.out
      rw [List.drop_length] at hf
      have HZ : Hid (0 = firstE l) := hf
      clear hf
      go_wp2
      go_ret
      exact ⟨ret_i HZ.out, Below.refl _ _⟩
end Go.Proofs.YtnmhicgbdalniaaGreatDoor
namespace Go.Proofs.YtnmhicgbdalniaaGreatDoor
open Go.RowKit

/-! Which selectors may be: the program's side. -/
set_option maxHeartbeats 4000000 in
set_option maxRecDepth 100000 in
theorem CheckSel2_calls (v : Value) (l : List Term) (w : World) (hs : Kd.term.S (vw w []) v l) :
    Calls Tryz.prog 291 #[v] w (NumDone (checkSel l) w) := by
  obtain ⟨A, cap, rfl, hs⟩ := hs.val
  obtain ⟨-, hcap, hlen⟩ := hs.form
  have HS := Lib.hid hs
  clear hs
  go_enter Tryz.func291, Tryz.ntmps291
  by_cases h8 : 8 < l.length
  · have HZ : Hid (checkSel l = 4) := manyV_big h8 _
    go_wp2
    go_ret
    exact ⟨ret_i HZ.out.symm, Below.refl _ _⟩
  have HZ : Hid (checkSel l = firstV termV l) := manyV_few h8 _
  go_wp2
  go_loopw [11] (fun i wr => ∃ k : Nat, k ≤ l.length ∧ i = .int .i64 k ∧ Hid (firstV termV (l.drop k) = checkSel l) ∧ Hid (Below w.heap.size w wr)) (fun i _ => l.length - (intOf i).toNat)
  case atStart => exact ⟨0, Nat.zero_le _, rfl, HZ.out.symm, Below.refl _ _⟩
  case round =>
    clear HZ
    obtain ⟨k, hk, rfl, HR, HB⟩ := hrel
    by_cases hlt : k < l.length
    · obtain ⟨b, off, rfl, hc, hi, hp1, hp2⟩ := (HS.out.mono (vw_below HB.out)).elemN k hlt
      have hr := HR.out
      rw [firstV_at _ hlt] at hr
      obtain ⟨x, hx⟩ : ∃ x, l[k] = x := ⟨_, rfl⟩
      rw [hx] at hr hc hi hp1 hp2
      obtain ⟨op, key, val⟩ := x
      have HC : Hid (wr.rangeAt b (off + k * 3) [.int .i64 op, .string key, .string val]) := hc
      simp only at hp1 hp2 hi
      have hav : termV ⟨op, key, val⟩ = if op < 1 then 1 else if 4 < op then 1 else if isName key = false then 3 else if op ≤ 2 then (if isName val = false then 3 else 0) else if emptyB val = false then 3 else 0 := rfl
      obtain ⟨n1, hn1⟩ : ∃ n1, isName key = n1 := ⟨_, rfl⟩
      obtain ⟨n2, hn2⟩ : ∃ n2, isName val = n2 := ⟨_, rfl⟩
      have e1 := empty_beq val
      have hem : emptyB val = decide (val = ⟨#[]⟩) := rfl
      obtain ⟨n3, hn3⟩ : ∃ n3, decide (val = ⟨#[]⟩) = n3 := ⟨_, rfl⟩
      rw [hn1, hn2, hem, hn3] at hav
      rw [hn3] at e1
      rw [hav] at hr
      have HX := Lib.hid hr
      have HN1 := Lib.hid hn1
      have HN2 := Lib.hid hn2
      have HP1 := Lib.hid hp1
      have HP2 := Lib.hid hp2
      obtain ⟨hi1, hi2⟩ := hi
      clear hr hc hav hn1 hn2 hp1 hp2 hx hem hn3
      have HB2 : Hid (Below w.heap.size w (wr.alloc (.cells #[.int .i64 op, .string key, .string val] 234))) := Below.then HB.out (alloc_below _ _)
      have HX2 : Hid ((wr.alloc (.cells #[.int .i64 op, .string key, .string val] 234)).heap[wr.heap.size]? = some (.cells #[.int .i64 op, .string key, .string val] 234 (0, 0))) := blk_last _ _
      go_upto_region 6 with (with_reducible refine wpList_load_mid rfl 234 _ rfl b (off + k * 3) rfl _ _ HC.out Tryz.underlying234 rfl (by kernel_rfl) ?_)
      generalize wr.alloc (.cells #[.int .i64 op, .string key, .string val] 234) = W at HB2 HX2 ⊢
      obtain ⟨y, yf⟩ := blk_all HX2.out
      by_cases o1 : op < 1
      · have hy := HX.out
        rw [if_pos o1] at hy
        have HY : Hid (1 = checkSel l) := hy
        have t1 : (op == 1) = false := by simp; omega
        have t2 : (op == 2) = false := by simp; omega
        have t3 : (op == 3) = false := by simp; omega
        have t4 : (op == 4) = false := by simp; omega
        clear hy
        go_wp2
        go_ret
        exact ⟨ret_i HY.out, HB2.out⟩
      by_cases o2 : 4 < op
      · have hy := HX.out
        rw [if_neg o1, if_pos o2] at hy
        have HY : Hid (1 = checkSel l) := hy
        have t1 : (op == 1) = false := by simp; omega
        have t2 : (op == 2) = false := by simp; omega
        have t3 : (op == 3) = false := by simp; omega
        have t4 : (op == 4) = false := by simp; omega
        clear hy
        go_wp2
        go_ret
        exact ⟨ret_i HY.out, HB2.out⟩
      have h4 : op = 1 ∨ op = 2 ∨ op = 3 ∨ op = 4 := by omega
      clear o1 o2
      rcases h4 with rfl | rfl | rfl | rfl
      · have hx : orV (if n1 = false then 3 else if n2 = false then 3 else 0) (firstV termV (l.drop (k + 1))) = checkSel l := HX.out
        clear HX
        have HX := Lib.hid hx
        clear hx
        go_wp2_with fail
        refine (Name2_calls _ _ HP2.out).mono ?_
        rintro e w3 ⟨rfl, hb⟩
        have HB3 := Lib.hid (Below.then HB2.out hb)
        have HX3 := Lib.hid ((hb.block _ (blk_lt HX2.out)).trans HX2.out)
        rw [HN2.out]
        clear hb y yf
        obtain ⟨y, yf⟩ := blk_all HX3.out
        go_wp2_with fail
        refine (Name2_calls _ _ HP1.out).mono ?_
        rintro e w4 ⟨rfl, hb⟩
        have HB4 := Lib.hid (Below.then HB3.out hb)
        have HX4 := Lib.hid ((hb.block _ (blk_lt HX3.out)).trans HX3.out)
        rw [HN1.out]
        clear hb y yf
        obtain ⟨y, yf⟩ := blk_all HX4.out
        cases n1 with
        | false =>
          have HY : Hid (3 = checkSel l) := HX.out
          go_wp2
          go_ret
          exact ⟨ret_i HY.out, HB4.out⟩
        | true =>
          cases n2 with
          | false =>
            have HY : Hid (3 = checkSel l) := HX.out
            go_wp2
            go_ret
            exact ⟨ret_i HY.out, HB4.out⟩
          | true =>
            have HY : Hid (firstV termV (l.drop (k + 1)) = checkSel l) := HX.out
            go_wp2
            go_roundw
            case rel => exact ⟨k + 1, by omega, by go_num, HY.out, HB4.out⟩
            case measure => simp [intOf]; omega
      · have hx : orV (if n1 = false then 3 else if n2 = false then 3 else 0) (firstV termV (l.drop (k + 1))) = checkSel l := HX.out
        clear HX
        have HX := Lib.hid hx
        clear hx
        go_wp2_with fail
        refine (Name2_calls _ _ HP2.out).mono ?_
        rintro e w3 ⟨rfl, hb⟩
        have HB3 := Lib.hid (Below.then HB2.out hb)
        have HX3 := Lib.hid ((hb.block _ (blk_lt HX2.out)).trans HX2.out)
        rw [HN2.out]
        clear hb y yf
        obtain ⟨y, yf⟩ := blk_all HX3.out
        go_wp2_with fail
        refine (Name2_calls _ _ HP1.out).mono ?_
        rintro e w4 ⟨rfl, hb⟩
        have HB4 := Lib.hid (Below.then HB3.out hb)
        have HX4 := Lib.hid ((hb.block _ (blk_lt HX3.out)).trans HX3.out)
        rw [HN1.out]
        clear hb y yf
        obtain ⟨y, yf⟩ := blk_all HX4.out
        cases n1 with
        | false =>
          have HY : Hid (3 = checkSel l) := HX.out
          go_wp2
          go_ret
          exact ⟨ret_i HY.out, HB4.out⟩
        | true =>
          cases n2 with
          | false =>
            have HY : Hid (3 = checkSel l) := HX.out
            go_wp2
            go_ret
            exact ⟨ret_i HY.out, HB4.out⟩
          | true =>
            have HY : Hid (firstV termV (l.drop (k + 1)) = checkSel l) := HX.out
            go_wp2
            go_roundw
            case rel => exact ⟨k + 1, by omega, by go_num, HY.out, HB4.out⟩
            case measure => simp [intOf]; omega
      · have hx : orV (if n1 = false then 3 else if n3 = false then 3 else 0) (firstV termV (l.drop (k + 1))) = checkSel l := HX.out
        clear HX
        have HX := Lib.hid hx
        clear hx
        go_wp2_with fail
        refine (Name2_calls _ _ HP1.out).mono ?_
        rintro e w3 ⟨rfl, hb⟩
        have HB3 := Lib.hid (Below.then HB2.out hb)
        have HX3 := Lib.hid ((hb.block _ (blk_lt HX2.out)).trans HX2.out)
        rw [HN1.out]
        clear hb y yf
        obtain ⟨y, yf⟩ := blk_all HX3.out
        cases n1 with
        | false =>
          have HY : Hid (3 = checkSel l) := HX.out
          go_wp2
          go_ret
          exact ⟨ret_i HY.out, HB3.out⟩
        | true =>
          cases n3 with
          | false =>
            have HY : Hid (3 = checkSel l) := HX.out
            go_wp2
            go_ret
            exact ⟨ret_i HY.out, HB3.out⟩
          | true =>
            have HY : Hid (firstV termV (l.drop (k + 1)) = checkSel l) := HX.out
            go_wp2
            go_roundw
            case rel => exact ⟨k + 1, by omega, by go_num, HY.out, HB3.out⟩
            case measure => simp [intOf]; omega
      · have hx : orV (if n1 = false then 3 else if n3 = false then 3 else 0) (firstV termV (l.drop (k + 1))) = checkSel l := HX.out
        clear HX
        have HX := Lib.hid hx
        clear hx
        go_wp2_with fail
        refine (Name2_calls _ _ HP1.out).mono ?_
        rintro e w3 ⟨rfl, hb⟩
        have HB3 := Lib.hid (Below.then HB2.out hb)
        have HX3 := Lib.hid ((hb.block _ (blk_lt HX2.out)).trans HX2.out)
        rw [HN1.out]
        clear hb y yf
        obtain ⟨y, yf⟩ := blk_all HX3.out
        cases n1 with
        | false =>
          have HY : Hid (3 = checkSel l) := HX.out
          go_wp2
          go_ret
          exact ⟨ret_i HY.out, HB3.out⟩
        | true =>
          cases n3 with
          | false =>
            have HY : Hid (3 = checkSel l) := HX.out
            go_wp2
            go_ret
            exact ⟨ret_i HY.out, HB3.out⟩
          | true =>
            have HY : Hid (firstV termV (l.drop (k + 1)) = checkSel l) := HX.out
            go_wp2
            go_roundw
            case rel => exact ⟨k + 1, by omega, by go_num, HY.out, HB3.out⟩
            case measure => simp [intOf]; omega
    · obtain rfl : k = l.length := by omega
      have hr := HR.out
      rw [List.drop_length] at hr
      have HY : Hid (0 = checkSel l) := hr
      clear hr
      go_wp2
      go_ret
      exact ⟨ret_i HY.out, HB.out⟩
end Go.Proofs.YtnmhicgbdalniaaGreatDoor
namespace Go.Proofs.YtnmhicgbdalniaaGreatDoor
open Go.RowKit

/-! Which taints may be: the program's side. -/
set_option maxHeartbeats 4000000 in
set_option maxRecDepth 100000 in
theorem taint1_calls (t x : Tnt) (b : Nat) (w : World) (hq : w.heap[b]? = some (.cells #[.string t.key, .string t.val, .bool t.b] 163 (0, 0))) :
    Calls Tryz.prog 314 #[.agg #[.string x.key, .string x.val, .bool x.b], .pointer (some ⟨b, 0, none⟩)] w (BoolDone (sameT x t) w) := by
  have HQ := Lib.hid ((blk_old w (.cells #[.string x.key, .string x.val, .bool x.b] 163) (blk_lt hq)).trans hq)
  have hlt := blk_lt hq
  have hne : b ≠ w.heap.size := by omega
  clear hq
  obtain ⟨z, zf⟩ := blk_all HQ.out
  have e2 := eq_beq x.key t.key
  have e3 := eq_beq x.val t.val
  have hv : sameT x t = (decide (x.key = t.key) && decide (x.val = t.val)) := rfl
  obtain ⟨m2, h2⟩ : ∃ m, decide (x.key = t.key) = m := ⟨_, rfl⟩
  obtain ⟨m3, h3⟩ : ∃ m, decide (x.val = t.val) = m := ⟨_, rfl⟩
  rw [h2] at e2 hv
  rw [h3] at e3 hv
  have HV := Lib.hid hv
  clear hv h2 h3
  have HB := Lib.hid (alloc_below w (.cells #[.string x.key, .string x.val, .bool x.b] 163))
  go_enter Tryz.func314, Tryz.ntmps314
  cases m2 <;> cases m3 <;> (go_wp2; go_ret; exact ⟨ret_bool (by rw [HV.out]; rfl), HB.out⟩)
theorem eg_taint1 : ∀ args w, (callFunc 314 args).run Tryz.prog w = .ok (.enter 314 args) w := enters_of Tryz.func314 (by kernel_rfl) rfl
set_option maxRecDepth 100000 in
/-- Is one of some like it? -/
theorem taint_has (A : Option Addr) (n c : Nat) (l : List Tnt) (t : Tnt) (b : Nat) (w : World) (hq : w.heap[b]? = some (.cells #[.string t.key, .string t.val, .bool t.b] 163 (0, 0))) (hs : Kd.tnt.S (vw w []) (.slice A n c) l) :
    Calls Tryz.prog 313 #[.slice A n c, .func (.func 314) #[] #[.pointer (some ⟨b, 0, none⟩)]] w (BoolDone (l.any fun y => sameT y t) w) :=
  has_calls Kd.tnt Tryz.isAgg163 Tryz.sizeOf163 (by decide) (fun y => sameT y t) 314 #[.pointer (some ⟨b, 0, none⟩)] eg_taint1 (w0 := w) (w := w) (Below.refl _ _) hs
    (fun W x cs hW hk => by
      obtain ⟨rfl, -⟩ := hk
      exact (taint1_calls t x b W ((hW.block _ (blk_lt hq)).trans hq)).mono fun e w' h => ⟨h.1, Below.then hW h.2⟩) Tryz.hasTaint
set_option maxHeartbeats 4000000 in
set_option maxRecDepth 100000 in
theorem CheckTaints2_calls (v : Value) (l : List Tnt) (w : World) (hs : Kd.tnt.S (vw w []) v l) :
    Calls Tryz.prog 288 #[v] w (NumDone (checkTaints l) w) := by
  obtain ⟨A, cap, rfl, hs⟩ := hs.val
  obtain ⟨-, hcap, hlen⟩ := hs.form
  have HS := Lib.hid hs
  clear hs
  go_enter Tryz.func288, Tryz.ntmps288
  by_cases h8 : 8 < l.length
  · have HZ : Hid (checkTaints l = 4) := manyV_big h8 _
    go_wp2
    go_ret
    exact ⟨ret_i HZ.out.symm, Below.refl _ _⟩
  have HZ : Hid (checkTaints l = taintsV [] l) := manyV_few h8 _
  go_wp2
  go_loopw [10] (fun i wr => ∃ k : Nat, k ≤ l.length ∧ i = .int .i64 k ∧ Hid (taintsV (l.take k) (l.drop k) = checkTaints l) ∧ Hid (Below w.heap.size w wr)) (fun i _ => l.length - (intOf i).toNat)
  case atStart => exact ⟨0, Nat.zero_le _, rfl, HZ.out.symm, Below.refl _ _⟩
  case round =>
    clear HZ
    obtain ⟨k, hk, rfl, HR, HB⟩ := hrel
    by_cases hlt : k < l.length
    · obtain ⟨b, off, rfl, hc, hp1, hp2⟩ := (HS.out.mono (vw_below HB.out)).elemN k hlt
      have hr := HR.out
      rw [taintsV_at hlt] at hr
      obtain ⟨x, hx⟩ : ∃ x, l[k] = x := ⟨_, rfl⟩
      rw [hx] at hr hc hp1 hp2
      obtain ⟨key, val, n5⟩ := x
      have HC : Hid (wr.rangeAt b (off + k * 3) [.string key, .string val, .bool n5]) := hc
      simp only at hp1 hp2 hr
      obtain ⟨n1, hn1⟩ : ∃ n1, isName key = n1 := ⟨_, rfl⟩
      obtain ⟨n2, hn2⟩ : ∃ n2, isName val = n2 := ⟨_, rfl⟩
      rw [hn1, hn2] at hr
      have hst := HS.out.take k hk
      have hlk : (l.take k).length = k := by rw [List.length_take]; omega
      have HX := Lib.hid hr
      have HN1 := Lib.hid hn1
      have HN2 := Lib.hid hn2
      have HP1 := Lib.hid hp1
      have HP2 := Lib.hid hp2
      have HT := Lib.hid hst
      have HL := Lib.hid hlk
      clear hr hc hn1 hn2 hp1 hp2 hx hst hlk
      have HB2 : Hid (Below w.heap.size w (wr.alloc (.cells #[.string key, .string val, .bool n5] 163))) := Below.then HB.out (alloc_below _ _)
      have HX2 : Hid ((wr.alloc (.cells #[.string key, .string val, .bool n5] 163)).heap[wr.heap.size]? = some (.cells #[.string key, .string val, .bool n5] 163 (0, 0))) := blk_last _ _
      go_upto_region 6 with (with_reducible refine wpList_load_mid rfl 163 _ rfl b (off + k * 3) rfl _ _ HC.out Tryz.underlying163 rfl (by kernel_rfl) ?_)
      obtain ⟨B, hB⟩ : ∃ B, wr.heap.size = B := ⟨_, rfl⟩
      rw [hB] at HX2 ⊢
      generalize wr.alloc (.cells #[.string key, .string val, .bool n5] 163) = W at HB2 HX2 ⊢
      clear hB
      obtain ⟨y, yf⟩ := blk_all HX2.out
      go_wp2_with fail
      refine (Name2_calls _ _ HP1.out).mono ?_
      rintro e w3 ⟨rfl, hb⟩
      have HB3 := Lib.hid (Below.then HB2.out hb)
      have HX3 := Lib.hid ((hb.block _ (blk_lt HX2.out)).trans HX2.out)
      rw [HN1.out]
      clear hb y yf
      obtain ⟨y, yf⟩ := blk_all HX3.out
      cases n1 with
      | false =>
        have HY : Hid (3 = checkTaints l) := HX.out
        go_wp2
        go_ret
        exact ⟨ret_i HY.out, HB3.out⟩
      | true =>
        go_wp2_with fail
        refine (Name2_calls _ _ HP2.out).mono ?_
        rintro e w4 ⟨rfl, hb⟩
        have HB4 := Lib.hid (Below.then HB3.out hb)
        have HX4 := Lib.hid ((hb.block _ (blk_lt HX3.out)).trans HX3.out)
        rw [HN2.out]
        clear hb y yf
        obtain ⟨y, yf⟩ := blk_all HX4.out
        cases n2 with
        | false =>
          have HY : Hid (3 = checkTaints l) := HX.out
          go_wp2
          go_ret
          exact ⟨ret_i HY.out, HB4.out⟩
        | true =>
          go_wp2_with fail
          refine (taint_has (some ⟨b, off, none⟩) k cap (l.take k) ⟨key, val, n5⟩ B _ HX4.out (HT.out.mono (vw_below HB4.out))).mono ?_
          rintro e w5 ⟨rfl, hb⟩
          have HB5 := Lib.hid (Below.then HB4.out hb)
          clear hb y yf
          obtain ⟨m, hm⟩ : ∃ m, ((l.take k).any fun y => sameT y ⟨key, val, n5⟩) = m := ⟨_, rfl⟩
          have hx := HX.out
          rw [hm] at hx ⊢
          clear hm HX
          have HX := Lib.hid hx
          clear hx
          cases m with
          | false =>
            have HY : Hid (taintsV (l.take (k + 1)) (l.drop (k + 1)) = checkTaints l) := HX.out
            go_wp2
            go_roundw
            case rel => exact ⟨k + 1, by omega, by go_num, HY.out, HB5.out⟩
            case measure => simp [intOf]; omega
          | true =>
            have HY : Hid (6 = checkTaints l) := HX.out
            go_wp2
            go_ret
            exact ⟨ret_i HY.out, HB5.out⟩
    · obtain rfl : k = l.length := by omega
      have hr := HR.out
      rw [List.drop_length] at hr
      have HY : Hid (0 = checkTaints l) := hr
      clear hr
      go_wp2
      go_ret
      exact ⟨ret_i HY.out, HB.out⟩
end Go.Proofs.YtnmhicgbdalniaaGreatDoor
namespace Go.Proofs.YtnmhicgbdalniaaGreatDoor
open Go.RowKit

/-! Which nodes and budgets may be; priorities. -/
theorem orV_z (d : Int) : orV d 0 = d := by
  by_cases h : d = 0
  · rw [orV_r h, h]
  · exact orV_l h
theorem First_blk (b : Nat) (T : TypeId) (l : List Int) (w : World) (hl : l.length ≤ 100) (h : w.heap[b]? = some (.cells (l.map (Value.int .i64)).toArray T (0, 0))) :
    Calls Tryz.prog 284 #[.slice (some ⟨b, 0, none⟩) l.length l.length] w (NumDone (firstE l) w) :=
  First_calls b l w hl fun j hj => by
    rw [(blk_all h).1 j]
    simp [hj]
theorem keep_alloc {w : World} {b : Nat} {cs : Array Value} {T : TypeId} (h : w.heap[b]? = some (.cells cs T (0, 0))) (o : Obj) : ∀ j, (w.alloc o).cell? ⟨b, j, none⟩ = cs[j]? := (blk_all ((blk_old w o (blk_lt h)).trans h)).1
theorem prio_hold (x : Pd) : (x.hold = true → withinV x.prio (-1) (-1) = prioV x) ∧ (x.hold = false → withinV x.prio 0 1000000 = prioV x) := by
  unfold withinV prioV
  constructor
  · intro h
    rw [h]
    by_cases h1 : x.prio < -1
    · rw [if_pos h1, if_pos h1]
    · rw [if_neg h1, if_neg h1]
      by_cases h2 : -1 < x.prio
      · rw [if_pos h2]
        by_cases h3 : 1000000 < x.prio
        · rw [if_pos h3]
        · rw [if_neg h3, decide_eq_false (show ¬ x.prio = -1 by omega)]; rfl
      · rw [if_neg h2, if_neg (show ¬ 1000000 < x.prio by omega), decide_eq_true (show x.prio = -1 by omega)]; rfl
  · intro h
    rw [h]
    by_cases h1 : x.prio < 0
    · rw [if_pos h1]
      by_cases h2 : x.prio < -1
      · rw [if_pos h2]
      · rw [if_neg h2, if_neg (show ¬ 1000000 < x.prio by omega), decide_eq_true (show x.prio = -1 by omega)]; rfl
    · rw [if_neg h1, if_neg (show ¬ x.prio < -1 by omega)]
      by_cases h3 : 1000000 < x.prio
      · rw [if_pos h3, if_pos h3]
      · rw [if_neg h3, if_neg h3, decide_eq_false (show ¬ x.prio = -1 by omega)]; rfl
theorem most_key (x : Pd) : (decide (x.key = ⟨#[]⟩) = true → withinV x.most 0 0 = mostV x) ∧ (decide (x.key = ⟨#[]⟩) = false → withinV x.most 1 128 = mostV x) := by
  unfold withinV mostV emptyB
  constructor
  · intro h
    rw [h, if_pos rfl]
    by_cases h1 : x.most < 0
    · rw [if_pos h1, if_pos (show x.most ≠ 0 by omega)]
    · rw [if_neg h1]
      by_cases h2 : 0 < x.most
      · rw [if_pos h2, if_pos (show x.most ≠ 0 by omega)]
      · rw [if_neg h2, if_neg (show ¬ x.most ≠ 0 by omega)]
  · intro h
    rw [h, if_neg (show ¬ false = true by decide)]
    by_cases h1 : x.most < 1
    · rw [if_pos h1, if_pos (.inl h1)]
    · rw [if_neg h1]
      by_cases h2 : 128 < x.most
      · rw [if_pos h2, if_pos (.inr h2)]
      · rw [if_neg h2, if_neg (by rintro (h | h); exact h1 h; exact h2 h)]
set_option maxHeartbeats 4000000 in
set_option maxRecDepth 100000 in
theorem prio_calls (v : Value) (x : Pd) (w : World) (hv : Kd.pod.V (vw w []) v x) : Calls Tryz.prog 290 #[v] w (NumDone (prioV x) w) := by
  obtain ⟨cs, rfl, A1, c1, A2, c2, A3, c3, A4, c4, rfl, ⟨⟨s0, s1, hp1, hp2⟩, s7, ⟨hm1, hm2⟩, s9⟩, t3, t4, t5, t6⟩ := hv
  clear s0 s1 s7 s9 t3 t4 t5 t6
  have HX := Lib.hid (prio_hold x)
  obtain ⟨nm, ow, pr, ne, la, se, tl, ke, mo, no, m⟩ := x
  simp only at hp1 hp2 hm1 hm2 HX ⊢
  go_enter Tryz.func290, Tryz.ntmps290
  have HB : Hid (Below w.heap.size w (w.alloc (.cells #[.string nm, .string ow, .int .i64 pr, .slice A1 ne.length c1, .slice A2 la.length c2, .slice A3 se.length c3, .slice A4 tl.length c4, .string ke, .int .i64 mo, .string no, .bool m] 35))) := alloc_below _ _
  have HQ : Hid ((w.alloc (.cells #[.string nm, .string ow, .int .i64 pr, .slice A1 ne.length c1, .slice A2 la.length c2, .slice A3 se.length c3, .slice A4 tl.length c4, .string ke, .int .i64 mo, .string no, .bool m] 35)).heap[w.heap.size]? = some (.cells #[.string nm, .string ow, .int .i64 pr, .slice A1 ne.length c1, .slice A2 la.length c2, .slice A3 se.length c3, .slice A4 tl.length c4, .string ke, .int .i64 mo, .string no, .bool m] 35 (0, 0))) := blk_last _ _
  go_upto_region 1 with fail
  generalize w.alloc (.cells #[.string nm, .string ow, .int .i64 pr, .slice A1 ne.length c1, .slice A2 la.length c2, .slice A3 se.length c3, .slice A4 tl.length c4, .string ke, .int .i64 mo, .string no, .bool m] 35) = U at HB HQ ⊢
  obtain ⟨z, zf⟩ := blk_all HQ.out
  cases m with
  | true =>
    have HY := Lib.hid (HX.out.1 rfl)
    clear HX
    go_wp2_with fail
    refine (within_calls _ _ _ _).mono ?_
    rintro e w1 ⟨rfl, hb⟩
    have HB1 := Lib.hid (Below.then HB.out hb)
    clear hb
    go_wp2
    go_ret
    exact ⟨ret_i HY.out, HB1.out⟩
  | false =>
    have HY := Lib.hid (HX.out.2 rfl)
    clear HX
    go_wp2_with fail
    refine (within_calls _ _ _ _).mono ?_
    rintro e w1 ⟨rfl, hb⟩
    have HB1 := Lib.hid (Below.then HB.out hb)
    clear hb
    go_wp2
    go_ret
    exact ⟨ret_i HY.out, HB1.out⟩
set_option maxHeartbeats 4000000 in
set_option maxRecDepth 100000 in
theorem most_calls (v : Value) (x : Pd) (w : World) (hv : Kd.pod.V (vw w []) v x) : Calls Tryz.prog 293 #[v] w (NumDone (mostV x) w) := by
  obtain ⟨cs, rfl, A1, c1, A2, c2, A3, c3, A4, c4, rfl, ⟨⟨s0, s1, hp1, hp2⟩, s7, ⟨hm1, hm2⟩, s9⟩, t3, t4, t5, t6⟩ := hv
  clear s0 s1 s7 s9 t3 t4 t5 t6
  have e1 := empty_beq x.key
  have hx := most_key x
  obtain ⟨m, hm⟩ : ∃ m, decide (x.key = ⟨#[]⟩) = m := ⟨_, rfl⟩
  rw [hm] at hx e1
  have HX := Lib.hid hx
  clear hm hx
  go_enter Tryz.func293, Tryz.ntmps293
  have HB : Hid (Below w.heap.size w (w.alloc (.cells #[.string x.name, .string x.owner, .int .i64 x.prio, .slice A1 x.need.length c1, .slice A2 x.labels.length c2, .slice A3 x.sel.length c3, .slice A4 x.tols.length c4, .string x.key, .int .i64 x.most, .string x.node, .bool x.hold] 35))) := alloc_below _ _
  have HQ : Hid ((w.alloc (.cells #[.string x.name, .string x.owner, .int .i64 x.prio, .slice A1 x.need.length c1, .slice A2 x.labels.length c2, .slice A3 x.sel.length c3, .slice A4 x.tols.length c4, .string x.key, .int .i64 x.most, .string x.node, .bool x.hold] 35)).heap[w.heap.size]? = some (.cells #[.string x.name, .string x.owner, .int .i64 x.prio, .slice A1 x.need.length c1, .slice A2 x.labels.length c2, .slice A3 x.sel.length c3, .slice A4 x.tols.length c4, .string x.key, .int .i64 x.most, .string x.node, .bool x.hold] 35 (0, 0))) := blk_last _ _
  go_upto_region 1 with fail
  generalize w.alloc (.cells #[.string x.name, .string x.owner, .int .i64 x.prio, .slice A1 x.need.length c1, .slice A2 x.labels.length c2, .slice A3 x.sel.length c3, .slice A4 x.tols.length c4, .string x.key, .int .i64 x.most, .string x.node, .bool x.hold] 35) = U at HB HQ ⊢
  obtain ⟨z, zf⟩ := blk_all HQ.out
  cases m with
  | true =>
    have HY := Lib.hid (HX.out.1 rfl)
    clear HX
    go_wp2_with fail
    refine (within_calls _ _ _ _).mono ?_
    rintro e w1 ⟨rfl, hb⟩
    have HB1 := Lib.hid (Below.then HB.out hb)
    clear hb
    go_wp2
    go_ret
    exact ⟨ret_i HY.out, HB1.out⟩
  | false =>
    have HY := Lib.hid (HX.out.2 rfl)
    clear HX
    go_wp2_with fail
    refine (within_calls _ _ _ _).mono ?_
    rintro e w1 ⟨rfl, hb⟩
    have HB1 := Lib.hid (Below.then HB.out hb)
    clear hb
    go_wp2
    go_ret
    exact ⟨ret_i HY.out, HB1.out⟩
set_option maxHeartbeats 8000000 in
set_option maxRecDepth 100000 in
theorem NodeCheck_calls (v : Value) (x : Nd) (w : World) (hv : Kd.node.V (vw w []) v x) : Calls Tryz.prog 227 #[v] w (NumDone (checkNode x) w) := by
  obtain ⟨cs, rfl, A1, c1, A2, c2, A3, c3, rfl, s0, s1, s2, s3⟩ := hv
  have S0 := Lib.hid s0
  have S1 := Lib.hid s1
  have S2 := Lib.hid s2
  have S3 := Lib.hid s3
  clear s0 s1 s2 s3
  have HX : Hid (firstE [namedV x.name, checkVec x.cap, checkSet x.labels, checkTaints x.taints] = checkNode x) := by
    show orV _ (orV _ (orV _ (orV _ 0))) = _
    rw [orV_z]; rfl
  go_enter Tryz.func227, Tryz.ntmps227
  have HB : Hid (Below w.heap.size w (w.alloc (.cells #[.string x.name, .slice A1 x.cap.length c1, .slice A2 x.labels.length c2, .slice A3 x.taints.length c3, .bool x.cordon] 94)).drew) := Below.then (alloc_below _ _) (drew_below _)
  have HQ : Hid ((w.alloc (.cells #[.string x.name, .slice A1 x.cap.length c1, .slice A2 x.labels.length c2, .slice A3 x.taints.length c3, .bool x.cordon] 94)).drew.heap[w.heap.size]? = some (.cells #[.string x.name, .slice A1 x.cap.length c1, .slice A2 x.labels.length c2, .slice A3 x.taints.length c3, .bool x.cordon] 94 (0, 0))) := blk_last _ _
  go_wp2
  generalize w.alloc (.cells #[.string x.name, .slice A1 x.cap.length c1, .slice A2 x.labels.length c2, .slice A3 x.taints.length c3, .bool x.cordon] 94) = W at HB HQ ⊢
  obtain ⟨z, zf⟩ := blk_all HQ.out
  go_region_held3 (fun w' => ∀ j, w'.cell? ⟨w.heap.size, j, none⟩ = #[.string x.name, .slice A1 x.cap.length c1, .slice A2 x.labels.length c2, .slice A3 x.taints.length c3, .bool x.cordon][j]?) (first | with_reducible exact z | with_reducible exact keep_alloc HQ.out _ | go_keep) (first
    | (go_at_call 285; refine (Named_calls _ _ S0.out).mono ?_; rintro e w1 ⟨rfl, hb⟩; replace HB := Lib.hid (Below.then HB.out hb); replace HQ := Lib.hid ((hb.block _ (blk_lt HQ.out)).trans HQ.out); clear z zf hb; obtain ⟨z, zf⟩ := blk_all HQ.out)
    | (go_at_call 286; refine (CheckVec2_calls _ x.cap _ (by exact S1.out.mono (vw_below HB.out))).mono ?_; rintro e w2 ⟨rfl, hb⟩; replace HB := Lib.hid (Below.then HB.out hb); replace HQ := Lib.hid ((hb.block _ (blk_lt HQ.out)).trans HQ.out); clear z zf hb; obtain ⟨z, zf⟩ := blk_all HQ.out)
    | (go_at_call 287; refine (CheckSet2_calls _ x.labels _ (by exact S2.out.mono (vw_below HB.out))).mono ?_; rintro e w3 ⟨rfl, hb⟩; replace HB := Lib.hid (Below.then HB.out hb); replace HQ := Lib.hid ((hb.block _ (blk_lt HQ.out)).trans HQ.out); clear z zf hb; obtain ⟨z, zf⟩ := blk_all HQ.out)
    | (go_at_call 288; refine (CheckTaints2_calls _ x.taints _ (by exact S3.out.mono (vw_below HB.out))).mono ?_; rintro e w4 ⟨rfl, hb⟩; replace HB := Lib.hid (Below.then HB.out hb); replace HQ := Lib.hid ((hb.block _ (blk_lt HQ.out)).trans HQ.out); clear z zf hb; obtain ⟨z, zf⟩ := blk_all HQ.out)
    | (go_at_call 284; refine (First_blk _ _ [namedV x.name, checkVec x.cap, checkSet x.labels, checkTaints x.taints] _ (Nat.le_of_ble_eq_true rfl) (by exact blk_last _ _)).mono ?_; rintro e w9 ⟨rfl, hb9⟩; have hb := Below.then (alloc_below _ _) hb9; clear hb9; replace HB := Lib.hid (Below.then HB.out hb); replace HQ := Lib.hid ((hb.block _ (blk_lt HQ.out)).trans HQ.out); clear z zf hb; obtain ⟨z, zf⟩ := blk_all HQ.out))
  all_goals
    go_wp2
    go_ret
    exact ⟨ret_i HX.out, HB.out⟩
set_option maxHeartbeats 8000000 in
set_option maxRecDepth 100000 in
theorem BudgetCheck_calls (v : Value) (x : Bd) (w : World) (hv : Kd.budget.V (vw w []) v x) : Calls Tryz.prog 233 #[v] w (NumDone (checkBudget x) w) := by
  obtain ⟨cs, rfl, A1, c1, rfl, ⟨s0, hf1, hf2⟩, s1⟩ := hv
  have S0 := Lib.hid s0
  have S1 := Lib.hid s1
  clear s0 s1
  have hx : firstE [namedV x.name, checkSel x.sel, if x.floor < 0 then 1 else if 128 < x.floor then 1 else 0] = checkBudget x := by
    show orV _ (orV _ (orV _ 0)) = _
    rw [orV_z]; rfl
  obtain ⟨fl, hfl⟩ : ∃ fl, (if x.floor < 0 then (1 : Int) else if 128 < x.floor then 1 else 0) = fl := ⟨_, rfl⟩
  rw [hfl] at hx
  have HX := Lib.hid hx
  clear hx
  have h3 : (x.floor < 0 ∧ fl = 1) ∨ (¬ x.floor < 0 ∧ 128 < x.floor ∧ fl = 1) ∨ (¬ x.floor < 0 ∧ ¬ 128 < x.floor ∧ fl = 0) := by
    rw [← hfl]
    by_cases h1 : x.floor < 0
    · exact .inl ⟨h1, if_pos h1⟩
    · by_cases h2 : 128 < x.floor
      · exact .inr (.inl ⟨h1, h2, by rw [if_neg h1, if_pos h2]⟩)
      · exact .inr (.inr ⟨h1, h2, by rw [if_neg h1, if_neg h2]⟩)
  clear hfl
  go_enter Tryz.func233, Tryz.ntmps233
  have HB : Hid (Below w.heap.size w (w.alloc (.cells #[.string x.name, .slice A1 x.sel.length c1, .int .i64 x.floor] 245)).drew) := Below.then (alloc_below _ _) (drew_below _)
  have HQ : Hid ((w.alloc (.cells #[.string x.name, .slice A1 x.sel.length c1, .int .i64 x.floor] 245)).drew.heap[w.heap.size]? = some (.cells #[.string x.name, .slice A1 x.sel.length c1, .int .i64 x.floor] 245 (0, 0))) := blk_last _ _
  rcases h3 with ⟨h1, rfl⟩ | ⟨h1, h2, rfl⟩ | ⟨h1, h2, rfl⟩
  · go_wp2
    generalize w.alloc (.cells #[.string x.name, .slice A1 x.sel.length c1, .int .i64 x.floor] 245) = W at HB HQ ⊢
    obtain ⟨z, zf⟩ := blk_all HQ.out
    go_region_held3 (fun w' => ∀ j, w'.cell? ⟨w.heap.size, j, none⟩ = #[.string x.name, .slice A1 x.sel.length c1, .int .i64 x.floor][j]?) (first | with_reducible exact z | with_reducible exact keep_alloc HQ.out _ | go_keep) (first
      | (go_at_call 285; refine (Named_calls _ _ S0.out).mono ?_; rintro e w1 ⟨rfl, hb⟩; replace HB := Lib.hid (Below.then HB.out hb); replace HQ := Lib.hid ((hb.block _ (blk_lt HQ.out)).trans HQ.out); clear z zf hb; obtain ⟨z, zf⟩ := blk_all HQ.out)
      | (go_at_call 291; refine (CheckSel2_calls _ x.sel _ (by exact S1.out.mono (vw_below HB.out))).mono ?_; rintro e w2 ⟨rfl, hb⟩; replace HB := Lib.hid (Below.then HB.out hb); replace HQ := Lib.hid ((hb.block _ (blk_lt HQ.out)).trans HQ.out); clear z zf hb; obtain ⟨z, zf⟩ := blk_all HQ.out)
      | (go_at_call 284; refine (First_blk _ _ [namedV x.name, checkSel x.sel, 1] _ (Nat.le_of_ble_eq_true rfl) (by exact blk_last _ _)).mono ?_; rintro e w9 ⟨rfl, hb9⟩; have hb := Below.then (alloc_below _ _) hb9; clear hb9; replace HB := Lib.hid (Below.then HB.out hb); replace HQ := Lib.hid ((hb.block _ (blk_lt HQ.out)).trans HQ.out); clear z zf hb; obtain ⟨z, zf⟩ := blk_all HQ.out))
    all_goals
      go_wp2
      go_ret
      exact ⟨ret_i HX.out, HB.out⟩
  · go_wp2
    generalize w.alloc (.cells #[.string x.name, .slice A1 x.sel.length c1, .int .i64 x.floor] 245) = W at HB HQ ⊢
    obtain ⟨z, zf⟩ := blk_all HQ.out
    go_region_held3 (fun w' => ∀ j, w'.cell? ⟨w.heap.size, j, none⟩ = #[.string x.name, .slice A1 x.sel.length c1, .int .i64 x.floor][j]?) (first | with_reducible exact z | with_reducible exact keep_alloc HQ.out _ | go_keep) (first
      | (go_at_call 285; refine (Named_calls _ _ S0.out).mono ?_; rintro e w1 ⟨rfl, hb⟩; replace HB := Lib.hid (Below.then HB.out hb); replace HQ := Lib.hid ((hb.block _ (blk_lt HQ.out)).trans HQ.out); clear z zf hb; obtain ⟨z, zf⟩ := blk_all HQ.out)
      | (go_at_call 291; refine (CheckSel2_calls _ x.sel _ (by exact S1.out.mono (vw_below HB.out))).mono ?_; rintro e w2 ⟨rfl, hb⟩; replace HB := Lib.hid (Below.then HB.out hb); replace HQ := Lib.hid ((hb.block _ (blk_lt HQ.out)).trans HQ.out); clear z zf hb; obtain ⟨z, zf⟩ := blk_all HQ.out)
      | (go_at_call 284; refine (First_blk _ _ [namedV x.name, checkSel x.sel, 1] _ (Nat.le_of_ble_eq_true rfl) (by exact blk_last _ _)).mono ?_; rintro e w9 ⟨rfl, hb9⟩; have hb := Below.then (alloc_below _ _) hb9; clear hb9; replace HB := Lib.hid (Below.then HB.out hb); replace HQ := Lib.hid ((hb.block _ (blk_lt HQ.out)).trans HQ.out); clear z zf hb; obtain ⟨z, zf⟩ := blk_all HQ.out))
    all_goals
      go_wp2
      go_ret
      exact ⟨ret_i HX.out, HB.out⟩
  · go_wp2
    generalize w.alloc (.cells #[.string x.name, .slice A1 x.sel.length c1, .int .i64 x.floor] 245) = W at HB HQ ⊢
    obtain ⟨z, zf⟩ := blk_all HQ.out
    go_region_held3 (fun w' => ∀ j, w'.cell? ⟨w.heap.size, j, none⟩ = #[.string x.name, .slice A1 x.sel.length c1, .int .i64 x.floor][j]?) (first | with_reducible exact z | with_reducible exact keep_alloc HQ.out _ | go_keep) (first
      | (go_at_call 285; refine (Named_calls _ _ S0.out).mono ?_; rintro e w1 ⟨rfl, hb⟩; replace HB := Lib.hid (Below.then HB.out hb); replace HQ := Lib.hid ((hb.block _ (blk_lt HQ.out)).trans HQ.out); clear z zf hb; obtain ⟨z, zf⟩ := blk_all HQ.out)
      | (go_at_call 291; refine (CheckSel2_calls _ x.sel _ (by exact S1.out.mono (vw_below HB.out))).mono ?_; rintro e w2 ⟨rfl, hb⟩; replace HB := Lib.hid (Below.then HB.out hb); replace HQ := Lib.hid ((hb.block _ (blk_lt HQ.out)).trans HQ.out); clear z zf hb; obtain ⟨z, zf⟩ := blk_all HQ.out)
      | (go_at_call 284; refine (First_blk _ _ [namedV x.name, checkSel x.sel, 0] _ (Nat.le_of_ble_eq_true rfl) (by exact blk_last _ _)).mono ?_; rintro e w9 ⟨rfl, hb9⟩; have hb := Below.then (alloc_below _ _) hb9; clear hb9; replace HB := Lib.hid (Below.then HB.out hb); replace HQ := Lib.hid ((hb.block _ (blk_lt HQ.out)).trans HQ.out); clear z zf hb; obtain ⟨z, zf⟩ := blk_all HQ.out))
    all_goals
      go_wp2
      go_ret
      exact ⟨ret_i HX.out, HB.out⟩
end Go.Proofs.YtnmhicgbdalniaaGreatDoor
