import Derived.Test.YtfbmfjmnpfidoaaChkA
import Derived.Sort.Walk0
namespace Go.Proofs.Ytfbmfjmnpfidoaa
open Go.RowKit

theorem less_ltS (a b : ByteArray) : Op.bytesLess a.toList b.toList = ltS a b := by
  rw [Proofs.bytesLess_eq, Lib.toList_data, Lib.toList_data]; rfl
theorem le_ltS (a b : ByteArray) : (Op.bytesLess a.toList b.toList || (a.toList == b.toList)) = !ltS b a := by
  rw [less_ltS]
  unfold ltS
  rw [Bool.eq_iff_iff]
  simp only [Bool.or_eq_true, decide_eq_true_eq, Bool.not_eq_true', decide_eq_false_iff_not, beq_iff_eq, Lib.toList_data]
  constructor
  · rintro (h | h) k
    · exact Std.lt_irrefl (Std.lt_of_lt_of_le h (Std.le_of_lt k))
    · rw [h] at k; exact Std.lt_irrefl k
  · intro h
    by_cases e : a.data.toList = b.data.toList
    · exact .inr e
    · exact .inl (Std.lt_of_le_of_ne (Std.not_lt.1 h) e)
theorem ret_i {k : IntKind} {a b : Int} (h : a = b) : Ending.returned (.int k a) = .returned (.int k b) := by rw [h]
theorem manyV_big {α : Type} {lim : Nat} {l : List α} (h : lim < l.length) (n : Int) : manyV lim l n = 4 := if_pos h
theorem manyV_few {α : Type} {lim : Nat} {l : List α} (h : ¬ lim < l.length) (n : Int) : manyV lim l n = n := if_neg h
def NumDone (n : Int) (w : World) (e : Ending) (w' : World) : Prop := e = .returned (.int .i64 n) ∧ Below w.heap.size w w'
theorem drewN_then {w wr : World} (h : Below w.heap.size w wr) (n : Nat) : Below w.heap.size w (wr.drewN n) := below_drewN h n
set_option maxHeartbeats 2000000 in
theorem CheckVec_calls (v : Value) (l : List Amt) (w : World) (hs : Kd.amt.S (vw w []) v l) :
    Calls Try.prog 36 #[v] w (NumDone (checkVec l) w) := by
  obtain ⟨A, cap, rfl, hs⟩ := hs.val
  obtain ⟨-, hcap, hlen⟩ := hs.form
  have HS := Lib.hid hs
  clear hs
  go_enter Try.func36, Try.ntmps36
  by_cases h8 : 8 < l.length
  · have HZ : Hid (checkVec l = 4) := manyV_big h8 _
    go_wp2
    go_ret
    exact ⟨ret_i HZ.out.symm, Below.refl _ _⟩
  have HZ : Hid (checkVec l = rowsV amtV Amt.name none l) := manyV_few h8 _
  go_wp2
  go_loopw [3] (fun i wr => ∃ k : Nat, k ≤ l.length ∧ i = .int .i64 k ∧ Hid (rowsV amtV Amt.name (prevN Amt.name l k) (l.drop k) = checkVec l) ∧ Hid (Below w.heap.size w wr)) (fun i _ => l.length - (intOf i).toNat)
  case atStart => exact ⟨0, Nat.zero_le _, rfl, HZ.out.symm, Below.refl _ _⟩
  case round =>
    clear HZ
    obtain ⟨k, hk, rfl, HR, HB⟩ := hrel
    by_cases hlt : k < l.length
    · obtain ⟨b, off, rfl, hc, hp, hi1, hi2⟩ := (HS.out.mono (vw_below HB.out)).elemN k hlt
      have c0 : wr.cell? ⟨b, off + k * 2, none⟩ = some (.string l[k].name) := hc 0 _ rfl
      have c1 : wr.cell? ⟨b, off + k * 2 + 1, none⟩ = some (.int .i64 l[k].n) := hc 1 _ rfl
      have hr := HR.out
      rw [rowsV_at _ _ hlt] at hr
      have hav : amtV l[k] = if isName l[k].name = false then 3 else if l[k].n ≤ 0 then 1 else 0 := rfl
      obtain ⟨n1, hn1⟩ : ∃ n1, isName l[k].name = n1 := ⟨_, rfl⟩
      rw [hn1] at hav
      rw [hav] at hr
      have HX := Lib.hid hr
      have HN := Lib.hid hn1
      have HP := Lib.hid hp
      clear hr hc hav hn1 hp
      go_wp2_with fail
      refine (IsName_calls _ _ HP.out).mono ?_
      rintro e w' ⟨rfl, rfl⟩
      rw [HN.out]
      cases n1 with
      | false =>
        have HY : Hid (3 = checkVec l) := HX.out
        go_wp2
        go_ret
        exact ⟨ret_i HY.out, HB.out⟩
      | true =>
        by_cases hn0 : l[k].n ≤ 0
        · have hy := HX.out
          rw [if_neg (by decide), if_pos hn0] at hy
          have HY : Hid (1 = checkVec l) := hy
          clear hy
          go_wp2
          go_ret
          exact ⟨ret_i HY.out, HB.out⟩
        have hy := HX.out
        rw [if_neg (by decide), if_neg hn0, orV_r rfl] at hy
        by_cases hk0 : k = 0
        · subst hk0
          rw [tooLow_first, if_neg (by decide)] at hy
          have HY := Lib.hid hy
          clear hy
          go_wp2_with fail
          go_quiet (fail)
          go_wp2
          go_roundw
          case rel => exact ⟨0 + 1, by omega, by go_num, HY.out, drewN_then HB.out _⟩
          case measure => simp [intOf]; omega
        · rw [tooLow_next _ hlt (by omega), ← le_ltS] at hy
          obtain ⟨b', off', hA, hc', -⟩ := (HS.out.mono (vw_below HB.out)).elemN (k - 1) (by omega)
          injection hA with hA
          injection hA with e1 e2
          subst e1 e2
          have c2 : wr.cell? ⟨b, off + (k - 1) * 2, none⟩ = some (.string l[k - 1].name) := hc' 0 _ rfl
          obtain ⟨q, hq⟩ : ∃ q, (Op.bytesLess l[k].name.toList l[k - 1].name.toList || (l[k].name.toList == l[k - 1].name.toList)) = q := ⟨_, rfl⟩
          rw [hq] at hy
          clear hc'
          have hk1 : 0 < k := by omega
          have hk2 : ((k : Int) - 1).toNat = k - 1 := by omega
          cases q with
          | true =>
            have HY : Hid (13 = checkVec l) := hy
            clear hy
            go_wp2_with fail
            go_quiet (fail)
            go_wp2
            go_ret
            exact ⟨ret_i HY.out, drewN_then HB.out _⟩
          | false =>
            have HY : Hid (rowsV amtV Amt.name (prevN Amt.name l (k + 1)) (l.drop (k + 1)) = checkVec l) := hy
            clear hy
            go_wp2_with fail
            go_quiet (fail)
            go_wp2
            go_roundw
            case rel => exact ⟨k + 1, by omega, by go_num, HY.out, drewN_then HB.out _⟩
            case measure => simp [intOf]; omega
    · obtain rfl : k = l.length := by omega
      have hr := HR.out
      rw [List.drop_length] at hr
      have HY : Hid (0 = checkVec l) := hr
      clear hr
      go_wp2
      go_ret
      exact ⟨ret_i HY.out, HB.out⟩
end Go.Proofs.Ytfbmfjmnpfidoaa
