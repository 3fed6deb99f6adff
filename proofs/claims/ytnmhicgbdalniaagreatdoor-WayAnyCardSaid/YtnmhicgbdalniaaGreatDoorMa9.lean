import Derived.Test.YtnmhicgbdalniaaGreatDoorMa3
import Derived.Test.YtnmhicgbdalniaaGreatDoorMa4
import Derived.Test.YtnmhicgbdalniaaGreatDoorMa6
import Derived.Test.YtnmhicgbdalniaaGreatDoorMa7
import Derived.Test.YtnmhicgbdalniaaGreatDoorMa8
import Derived.StillTailTactics
namespace Go.Proofs.YtnmhicgbdalniaaGreatDoor
open Go.RowKit Go.Sort

/-! Selectors and taints: the reference's side. -/
theorem matchV_at {l : List Term} {k : Nat} (h : k < l.length) (s : List Pair) : matchV (l.drop k) s = (holdsV l[k] s && matchV (l.drop (k + 1)) s) := by
  unfold matchV
  rw [List.drop_eq_getElem_cons h, List.all_cons]
set_option maxHeartbeats 4000000 in
set_option maxRecDepth 100000 in
theorem RMatch_calls (va vb : Value) (l : List Term) (s : List Pair) (w : World) (ha : Kd.term.S (vw w []) va l) (hb : Kd.pair.S (vw w []) vb s) :
    Calls Tryz.prog 140 #[va, vb] w (BoolDone (matchV l s) w) := by
  obtain ⟨A, c, rfl, ha⟩ := ha.val
  obtain ⟨-, hf1, hf2⟩ := ha.form
  have HA := Lib.hid ha
  have HD := Lib.hid hb
  clear ha hb
  go_enter Tryz.func140, Tryz.ntmps140
  go_wp2
  go_loopw [5] (fun i wr => ∃ k : Nat, k ≤ l.length ∧ i = .int .i64 k ∧ Hid (matchV (l.drop k) s = matchV l s) ∧ Hid (Below w.heap.size w wr)) (fun i _ => l.length - (intOf i).toNat)
  case atStart => exact ⟨0, Nat.zero_le _, rfl, rfl, Below.refl _ _⟩
  case round =>
    obtain ⟨k, hk, rfl, HR, HB⟩ := hrel
    by_cases hlt : k < l.length
    · obtain ⟨b, off, rfl, hc, _⟩ := (HA.out.mono (vw_below HB.out)).elemN k hlt
      have c0 : wr.cell? ⟨b, off + k * 3, none⟩ = some (.int .i64 l[k].op) := hc 0 _ rfl
      have c1 : wr.cell? ⟨b, off + k * 3 + 1, none⟩ = some (.string l[k].key) := hc 1 _ rfl
      have c2 : wr.cell? ⟨b, off + k * 3 + 2, none⟩ = some (.string l[k].val) := hc 2 _ rfl
      have hr := HR.out
      rw [matchV_at hlt] at hr
      clear hc HR
      go_wp2_with fail
      refine (Label_calls _ s l[k].key _ (HD.out.mono (vw_below HB.out))).mono ?_
      rintro e w1 ⟨rfl, rfl⟩
      have HB2 := HB
      have hv : holdsV l[k] s = if l[k].op = 1 then (getV s l[k].key).2 && decide ((getV s l[k].key).1 = l[k].val) else if l[k].op = 2 then !(getV s l[k].key).2 || !decide ((getV s l[k].key).1 = l[k].val) else if l[k].op = 3 then (getV s l[k].key).2 else decide (l[k].op = 4) && !(getV s l[k].key).2 := rfl
      have e1 := eq_beq (getV s l[k].key).1 l[k].val
      obtain ⟨x, d, hg⟩ : ∃ x d, getV s l[k].key = (x, d) := ⟨_, _, rfl⟩
      rw [hg] at hv e1 ⊢
      simp only at hv e1 ⊢
      obtain ⟨m, hm⟩ : ∃ m, decide (x = l[k].val) = m := ⟨_, rfl⟩
      rw [hm] at e1 hv
      clear hg hm HB
      by_cases h1 : l[k].op = 1
      · rw [if_pos h1] at hv
        cases d with
        | false =>
          cases m with
          | false =>
            rw [show holdsV l[k] s = false from hv] at hr
            rw [Bool.false_and] at hr
            have HX := Lib.hid hr
            clear hr hv
            go_wp2
            go_ret
            exact ⟨ret_bool HX.out, HB2.out⟩
          | true =>
            rw [show holdsV l[k] s = false from hv] at hr
            rw [Bool.false_and] at hr
            have HX := Lib.hid hr
            clear hr hv
            go_wp2
            go_ret
            exact ⟨ret_bool HX.out, HB2.out⟩
        | true =>
          cases m with
          | false =>
            rw [show holdsV l[k] s = false from hv] at hr
            rw [Bool.false_and] at hr
            have HX := Lib.hid hr
            clear hr hv
            go_wp2
            go_ret
            exact ⟨ret_bool HX.out, HB2.out⟩
          | true =>
            rw [show holdsV l[k] s = true from hv] at hr
            rw [Bool.true_and] at hr
            have HX := Lib.hid hr
            clear hr hv
            go_wp2
            go_roundw
            case rel => exact ⟨k + 1, by omega, by go_num, HX.out, HB2.out⟩
            case measure => simp [intOf]; omega
      have t1 : (l[k].op == 1) = false := by simpa using h1
      rw [if_neg h1] at hv
      by_cases h2 : l[k].op = 2
      · rw [if_pos h2] at hv
        cases d with
        | false =>
          cases m with
          | false =>
            rw [show holdsV l[k] s = true from hv] at hr
            rw [Bool.true_and] at hr
            have HX := Lib.hid hr
            clear hr hv
            go_wp2
            go_roundw
            case rel => exact ⟨k + 1, by omega, by go_num, HX.out, HB2.out⟩
            case measure => simp [intOf]; omega
          | true =>
            rw [show holdsV l[k] s = true from hv] at hr
            rw [Bool.true_and] at hr
            have HX := Lib.hid hr
            clear hr hv
            go_wp2
            go_roundw
            case rel => exact ⟨k + 1, by omega, by go_num, HX.out, HB2.out⟩
            case measure => simp [intOf]; omega
        | true =>
          cases m with
          | false =>
            rw [show holdsV l[k] s = true from hv] at hr
            rw [Bool.true_and] at hr
            have HX := Lib.hid hr
            clear hr hv
            go_wp2
            go_roundw
            case rel => exact ⟨k + 1, by omega, by go_num, HX.out, HB2.out⟩
            case measure => simp [intOf]; omega
          | true =>
            rw [show holdsV l[k] s = false from hv] at hr
            rw [Bool.false_and] at hr
            have HX := Lib.hid hr
            clear hr hv
            go_wp2
            go_ret
            exact ⟨ret_bool HX.out, HB2.out⟩
      have t2 : (l[k].op == 2) = false := by simpa using h2
      rw [if_neg h2] at hv
      by_cases h3 : l[k].op = 3
      · rw [if_pos h3] at hv
        cases d with
        | false =>
          rw [show holdsV l[k] s = false from hv] at hr
          rw [Bool.false_and] at hr
          have HX := Lib.hid hr
          clear hr hv
          go_wp2
          go_ret
          exact ⟨ret_bool HX.out, HB2.out⟩
        | true =>
          rw [show holdsV l[k] s = true from hv] at hr
          rw [Bool.true_and] at hr
          have HX := Lib.hid hr
          clear hr hv
          go_wp2
          go_roundw
          case rel => exact ⟨k + 1, by omega, by go_num, HX.out, HB2.out⟩
          case measure => simp [intOf]; omega
      have t3 : (l[k].op == 3) = false := by simpa using h3
      rw [if_neg h3] at hv
      by_cases h4 : l[k].op = 4
      · rw [decide_eq_true h4] at hv
        cases d with
        | false =>
          rw [show holdsV l[k] s = true from hv] at hr
          rw [Bool.true_and] at hr
          have HX := Lib.hid hr
          clear hr hv
          go_wp2
          go_roundw
          case rel => exact ⟨k + 1, by omega, by go_num, HX.out, HB2.out⟩
          case measure => simp [intOf]; omega
        | true =>
          rw [show holdsV l[k] s = false from hv] at hr
          rw [Bool.false_and] at hr
          have HX := Lib.hid hr
          clear hr hv
          go_wp2
          go_ret
          exact ⟨ret_bool HX.out, HB2.out⟩
      have t4 : (l[k].op == 4) = false := by simpa using h4
      rw [decide_eq_false h4] at hv
      rw [show holdsV l[k] s = false from hv] at hr
      rw [Bool.false_and] at hr
      have HX := Lib.hid hr
      clear hr hv
      go_wp2
      go_ret
      exact ⟨ret_bool HX.out, HB2.out⟩
    · obtain rfl : k = l.length := by omega
      have hr := HR.out
      rw [List.drop_length] at hr
      have HX : Hid (true = matchV l s) := hr
      clear hr
      go_wp2
      go_ret
      exact ⟨ret_bool HX.out, HB.out⟩
theorem bears_at {l : List Tnt} {k : Nat} (h : k < l.length) (t : Tnt) : (l.drop k).any (bearB t) = (bearB t l[k] || (l.drop (k + 1)).any (bearB t)) := by
  rw [List.drop_eq_getElem_cons h, List.any_cons]
set_option maxHeartbeats 8000000 in
set_option maxRecDepth 100000 in
theorem RBears_calls (va : Value) (l : List Tnt) (t : Tnt) (w : World) (ha : Kd.tnt.S (vw w []) va l) :
    Calls Tryz.prog 218 #[va, .agg #[.string t.key, .string t.val, .bool t.b]] w (BoolDone (bearsV l t) w) := by
  obtain ⟨A, c, rfl, ha⟩ := ha.val
  obtain ⟨-, hf1, hf2⟩ := ha.form
  have HA := Lib.hid ha
  have HQ := Lib.hid (blk_last w (.cells #[.string t.key, .string t.val, .bool t.b] 211))
  clear ha
  go_enter Tryz.func218, Tryz.ntmps218
  go_wp2
  go_loopw [5] (fun i wr => ∃ k : Nat, k ≤ l.length ∧ i = .int .i64 k ∧ Hid ((l.drop k).any (bearB t) = bearsV l t) ∧ Hid (Below (w.alloc (.cells #[.string t.key, .string t.val, .bool t.b] 211)).heap.size (w.alloc (.cells #[.string t.key, .string t.val, .bool t.b] 211)) wr)) (fun i _ => l.length - (intOf i).toNat)
  case atStart => exact ⟨0, Nat.zero_le _, rfl, rfl, Below.refl _ _⟩
  case round =>
    obtain ⟨k, hk, rfl, HR, HBW⟩ := hrel
    have HB : Hid (Below w.heap.size w wr) := Below.then (alloc_below w _) HBW.out
    by_cases hlt : k < l.length
    · obtain ⟨b, off, rfl, hc, _⟩ := (HA.out.mono (vw_below HB.out)).elemN k hlt
      have c0 : wr.cell? ⟨b, off + k * 3, none⟩ = some (.string l[k].key) := hc 0 _ rfl
      have c1 : wr.cell? ⟨b, off + k * 3 + 1, none⟩ = some (.string l[k].val) := hc 1 _ rfl
      have c2 : wr.cell? ⟨b, off + k * 3 + 2, none⟩ = some (.bool l[k].b) := hc 2 _ rfl
      obtain ⟨z, zf⟩ := blk_all ((HBW.out.block _ (blk_lt HQ.out)).trans HQ.out)
      have z0 := z 0
      have z1 := z 1
      have hr := HR.out
      rw [bears_at hlt] at hr
      have hv : bearB t l[k] = ((decide (l[k].key = ⟨#[]⟩) || decide (l[k].key = t.key)) && (l[k].b || decide (l[k].val = t.val))) := rfl
      have e0 := empty_beq l[k].key
      have e1 := eq_beq l[k].key t.key
      have e2 := eq_beq l[k].val t.val
      obtain ⟨m0, hm0⟩ : ∃ m, decide (l[k].key = ⟨#[]⟩) = m := ⟨_, rfl⟩
      obtain ⟨m1, hm1⟩ : ∃ m, decide (l[k].key = t.key) = m := ⟨_, rfl⟩
      obtain ⟨m2, hm2⟩ : ∃ m, l[k].b = m := ⟨_, rfl⟩
      obtain ⟨m3, hm3⟩ : ∃ m, decide (l[k].val = t.val) = m := ⟨_, rfl⟩
      rw [hm0] at e0 hv
      rw [hm1] at e1 hv
      rw [hm2] at c2 hv
      rw [hm3] at e2 hv
      clear hc hm0 hm1 hm2 hm3 HR HQ z
      cases m0 with
      | false =>
        cases m1 with
        | false =>
          cases m2 with
          | false =>
            cases m3 with
            | false =>
              have HX : Hid ((l.drop (k + 1)).any (bearB t) = bearsV l t) := by
                show _ = _
                rw [← hr, hv]; rfl
              clear hr hv
              go_wp2_with fail
              go_quiet (fail)
              go_wp2
              go_roundw
              case rel => exact ⟨k + 1, by omega, by go_num, HX.out, drewN_then HBW.out _⟩
              case measure => simp [intOf]; omega
            | true =>
              have HX : Hid ((l.drop (k + 1)).any (bearB t) = bearsV l t) := by
                show _ = _
                rw [← hr, hv]; rfl
              clear hr hv
              go_wp2_with fail
              go_quiet (fail)
              go_wp2
              go_roundw
              case rel => exact ⟨k + 1, by omega, by go_num, HX.out, drewN_then HBW.out _⟩
              case measure => simp [intOf]; omega
          | true =>
            cases m3 with
            | false =>
              have HX : Hid ((l.drop (k + 1)).any (bearB t) = bearsV l t) := by
                show _ = _
                rw [← hr, hv]; rfl
              clear hr hv
              go_wp2_with fail
              go_quiet (fail)
              go_wp2
              go_roundw
              case rel => exact ⟨k + 1, by omega, by go_num, HX.out, drewN_then HBW.out _⟩
              case measure => simp [intOf]; omega
            | true =>
              have HX : Hid ((l.drop (k + 1)).any (bearB t) = bearsV l t) := by
                show _ = _
                rw [← hr, hv]; rfl
              clear hr hv
              go_wp2_with fail
              go_quiet (fail)
              go_wp2
              go_roundw
              case rel => exact ⟨k + 1, by omega, by go_num, HX.out, drewN_then HBW.out _⟩
              case measure => simp [intOf]; omega
        | true =>
          cases m2 with
          | false =>
            cases m3 with
            | false =>
              have HX : Hid ((l.drop (k + 1)).any (bearB t) = bearsV l t) := by
                show _ = _
                rw [← hr, hv]; rfl
              clear hr hv
              go_wp2_with fail
              go_quiet (fail)
              go_wp2
              go_roundw
              case rel => exact ⟨k + 1, by omega, by go_num, HX.out, drewN_then HBW.out _⟩
              case measure => simp [intOf]; omega
            | true =>
              have HX : Hid (true = bearsV l t) := by
                show _ = _
                rw [← hr, hv]; rfl
              clear hr hv
              go_wp2_with fail
              go_quiet (fail)
              go_wp2
              go_ret
              exact ⟨ret_bool HX.out, drewN_then HB.out _⟩
          | true =>
            cases m3 with
            | false =>
              have HX : Hid (true = bearsV l t) := by
                show _ = _
                rw [← hr, hv]; rfl
              clear hr hv
              go_wp2_with fail
              go_quiet (fail)
              go_wp2
              go_ret
              exact ⟨ret_bool HX.out, drewN_then HB.out _⟩
            | true =>
              have HX : Hid (true = bearsV l t) := by
                show _ = _
                rw [← hr, hv]; rfl
              clear hr hv
              go_wp2_with fail
              go_quiet (fail)
              go_wp2
              go_ret
              exact ⟨ret_bool HX.out, drewN_then HB.out _⟩
      | true =>
        cases m1 with
        | false =>
          cases m2 with
          | false =>
            cases m3 with
            | false =>
              have HX : Hid ((l.drop (k + 1)).any (bearB t) = bearsV l t) := by
                show _ = _
                rw [← hr, hv]; rfl
              clear hr hv
              go_wp2_with fail
              go_quiet (fail)
              go_wp2
              go_roundw
              case rel => exact ⟨k + 1, by omega, by go_num, HX.out, drewN_then HBW.out _⟩
              case measure => simp [intOf]; omega
            | true =>
              have HX : Hid (true = bearsV l t) := by
                show _ = _
                rw [← hr, hv]; rfl
              clear hr hv
              go_wp2_with fail
              go_quiet (fail)
              go_wp2
              go_ret
              exact ⟨ret_bool HX.out, drewN_then HB.out _⟩
          | true =>
            cases m3 with
            | false =>
              have HX : Hid (true = bearsV l t) := by
                show _ = _
                rw [← hr, hv]; rfl
              clear hr hv
              go_wp2_with fail
              go_quiet (fail)
              go_wp2
              go_ret
              exact ⟨ret_bool HX.out, drewN_then HB.out _⟩
            | true =>
              have HX : Hid (true = bearsV l t) := by
                show _ = _
                rw [← hr, hv]; rfl
              clear hr hv
              go_wp2_with fail
              go_quiet (fail)
              go_wp2
              go_ret
              exact ⟨ret_bool HX.out, drewN_then HB.out _⟩
        | true =>
          cases m2 with
          | false =>
            cases m3 with
            | false =>
              have HX : Hid ((l.drop (k + 1)).any (bearB t) = bearsV l t) := by
                show _ = _
                rw [← hr, hv]; rfl
              clear hr hv
              go_wp2_with fail
              go_quiet (fail)
              go_wp2
              go_roundw
              case rel => exact ⟨k + 1, by omega, by go_num, HX.out, drewN_then HBW.out _⟩
              case measure => simp [intOf]; omega
            | true =>
              have HX : Hid (true = bearsV l t) := by
                show _ = _
                rw [← hr, hv]; rfl
              clear hr hv
              go_wp2_with fail
              go_quiet (fail)
              go_wp2
              go_ret
              exact ⟨ret_bool HX.out, drewN_then HB.out _⟩
          | true =>
            cases m3 with
            | false =>
              have HX : Hid (true = bearsV l t) := by
                show _ = _
                rw [← hr, hv]; rfl
              clear hr hv
              go_wp2_with fail
              go_quiet (fail)
              go_wp2
              go_ret
              exact ⟨ret_bool HX.out, drewN_then HB.out _⟩
            | true =>
              have HX : Hid (true = bearsV l t) := by
                show _ = _
                rw [← hr, hv]; rfl
              clear hr hv
              go_wp2_with fail
              go_quiet (fail)
              go_wp2
              go_ret
              exact ⟨ret_bool HX.out, drewN_then HB.out _⟩
    · obtain rfl : k = l.length := by omega
      have hr := HR.out
      rw [List.drop_length] at hr
      have HX : Hid (false = bearsV l t) := hr
      clear hr
      go_wp2
      go_ret
      exact ⟨ret_bool HX.out, HB.out⟩
set_option maxHeartbeats 4000000 in
set_option maxRecDepth 100000 in
theorem RWorst_calls (va vb : Value) (l t : List Tnt) (w : World) (ha : Kd.tnt.S (vw w []) va l) (hb : Kd.tnt.S (vw w []) vb t) :
    Calls Tryz.prog 141 #[va, vb] w (WorstDone (worstV l t) w) := by
  obtain ⟨A, c, rfl, ha⟩ := ha.val
  obtain ⟨B, c2, rfl, hb⟩ := hb.val
  obtain ⟨-, hf1, hf2⟩ := hb.form
  have HA := Lib.hid ha
  have HS := Lib.hid hb
  clear ha hb
  go_enter Tryz.func141, Tryz.ntmps141
  go_wp2
  go_loopw [6] (fun i wr => ∃ k : Nat, k ≤ t.length ∧ i = .int .i64 k ∧ Hid (worstV l (t.drop k) = worstV l t) ∧ Hid (Below w.heap.size w wr) ∧ Hid (wr.heap[w.heap.size]? = some (.cells #[.string ⟨#[]⟩, .string ⟨#[]⟩, .bool false] 211 (0, 0)))) (fun i _ => t.length - (intOf i).toNat)
  case atStart => exact ⟨0, Nat.zero_le _, rfl, rfl, alloc_below _ _, blk_last _ _⟩
  case round =>
    obtain ⟨k, hk, rfl, HG, HB2, HR1⟩ := hrel
    by_cases hlt : k < t.length
    · obtain ⟨b, off, rfl, hc, _⟩ := (HS.out.mono (vw_below HB2.out)).elemN k hlt
      have hg := HG.out
      rw [worstV_at l hlt] at hg
      have HC : Hid (wr.rangeAt b (off + k * 3) [.string t[k].key, .string t[k].val, .bool t[k].b]) := hc
      obtain ⟨x, hx⟩ : ∃ x, t[k] = x := ⟨_, rfl⟩
      rw [hx] at hg HC
      obtain ⟨xk, xv, xb⟩ := x
      simp only at hg HC
      have c2 : wr.cell? ⟨b, off + k * 3 + 2, none⟩ = some (.bool xb) := HC.out 2 _ rfl
      have HG2 := Lib.hid hg
      clear hg hc HG
      cases xb with
      | false =>
        have hg := HG2.out
        rw [if_neg (by simp)] at hg
        have HG3 := Lib.hid hg
        clear hg
        go_wp2
        go_roundw
        case rel => exact ⟨k + 1, by omega, by go_num, HG3, HB2, HR1⟩
        case measure => simp [intOf]; omega
      | true =>
        have c0 : wr.cell? ⟨b, off + k * 3, none⟩ = some (.string xk) := HC.out 0 _ rfl
        have c1 : wr.cell? ⟨b, off + k * 3 + 1, none⟩ = some (.string xv) := HC.out 1 _ rfl
        go_wp2_with fail
        refine (RBears_calls _ l ⟨xk, xv, true⟩ _ (HA.out.mono (vw_below HB2.out))).mono ?_
        rintro e w1 ⟨rfl, hb⟩
        have HB3 := Lib.hid (Below.then HB2.out hb)
        have HR2 := Lib.hid ((hb.block _ (blk_lt HR1.out)).trans HR1.out)
        have hg := HG2.out
        have HC3 : Hid (w1.rangeAt b (off + k * 3) [.string xk, .string xv, .bool true]) := by
          obtain ⟨b', off', hA, hc', -⟩ := (HS.out.mono (vw_below HB3.out)).elemN k hlt
          injection hA with hA
          injection hA with e1 e2
          subst e1 e2
          rw [hx] at hc'
          exact hc'
        obtain ⟨m, hm⟩ : ∃ m, bearsV l ⟨xk, xv, true⟩ = m := ⟨_, rfl⟩
        rw [hm] at hg ⊢
        clear hm hb c0 c1 c2
        cases m with
        | true =>
          rw [if_neg (by simp)] at hg
          have HG3 := Lib.hid hg
          clear hg
          go_wp2
          go_roundw
          case rel => exact ⟨k + 1, by omega, by go_num, HG3, HB3, HR2⟩
          case measure => simp [intOf]; omega
        | false =>
          rw [if_pos (by simp)] at hg
          have HG3 := Lib.hid hg
          clear hg
          obtain ⟨z, zf⟩ := blk_all HR2.out
          go_wp2_with (with_reducible refine wpList_load_mid rfl 211 _ rfl b (off + k * 3) rfl _ _ HC3.out Tryz.underlying211 rfl (by kernel_rfl) ?_)
          have hbl := Below.setCell (Below.setCell (Below.setCell HB3.out (p := ⟨w.heap.size, 0, none⟩) (Nat.le_refl _) (.string xk)) (p := ⟨w.heap.size, 1, none⟩) (Nat.le_refl _) (.string xv)) (p := ⟨w.heap.size, 2, none⟩) (Nat.le_refl _) (.bool true)
          exact ret_row2 (cs := [.string xk, .string xv, .bool true]) rfl rfl ((blk_set (blk_set (blk_set HR2.out _) _) _).trans rfl) Tryz.underlying211 rfl (by kernel_rfl) rfl ⟨by rw [← HG3.out]; rfl, hbl⟩
    · obtain rfl : k = t.length := by omega
      have hr := HG.out
      rw [List.drop_length] at hr
      have HR := Lib.hid hr
      clear hr
      obtain ⟨z, zf⟩ := blk_all HR1.out
      go_wp2
      have hbl := Below.setCell (Below.setCell (Below.setCell HB2.out (p := ⟨w.heap.size, 0, none⟩) (Nat.le_refl _) (.string ⟨#[]⟩)) (p := ⟨w.heap.size, 1, none⟩) (Nat.le_refl _) (.string ⟨#[]⟩)) (p := ⟨w.heap.size, 2, none⟩) (Nat.le_refl _) (.bool false)
      exact ret_row2 (cs := [.string ⟨#[]⟩, .string ⟨#[]⟩, .bool false]) rfl rfl ((blk_set (blk_set (blk_set HR1.out _) _) _).trans rfl) Tryz.underlying211 rfl (by kernel_rfl) rfl ⟨by rw [← HR.out]; rfl, hbl⟩
end Go.Proofs.YtnmhicgbdalniaaGreatDoor
namespace Go.Proofs.YtnmhicgbdalniaaGreatDoor
open Go.RowKit Go.Sort

/-! Differences and what is free: the reference's side. -/
theorem subL_at (a b : List Amt) {l : List ByteArray} {k : Nat} (h : k < l.length) (out : List Amt) : subL a b (l.drop k) out =
    if (subN (getA a l[k]) (getA b l[k])).2 ≠ 0 then ([], (subN (getA a l[k]) (getA b l[k])).2) else subL a b (l.drop (k + 1)) (if 0 < (subN (getA a l[k]) (getA b l[k])).1 then out ++ [⟨l[k], (subN (getA a l[k]) (getA b l[k])).1⟩] else out) := by
  rw [List.drop_eq_getElem_cons h, subL]
def SubDone (a b : Int) (w : World) (e : Ending) (w' : World) : Prop := e = .returned (.tuple #[.int .i64 (subN a b).1, .int .i64 (subN a b).2]) ∧ w = w'
set_option maxHeartbeats 1000000 in
theorem Sub5_calls (a b : Int) (w : World) (ha : i64 a) (hb : i64 b) : Calls Tryz.prog 282 #[.int .i64 a, .int .i64 b] w (SubDone a b w) := by
  obtain ⟨a1, a2⟩ := ha
  obtain ⟨b1, b2⟩ := hb
  go_enter Tryz.func282, Tryz.ntmps282
  by_cases h1 : a < 0
  · have HZ : Hid (subN a b = (0, 1)) := if_pos h1
    go_wp2
    go_ret2
    exact ⟨ret_ii HZ.out.symm, rfl⟩
  by_cases h2 : b < 0
  · have HZ : Hid (subN a b = (0, 1)) := (if_neg h1).trans (if_pos h2)
    go_wp2
    go_ret2
    exact ⟨ret_ii HZ.out.symm, rfl⟩
  by_cases h3 : a < b
  · have HZ : Hid (subN a b = (0, 5)) := (if_neg h1).trans ((if_neg h2).trans (if_pos h3))
    go_wp2
    go_ret2
    exact ⟨ret_ii HZ.out.symm, rfl⟩
  have HZ : Hid (subN a b = (a - b, 0)) := (if_neg h1).trans ((if_neg h2).trans (if_neg h3))
  go_wp2
  go_ret2
  exact ⟨ret_ii HZ.out.symm, rfl⟩
set_option maxHeartbeats 4000000 in
set_option maxRecDepth 100000 in
theorem RSubVec_calls (va vb : Value) (a b : List Amt) (w : World) (ha : Kd.amt.S (vw w []) va a) (hb : Kd.amt.S (vw w []) vb b) :
    Calls Tryz.prog 221 #[va, vb] w (VecDone (subVec a b) w) := by
  obtain ⟨i0, hi, hz0, hz1, hz2⟩ := info_parts info_Of2
  have hoa := amt_ok ha
  have hob := amt_ok hb
  obtain ⟨A, cap, rfl, ha⟩ := ha.val
  obtain ⟨B, cap2, rfl, hb⟩ := hb.val
  have HA := Lib.hid ha
  have HD := Lib.hid hb
  have HOA := Lib.hid hoa
  have HOB := Lib.hid hob
  clear ha hb hoa hob
  go_enter Tryz.func221, Tryz.ntmps221
  go_wp2_with fail
  refine (both_calls _ _ a b _ HA.out HD.out).mono ?_
  rintro e w1 ⟨rfl, hb⟩
  obtain ⟨n1, hn1⟩ : ∃ n1, orV (checkVec a) (checkVec b) = n1 := ⟨_, rfl⟩
  rw [hn1]
  have H1 := Lib.hid hb
  have HN := Lib.hid hn1
  clear hb hn1
  by_cases h0 : n1 ≠ 0
  · have t1 : (n1 == 0) = false := by simp [h0]
    have HX : Hid (subVec a b = ([], n1)) := by
      show _ = _
      have hn := HN.out
      unfold subVec
      by_cases c1 : checkVec a ≠ 0
      · rw [if_pos c1, ← hn, orV_l c1]
      · rw [if_neg c1]
        rw [orV_r (Decidable.not_not.1 c1)] at hn
        rw [hn, if_pos h0]
    go_wp2
    go_ret2
    exact vec_none HX.out H1.out
  obtain rfl : n1 = 0 := Decidable.not_not.1 h0
  have hca : checkVec a = 0 := by
    have hn := HN.out
    by_cases c1 : checkVec a ≠ 0
    · rw [orV_l c1] at hn; exact hn
    · exact Decidable.not_not.1 c1
  have hcb : checkVec b = 0 := by
    have hn := HN.out
    rwa [orV_r hca] at hn
  have la := checkVec_len hca
  have lb := checkVec_len hcb
  have HX : Hid (subVec a b = subL a b (namesV a b) []) := by
    show _ = _
    unfold subVec
    rw [if_neg (by rw [hca]; decide), if_neg (by rw [hcb]; decide)]
  clear h0 HN hca hcb
  go_wp2_with fail
  refine (names_calls _ _ a b _ (HA.out.mono (vw_below H1.out)) (HD.out.mono (vw_below H1.out)) (by omega) (by omega)).mono ?_
  rintro e w2 ⟨sv, rfl, ho, hb⟩
  have hnl := namesV_len a b
  have hnm : ∀ x ∈ namesV a b, sok x := fun x hx => by
    rcases namesV_mem a b x hx with h | h
    · obtain ⟨y, hy, rfl⟩ := List.mem_map.1 h
      exact (HOA.out y hy).1
    · obtain ⟨y, hy, rfl⟩ := List.mem_map.1 h
      exact (HOB.out y hy).1
  have hs : Kd.str.S (vw w2 []) sv (namesV a b) := Kd.S.of_own ho (by omega) (fun x hx => hnm x hx) (by simp)
  obtain ⟨l, hl⟩ : ∃ l, namesV a b = l := ⟨_, rfl⟩
  rw [hl] at hs hnl hnm HX
  obtain ⟨C, cc, rfl, hs⟩ := hs.val
  obtain ⟨-, fl1, fl2⟩ := hs.form
  have HL := Lib.hid hs
  have HNM := Lib.hid hnm
  have H2 := Lib.hid (Below.then H1.out hb)
  clear hb ho hs hl hnm H1
  go_wp2
  go_loopw [8, 9] (fun o i wr => ∃ (k : Nat) (out : List Amt), k ≤ l.length ∧ i = .int .i64 k ∧ out.length ≤ k ∧ Hid (subL a b (l.drop k) out = subVec a b) ∧ Hid (Kd.amt.Own wr w2.heap.size 217 0 o out) ∧ Hid (Below w2.heap.size w2 wr)) (fun _ i _ => l.length - (intOf i).toNat)
  case atStart => exact ⟨0, [], Nat.zero_le _, rfl, Nat.le_refl _, HX.out.symm, Kd.Own.nil _ _ _ _ _, Below.refl _ _⟩
  case round =>
    clear HX
    obtain ⟨k, out, hk, rfl, hok, HR, HO, HB⟩ := hrel
    have HK := Lib.hid hok
    have hokl : out.length ≤ k := by omega
    clear hok
    by_cases hlt : k < l.length
    · obtain ⟨b', off, rfl, hc, hp⟩ := (HL.out.mono (vw_below HB.out)).elem1 k hlt
      have HP := Lib.hid hp
      have hr := HR.out
      rw [subL_at a b hlt] at hr
      have HR2 := Lib.hid hr
      have HWA := Lib.hid (HA.out.mono (vw_below (Below.then H2.out HB.out)))
      have HWB := Lib.hid (HD.out.mono (vw_below (Below.then H2.out HB.out)))
      have hga := getA_ok HOA.out l[k]
      have hgb := getA_ok HOB.out l[k]
      have hgs := subN_ok hga hgb
      have HGA := Lib.hid hga
      have HGB := Lib.hid hgb
      clear hp hr hga hgb
      go_upto_region 9 with fail
      have hq1 : ∀ n : Nat, Hid (Kd.amt.S (vw (wr.drewN n) []) (.slice A a.length cap) a) := fun n => HWA.out.mono (vw_drewN n)
      have hq2 : ∀ n : Nat, Hid (Kd.amt.S (vw (wr.drewN n) []) (.slice B b.length cap2) b) := fun n => HWB.out.mono (vw_drewN n)
      go_quiet (first
        | (go_at_call 133; exact Calls.quiet_of_same ((GetA_calls _ _ _ _ (by first | with_reducible exact (hq1 _).out | with_reducible exact (hq2 _).out)).mono fun _ _ h => ⟨h.1, h.2.symm⟩))
        | (go_at_call 282; exact Calls.quiet_of_same ((Sub5_calls _ _ _ HGA.out HGB.out).mono fun _ _ h => ⟨h.1, h.2.symm⟩)))
      have HB1 : Hid (Below w2.heap.size w2 (wr.drewN nq)) := drewN_then HB.out nq
      have HO1 := Lib.hid (HO.out.below (drewN_below wr nq))
      have hc' : (wr.drewN nq).cell? ⟨b', off + k, none⟩ = some (.string l[k]) := hc
      generalize wr.drewN nq = wr1 at HB1 HO1 hc' ⊢
      obtain ⟨x, hx⟩ : ∃ x, (subN (getA a l[k]) (getA b l[k])).1 = x := ⟨_, rfl⟩
      obtain ⟨m, hm⟩ : ∃ m, (subN (getA a l[k]) (getA b l[k])).2 = m := ⟨_, rfl⟩
      have hr := HR2.out
      rw [hx, hm] at hr
      rw [hx] at hgs
      rw [hx, hm]
      have HGS := Lib.hid hgs
      clear hx hm hc HWA HWB HGA HGB HR2 HB HO hgs hq1 hq2
      by_cases h0 : m ≠ 0
      · have t1 : (m == 0) = false := by simp [h0]
        rw [if_pos h0] at hr
        have HX := Lib.hid hr
        clear hr
        go_wp2
        go_ret2
        exact vec_none HX.out.symm (Below.then H2.out HB1.out)
      rw [if_neg h0] at hr
      obtain rfl : m = 0 := Decidable.not_not.1 h0
      clear h0
      by_cases hx0 : 0 < x
      case neg =>
        rw [if_neg hx0] at hr
        have HX := Lib.hid hr
        clear hr
        go_wp2
        go_roundw
        case rel => exact ⟨k + 1, out, by omega, by go_num, by have := HK.out; omega, HX.out, HO1.out, HB1.out⟩
        case measure => simp [intOf]; omega
      rw [if_pos hx0] at hr
      have HX := Lib.hid hr
      clear hr
      have hsz := HB1.out.size
      obtain ⟨css, k1, k2, k3⟩ := HO1.out
      have HK1 := Lib.hid k1
      have HK2 := Lib.hid k2
      have HK3 := Lib.hid k3
      clear k1 k2 k3
      have NEWS : Hid (∀ ad, some (⟨wr1.heap.size, 0, none⟩ : Addr) = some ad → ∀ j u, [Value.string l[k], .int .i64 x][j]? = some u → (wr1.alloc (.cells #[.string l[k], .int .i64 x] 217)).cell? (ad.add j) = some u) := by
        rintro ad h
        cases h
        exact World.news_of_block (cs := #[.string l[k], .int .i64 x]) (t := 217) (fr := (0, 0)) (heap_alloc_new wr1 _)
      go_wp2_with (at_builtin; refine wpList_app _ w2.heap.size 40 217 i0 (.agg #[.string ⟨#[]⟩, .int .i64 0]) 2 24 Tryz.underlying40 hi hz0 hz1 hz2 rfl (by decide) _ _ css.flatten (HK3.out.alloc _) (some ⟨wr1.heap.size, 0, none⟩) 1 1 [.string l[k], .int .i64 x] rfl (fun e => by cases e) NEWS.out (by simp [Value.oneCell']) (by simp only [maxLen]; omega) (by omega) (by simp; omega) _ _ rfl rfl rfl rfl ?_)
      intro v2 w3 ho2 hg2 hv2
      have HB2 : Hid (Below w2.heap.size w2 w3) := grown_then HB1.out (alloc_below wr1 (.cells #[.string l[k], .int .i64 x] 217)) hg2 (fun q hq => (HK3.out.lt q hq).1)
      have HO2 : Hid (Kd.amt.Own w3 w2.heap.size 217 0 v2 (out ++ [⟨l[k], x⟩])) :=
        Kd.Own.snoc HK1.out HK2.out ⟨rfl, HP.out, HGS.out⟩ (alloc_below wr1 (.cells #[.string l[k], .int .i64 x] 217)) ho2 hg2 (hv2.imp id fun h => by rw [h]; simp)
      clear ho2 hg2 hv2
      go_wp2
      go_roundw
      case rel => exact ⟨k + 1, out ++ [Amt.mk l[k] x], by omega, by go_num, by rw [List.length_append]; have := HK.out; simp; omega, HX.out, HO2.out, HB2.out⟩
      case measure => simp [intOf]; omega
    · obtain rfl : k = l.length := by omega
      have hr := HR.out
      rw [List.drop_length, subL] at hr
      obtain ⟨A2, c2, rfl, s2⟩ := (HO.out.S (Nat.zero_le _) (by omega)).val
      have S2 := Lib.hid (s2.mono (nx_vw0 _))
      have HB3 := Lib.hid (Below.then H2.out HB.out)
      have HX := Lib.hid hr
      clear s2 hr HO HR
      go_wp2_with fail
      by_cases h8 : 8 < out.length
      · have HY : Hid (subVec a b = ([], 4)) := by
          show _ = _
          have := HX.out
          rw [if_pos h8] at this
          exact this.symm
        refine (whole_calls A2 out.length c2 _ (by omega)).mono ?_
        rintro e w' ⟨rfl, rfl⟩
        rw [if_pos h8]
        go_wp2
        go_ret2
        exact vec_none HY.out HB3.out
      · have HY : Hid (subVec a b = (out, 0)) := by
          show _ = _
          have := HX.out
          rw [if_neg h8] at this
          exact this.symm
        refine (whole_calls A2 out.length c2 _ (by omega)).mono ?_
        rintro e w' ⟨rfl, rfl⟩
        rw [if_neg h8]
        go_wp2
        go_ret2
        exact vec_some HY.out S2.out HB3.out
set_option maxHeartbeats 4000000 in
set_option maxRecDepth 100000 in
theorem RFree_calls (v : Value) (s : St) (name : ByteArray) (w : World) (hs : Kd.state.V (vw w []) v s) :
    Calls Tryz.prog 143 #[v, .string name] w (VecDone (freeV s name) w) := by
  have HVS := Lib.hid hs
  obtain ⟨cs, rfl, A1, c1, A2, c2, A3, c3, rfl, s1, -, -⟩ := hs
  have S1 := Lib.hid s1
  have HVS : Hid (Kd.state.V (vw w []) (.agg #[.slice A1 s.nodes.length c1, .slice A2 s.pods.length c2, .slice A3 s.budgets.length c3]) s) := HVS.out
  clear s1
  go_enter Tryz.func143, Tryz.ntmps143
  have HB : Hid (Below w.heap.size w (w.alloc (.cells #[.slice A1 s.nodes.length c1, .slice A2 s.pods.length c2, .slice A3 s.budgets.length c3] 51))) := alloc_below _ _
  have HQ : Hid ((w.alloc (.cells #[.slice A1 s.nodes.length c1, .slice A2 s.pods.length c2, .slice A3 s.budgets.length c3] 51)).heap[w.heap.size]? = some (.cells #[.slice A1 s.nodes.length c1, .slice A2 s.pods.length c2, .slice A3 s.budgets.length c3] 51 (0, 0))) := blk_last _ _
  go_upto_region 1 with fail
  generalize w.alloc (.cells #[.slice A1 s.nodes.length c1, .slice A2 s.pods.length c2, .slice A3 s.budgets.length c3] 51) = W at HB HQ ⊢
  obtain ⟨z, zf⟩ := blk_all HQ.out
  go_wp2_with fail
  refine (Used_calls _ s name _ (V_below HVS.out HB.out)).mono ?_
  rintro e w1 ⟨A4, c4, rfl, hv, hb⟩
  obtain ⟨Us, hUs⟩ : ∃ Us, usedV s name = Us := ⟨_, rfl⟩
  have HX : Hid (freeV s name = if Us.2 ≠ 0 then ([], Us.2) else subVec (findV s.nodes name).1.cap Us.1) := by show _ = _; unfold freeV; rw [hUs]
  rw [hUs] at hv
  rw [hUs]
  have HV := Lib.hid hv
  have HB1 := Lib.hid (Below.then HB.out hb)
  have HQ1 := Lib.hid ((hb.block _ (blk_lt HQ.out)).trans HQ.out)
  clear z zf hb hv hUs HQ HB
  obtain ⟨z, zf⟩ := blk_all HQ1.out
  by_cases h0 : Us.2 = 0
  · have hx := HX.out
    rw [if_neg (by simp [h0])] at hx
    have HX2 := Lib.hid hx
    rw [h0]
    clear hx h0 HX
    go_wp2_with fail
    refine (FindNode_calls _ s.nodes name _ (S1.out.mono (vw_below HB1.out))).mono ?_
    rintro e w2 ⟨cs, rfl, hk, hb⟩
    obtain ⟨D1, g1, D2, g2, D3, g3, rfl, -, hcap, -⟩ := hk
    obtain ⟨nd, hnd⟩ : ∃ nd, (findV s.nodes name).1 = nd := ⟨_, rfl⟩
    obtain ⟨fk, hfk⟩ : ∃ fk, (findV s.nodes name).2 = fk := ⟨_, rfl⟩
    have HX3 := HX2
    rw [hnd] at hcap HX3
    rw [hnd, hfk]
    have HC := Lib.hid hcap
    have HB2 := Lib.hid (Below.then HB1.out hb)
    have HV2 := Lib.hid (Kd.S.mono (vw_below hb) HV.out)
    clear z zf hb hnd hfk hcap HV HX2
    obtain ⟨U, hU⟩ : ∃ U : World, U = w2.alloc (.cells #[.string nd.name, .slice D1 nd.cap.length g1, .slice D2 nd.labels.length g2, .slice D3 nd.taints.length g3, .bool nd.cordon] 150) := ⟨_, rfl⟩
    have HBU : Hid (Below w.heap.size w U) := by rw [hU]; exact alloc_then HB2.out _
    have HCU : Hid (Kd.amt.S (vw U []) (.slice D1 nd.cap.length g1) nd.cap) := by rw [hU]; exact Kd.S.mono (vw_below (alloc_below _ _)) HC.out
    have HVU : Hid (Kd.amt.S (vw U []) (.slice A4 Us.1.length c4) Us.1) := by rw [hU]; exact Kd.S.mono (vw_below (alloc_below _ _)) HV2.out
    have hn : U.heap[w2.heap.size]? = some (.cells #[.string nd.name, .slice D1 nd.cap.length g1, .slice D2 nd.labels.length g2, .slice D3 nd.taints.length g3, .bool nd.cordon] 150 (0, 0)) := by rw [hU]; exact blk_last _ _
    obtain ⟨z, zf⟩ := blk_all hn
    clear hn HC HV2
    go_upto_region 5 with fail
    rw [← hU]
    clear hU
    go_wp2_with fail
    refine (RSubVec_calls _ _ nd.cap Us.1 _ HCU.out HVU.out).mono ?_
    rw [← HX3.out]
    rintro e w3 ⟨A5, c5, rfl, hv, hb3⟩
    have HV5 := Lib.hid hv
    have HB3 := Lib.hid (Below.then HBU.out hb3)
    clear hv hb3 z zf
    go_wp2
    go_ret2
    exact ⟨_, _, rfl, HV5.out, HB3.out⟩
  · have hx := HX.out
    rw [if_pos h0] at hx
    have HX2 := Lib.hid hx
    have t1 : (Us.2 == 0) = false := by simpa using h0
    clear hx
    go_wp2
    go_ret2
    exact vec_none HX2.out HB1.out
end Go.Proofs.YtnmhicgbdalniaaGreatDoor
namespace Go.Proofs.YtnmhicgbdalniaaGreatDoor
open Go.RowKit Go.Sort

/-! state.Move. -/
def mvP (name to_ : ByteArray) (p : Pd) : Pd := if p.name = name then { p with node := to_ } else p
theorem moveS_pods (s : St) (name to_ : ByteArray) : (moveS s name to_).pods = s.pods.map (mvP name to_) := rfl
theorem Rw.put {w : World} {g z : Nat} {css : List (List Value)} (h : Rw w g z css) {t j : Nat} {c : List Value} (ht : css[t]? = Option.some c) (hj : j < z) (v : Value) : Rw (w.setCell ⟨g, t * z + j, none⟩ v) g z (css.set t (c.set j v)) := by
  have htl := (List.getElem?_eq_some_iff.1 ht).1
  have hcl := h.len c (List.mem_of_getElem? ht)
  refine ⟨by rw [World.size_setCell]; exact h.lt, fun d hd => ?_, fun s d hd i u hu => ?_, fun x => by rw [World.frozen?_setCell]; exact h.free x⟩
  · rcases List.mem_or_eq_of_mem_set hd with k | rfl
    · exact h.len d k
    · rw [List.length_set]; exact hcl
  · have hput : ∀ o, (w.setCell ⟨g, t * z + j, none⟩ v).cell? ⟨g, o, none⟩ = if o = t * z + j then (w.cell? ⟨g, o, none⟩).map (fun _ => v) else w.cell? ⟨g, o, none⟩ := fun o => by
      have hs := h.at_ t c ht j (c[j]'(by omega)) (List.getElem?_eq_getElem _)
      unfold World.cell? World.setCell at *
      simp only [Array.getElem?_modify] at *
      split at hs
      · rename_i cc tt ff he
        rw [he]
        simp only [if_true, Option.map_some, Option.isSome_none, Bool.false_eq_true, if_false] at hs ⊢
        by_cases e : o = t * z + j
        · subst e
          rw [if_pos rfl]
          obtain ⟨h1, h2⟩ := Array.getElem?_eq_some_iff.1 hs
          simp [Array.getElem?_setIfInBounds, h1]
        · rw [if_neg e]
          simp [Array.getElem?_setIfInBounds, Ne.symm e]
      · cases hs
    rw [hput]
    rw [List.getElem?_set] at hd
    by_cases e : t = s
    · subst e
      rw [if_pos rfl, if_pos htl] at hd
      injection hd with hd
      subst hd
      rw [List.getElem?_set] at hu
      by_cases k : j = i
      · subst k
        rw [if_pos rfl, if_pos (by omega)] at hu
        rw [if_pos rfl, h.at_ t c ht j (c[j]'(by omega)) (List.getElem?_eq_getElem _)]
        exact hu
      · rw [if_neg k] at hu
        rw [if_neg (by omega)]
        exact h.at_ t c ht i u hu
    · rw [if_neg e] at hd
      have hi := (List.getElem?_eq_some_iff.1 hu).1
      have hl := h.len d (List.mem_of_getElem? hd)
      have := apart (s := s) (t := t) (z := z) (j := i) (Ne.symm e) (by omega)
      rw [if_neg (by omega)]
      exact h.at_ s d hd i u hu
theorem pod_moved {h : View} {x : Pd} {cs : List Value} (hk : Kd.pod.K h x cs) {to_ : ByteArray} (ht : sok to_) : Kd.pod.K h { x with node := to_ } (cs.set 9 (.string to_)) := by
  obtain ⟨B1, d1, B2, d2, B3, d3, B4, d4, rfl, ⟨h1, h2, h3, -⟩, s1, s2, s3, s4⟩ := hk
  exact ⟨B1, d1, B2, d2, B3, d3, B4, d4, rfl, ⟨h1, h2, h3, ht⟩, s1, s2, s3, s4⟩
def StDone (M : List Nat) (t : St) (w : World) (e : Ending) (w' : World) : Prop := ∃ cs : List Value, e = .returned (.agg cs.toArray) ∧ Kd.state.K (vw w' M) t cs ∧ Below w.heap.size w w'
set_option maxHeartbeats 8000000 in
set_option maxRecDepth 100000 in
theorem Move_calls (v : Value) (s : St) (name to_ : ByteArray) (w : World) {M : List Nat} (hv : Kd.state.V (vw w M) v s) (hl : s.pods.length ≤ 1000) (hto : sok to_) (hM : ∀ b ∈ M, b < w.heap.size := by simp) :
    Calls Tryz.prog 67 #[v, .string name, .string to_] w (StDone M (moveS s name to_) w) := by
  obtain ⟨cs, rfl, A1, c1, A2, c2, A3, c3, rfl, s1, s2, s3⟩ := hv
  have S1 := Lib.hid s1
  have S2 := Lib.hid s2
  have S3 := Lib.hid s3
  have HTO := Lib.hid hto
  clear s1 s2 s3 hto
  go_enter Tryz.func67, Tryz.ntmps67
  go_upto_region 1 with fail
  obtain ⟨W, hW, hbw, k1, k2, hWs⟩ := al2 w (.cells #[.slice A1 s.nodes.length c1, .slice A2 s.pods.length c2, .slice A3 s.budgets.length c3] 26) (.cells #[.slice none 0 0, .slice none 0 0, .slice none 0 0] 26)
  rw [← hW]
  have HB := Lib.hid hbw
  have HK := Lib.hid (And.intro k1 k2)
  obtain ⟨z, zf⟩ := blk_all k1
  clear hW hbw k1 k2
  go_wp2_with fail
  refine (Clone_calls _ s.pods w _ HB.out S2.out hl).mono ?_
  rintro e w1 ⟨hb, hor⟩
  have q1 := (hb.block _ (blk_lt HK.out.1)).trans HK.out.1
  have q2 := (hb.block _ (blk_lt HK.out.2)).trans HK.out.2
  clear z zf
  rcases hor with ⟨h0, A, c, hAc, rfl⟩ | ⟨g, cap, css, hp, rfl, hg, hc1, hc2, hr, hcl, hck⟩
  · have HB2 := Lib.hid (Below.then HB.out hb)
    have HQ := Lib.hid (And.intro q1 q2)
    have HE := Lib.hid h0
    have HAC := Lib.hid hAc
    obtain ⟨z, zf⟩ := blk_all q1
    clear hb q1 q2 h0 hAc
    go_upto_region 2 with fail
    have g1 : (w1.setCell ⟨w.heap.size, 1, none⟩ (.slice A 0 c)).heap[w.heap.size]? = some (.cells #[.slice A1 s.nodes.length c1, .slice A 0 c, .slice A3 s.budgets.length c3] 26 (0, 0)) := blk_set HQ.out.1 (j := 1) (.slice A 0 c)
    have g2 := (Below.heap_setCell w1 ⟨w.heap.size, 1, none⟩ (.slice A 0 c) (w.heap.size + 1) (by show _ ≠ w.heap.size; omega)).trans HQ.out.2
    have HBU : Hid (Below w.heap.size w (w1.setCell ⟨w.heap.size, 1, none⟩ (.slice A 0 c))) := Below.setCell HB2.out (p := ⟨w.heap.size, 1, none⟩) (Nat.le_refl _) _
    generalize w1.setCell ⟨w.heap.size, 1, none⟩ (.slice A 0 c) = U at g1 g2 HBU ⊢
    have HG := Lib.hid (And.intro g1 g2)
    clear z zf
    obtain ⟨z, zf⟩ := blk_all g1
    obtain ⟨y, yf⟩ := blk_all g2
    clear g1 g2
    go_wp2
    go_loopw [16] (fun i wr => i = .int .i64 0 ∧ wr = U) (fun _ _ => 0)
    case atStart => exact ⟨rfl, rfl⟩
    case round =>
      obtain ⟨rfl, rfl⟩ := hrel
      go_wp2
      rw [show (((wr.setCell ⟨w.heap.size + 1, 0, none⟩ (.slice A1 s.nodes.length c1)).setCell ⟨w.heap.size + 1, 1, none⟩ (.slice A 0 c)).setCell ⟨w.heap.size + 1, 2, none⟩ (.slice A3 s.budgets.length c3)) = wr.setCells (w.heap.size + 1) 0 [.slice A1 s.nodes.length c1, .slice A 0 c, .slice A3 s.budgets.length c3] from rfl]
      have hset := setCells_all (cs := [.slice A1 s.nodes.length c1, .slice A 0 c, .slice A3 s.budgets.length c3]) HG.out.2 rfl
      have hbel := Below.setCells HBU.out (show w.heap.size ≤ w.heap.size + 1 by omega) [.slice A1 s.nodes.length c1, .slice A 0 c, .slice A3 s.budgets.length c3] 0
      have hpe : (moveS s name to_).pods = [] := by rw [moveS_pods, HE.out]; rfl
      refine ret_row1 (cs := [.slice A1 s.nodes.length c1, .slice A 0 c, .slice A3 s.budgets.length c3]) rfl rfl hset Tryz.underlying26 rfl (by kernel_rfl) rfl ⟨_, rfl, ⟨A1, c1, A, c, A3, c3, ?_, S1.out.mono (vw_grow hbel (by intro b hb; exact .inl hb)), ?_, S3.out.mono (vw_grow hbel (by intro b hb; exact .inl hb))⟩, hbel⟩
      · rw [hpe]; rfl
      · rw [hpe]; exact Kd.S.empty _ _ _ _ HAC.out
  · have HB2 := Lib.hid (Below.then HB.out hb)
    have HQ := Lib.hid (And.intro q1 q2)
    have HR := Lib.hid hr
    have HCK := Lib.hid hck
    have HCL := Lib.hid hcl
    have hg2 : w.heap.size + 2 ≤ g := by omega
    obtain ⟨z, zf⟩ := blk_all q1
    clear hb q1 q2 hr hck hcl
    go_upto_region 2 with fail
    have g1 : (w1.setCell ⟨w.heap.size, 1, none⟩ (.slice (some ⟨g, 0, none⟩) s.pods.length cap)).heap[w.heap.size]? = some (.cells #[.slice A1 s.nodes.length c1, .slice (some ⟨g, 0, none⟩) s.pods.length cap, .slice A3 s.budgets.length c3] 26 (0, 0)) := blk_set HQ.out.1 (j := 1) _
    have g2 := (Below.heap_setCell w1 ⟨w.heap.size, 1, none⟩ (.slice (some ⟨g, 0, none⟩) s.pods.length cap) (w.heap.size + 1) (by show _ ≠ w.heap.size; omega)).trans HQ.out.2
    have HBU : Hid (Below w.heap.size w (w1.setCell ⟨w.heap.size, 1, none⟩ (.slice (some ⟨g, 0, none⟩) s.pods.length cap))) := Below.setCell HB2.out (p := ⟨w.heap.size, 1, none⟩) (Nat.le_refl _) _
    have HRU := Lib.hid (HR.out.other (w' := w1.setCell ⟨w.heap.size, 1, none⟩ (.slice (some ⟨g, 0, none⟩) s.pods.length cap)) (Below.heap_setCell w1 ⟨w.heap.size, 1, none⟩ _ g (by show _ ≠ w.heap.size; omega)) (by simp [World.setCell]))
    generalize w1.setCell ⟨w.heap.size, 1, none⟩ (.slice (some ⟨g, 0, none⟩) s.pods.length cap) = U at g1 g2 HBU HRU ⊢
    have HG := Lib.hid (And.intro g1 g2)
    clear z zf
    obtain ⟨z, zf⟩ := blk_all g1
    clear g1 g2 HR HB2 HQ
    go_wp2
    clear z zf
    go_loopw [16] (fun i wr => ∃ (k : Nat) (cur : List (List Value)), k ≤ s.pods.length ∧ i = .int .i64 k ∧ cur.length = s.pods.length ∧ Hid (wr.heap[w.heap.size]? = some (.cells #[.slice A1 s.nodes.length c1, .slice (some ⟨g, 0, none⟩) s.pods.length cap, .slice A3 s.budgets.length c3] 26 (0, 0)) ∧ wr.heap[w.heap.size + 1]? = some (.cells #[.slice none 0 0, .slice none 0 0, .slice none 0 0] 26 (0, 0)))
      ∧ Hid (Rw wr g 11 cur) ∧ Hid (∀ (t : Nat) (ht : t < s.pods.length) (hc : t < cur.length), Kd.pod.K (vw w M) (if t < k then mvP name to_ s.pods[t] else s.pods[t]) cur[t]) ∧ Hid (Below w.heap.size w wr)) (fun i _ => s.pods.length - (intOf i).toNat)
    case atStart => exact ⟨0, css, Nat.zero_le _, rfl, HCL.out, HG.out, HRU.out, (fun t ht hc => by rw [if_neg (by omega)]; exact HCK.out t ht hc), HBU.out⟩
    case round =>
      clear HRU HBU HCK HG HCL
      obtain ⟨k, cur, hk, rfl, hcl, HG, HR, HCK, HBX⟩ := hrel
      have HCL := Lib.hid hcl
      by_cases hlt : k < s.pods.length
      · have hlc : k < cur.length := by omega
        have hkk := HCK.out k hlt hlc
        rw [if_neg (by omega)] at hkk
        obtain ⟨cx, hcx⟩ : ∃ cx, cur[k] = cx := ⟨_, rfl⟩
        have hget : cur[k]? = some cx := by rw [List.getElem?_eq_getElem hlc, hcx]
        rw [hcx] at hkk
        obtain ⟨x, hx⟩ : ∃ x, s.pods[k] = x := ⟨_, rfl⟩
        rw [hx] at hkk
        have HX := Lib.hid hx
        have HKX := Lib.hid hkk
        have HGET := Lib.hid hget
        obtain ⟨B1, d1, B2, d2, B3, d3, B4, d4, rfl, -⟩ := hkk
        have HC : Hid (wr.rangeAt g (k * 11) _) := HR.out.at_ k _ hget
        have e1 := eq_beq x.name name
        obtain ⟨m, hm⟩ : ∃ m, decide (x.name = name) = m := ⟨_, rfl⟩
        rw [hm] at e1
        have HM := Lib.hid hm
        have hwr := HBX.out.size
        clear hx hget hcx hm
        have HV := Lib.hid (alloc_below wr (.cells #[.string x.name, .string x.owner, .int .i64 x.prio, .slice B1 x.need.length d1, .slice B2 x.labels.length d2, .slice B3 x.sel.length d3, .slice B4 x.tols.length d4, .string x.key, .int .i64 x.most, .string x.node, .bool x.hold] 35))
        have hy := blk_last wr (.cells #[.string x.name, .string x.owner, .int .i64 x.prio, .slice B1 x.need.length d1, .slice B2 x.labels.length d2, .slice B3 x.sel.length d3, .slice B4 x.tols.length d4, .string x.key, .int .i64 x.most, .string x.node, .bool x.hold] 35)
        go_upto_region 5 with (with_reducible refine wpList_load_mid rfl 35 _ rfl g (k * 11) rfl _ _ HC.out Tryz.underlying35 rfl (by kernel_rfl) ?_)
        generalize wr.alloc (.cells #[.string x.name, .string x.owner, .int .i64 x.prio, .slice B1 x.need.length d1, .slice B2 x.labels.length d2, .slice B3 x.sel.length d3, .slice B4 x.tols.length d4, .string x.key, .int .i64 x.most, .string x.node, .bool x.hold] 35) = V at HV hy ⊢
        have HRV := Lib.hid (HR.out.below HV.out)
        have HBV := Lib.hid (Below.then HBX.out HV.out)
        have g1 := (HV.out.block _ (blk_lt HG.out.1)).trans HG.out.1
        have g2 := (HV.out.block _ (blk_lt HG.out.2)).trans HG.out.2
        have HGV := Lib.hid (And.intro g1 g2)
        obtain ⟨z, zf⟩ := blk_all g1
        obtain ⟨y, yf⟩ := blk_all hy
        clear g1 g2 hy HC HR HG HBX
        cases m with
        | false =>
          have hne : ¬ x.name = name := of_decide_eq_false HM.out
          have HCK2 : Hid (∀ (t : Nat) (ht : t < s.pods.length) (hc : t < cur.length), Kd.pod.K (vw w M) (if t < k + 1 then mvP name to_ s.pods[t] else s.pods[t]) cur[t]) := fun t ht hc => by
            by_cases e : t = k
            · subst e
              have := HCK.out t ht hc
              rw [if_neg (by omega)] at this
              rw [if_pos (by omega), HX.out]
              unfold mvP
              rw [if_neg hne, ← HX.out]
              exact this
            · have := HCK.out t ht hc
              by_cases e2 : t < k
              · rw [if_pos e2] at this; rw [if_pos (by omega)]; exact this
              · rw [if_neg e2] at this; rw [if_neg (by omega)]; exact this
          clear hne
          go_wp2
          go_roundw
          case rel => exact ⟨k + 1, cur, by omega, by go_num, HCL.out, HGV.out, HRV.out, HCK2.out, HBV.out⟩
          case measure => simp [intOf]; omega
        | true =>
          have he : x.name = name := of_decide_eq_true HM.out
          have HCK2 : Hid (∀ (t : Nat) (ht : t < s.pods.length) (hc : t < (cur.set k ([Value.string x.name, .string x.owner, .int .i64 x.prio, .slice B1 x.need.length d1, .slice B2 x.labels.length d2, .slice B3 x.sel.length d3, .slice B4 x.tols.length d4, .string x.key, .int .i64 x.most, .string x.node, .bool x.hold].set 9 (.string to_))).length), Kd.pod.K (vw w M) (if t < k + 1 then mvP name to_ s.pods[t] else s.pods[t]) (cur.set k ([Value.string x.name, .string x.owner, .int .i64 x.prio, .slice B1 x.need.length d1, .slice B2 x.labels.length d2, .slice B3 x.sel.length d3, .slice B4 x.tols.length d4, .string x.key, .int .i64 x.most, .string x.node, .bool x.hold].set 9 (.string to_)))[t]) := fun t ht hc => by
            by_cases e : t = k
            · subst e
              rw [if_pos (by omega), HX.out, List.getElem_set_self]
              unfold mvP
              rw [if_pos he]
              exact pod_moved HKX.out HTO.out
            · rw [List.getElem_set_ne (Ne.symm e)]
              have := HCK.out t ht (by rw [List.length_set] at hc; exact hc)
              by_cases e2 : t < k
              · rw [if_pos e2] at this; rw [if_pos (by omega)]; exact this
              · rw [if_neg e2] at this; rw [if_neg (by omega)]; exact this
          have c9 : V.cell? ⟨g, k * 11 + 9, none⟩ = some (.string x.node) := HRV.out.at_ k _ HGET.out 9 _ rfl
          have f9 : V.frozen? ⟨g, k * 11 + 9, none⟩ = false := HRV.out.free _
          have HRP := Lib.hid (HRV.out.put HGET.out (j := 9) (by decide) (.string to_))
          have HBP : Hid (Below w.heap.size w (V.setCell ⟨g, k * 11 + 9, none⟩ (.string to_))) := Below.setCell HBV.out (p := ⟨g, k * 11 + 9, none⟩) (by show _ ≤ g; omega) _
          have HGP : Hid ((V.setCell ⟨g, k * 11 + 9, none⟩ (.string to_)).heap[w.heap.size]? = _ ∧ (V.setCell ⟨g, k * 11 + 9, none⟩ (.string to_)).heap[w.heap.size + 1]? = _) :=
            ⟨(Below.heap_setCell V ⟨g, k * 11 + 9, none⟩ _ w.heap.size (by show _ ≠ g; omega)).trans HGV.out.1, (Below.heap_setCell V ⟨g, k * 11 + 9, none⟩ _ (w.heap.size + 1) (by show _ ≠ g; omega)).trans HGV.out.2⟩
          clear he
          go_wp2
          go_roundw
          case rel => exact ⟨k + 1, _, by omega, by go_num, by rw [List.length_set]; exact HCL.out, HGP.out, HRP.out, HCK2.out, HBP.out⟩
          case measure => simp [intOf]; omega
      · obtain rfl : k = s.pods.length := by omega
        obtain ⟨z, zf⟩ := blk_all HG.out.1
        obtain ⟨y, yf⟩ := blk_all HG.out.2
        go_wp2
        rw [show (((wr.setCell ⟨w.heap.size + 1, 0, none⟩ (.slice A1 s.nodes.length c1)).setCell ⟨w.heap.size + 1, 1, none⟩ (.slice (some ⟨g, 0, none⟩) s.pods.length cap)).setCell ⟨w.heap.size + 1, 2, none⟩ (.slice A3 s.budgets.length c3)) = wr.setCells (w.heap.size + 1) 0 [.slice A1 s.nodes.length c1, .slice (some ⟨g, 0, none⟩) s.pods.length cap, .slice A3 s.budgets.length c3] from rfl]
        have hset := setCells_all (cs := [.slice A1 s.nodes.length c1, .slice (some ⟨g, 0, none⟩) s.pods.length cap, .slice A3 s.budgets.length c3]) HG.out.2 rfl
        have hbel := Below.setCells HBX.out (show w.heap.size ≤ w.heap.size + 1 by omega) [.slice A1 s.nodes.length c1, .slice (some ⟨g, 0, none⟩) s.pods.length cap, .slice A3 s.budgets.length c3] 0
        have hoth := HR.out.other (w' := wr.setCells (w.heap.size + 1) 0 [.slice A1 s.nodes.length c1, .slice (some ⟨g, 0, none⟩) s.pods.length cap, .slice A3 s.budgets.length c3]) (setCells_far _ _ _ _ _ (by omega)) (by rw [setCells_size]; exact Nat.le_refl _)
        have hpl : (moveS s name to_).pods.length = s.pods.length := by rw [moveS_pods, List.length_map]
        refine ret_row1 (cs := [.slice A1 s.nodes.length c1, .slice (some ⟨g, 0, none⟩) s.pods.length cap, .slice A3 s.budgets.length c3]) rfl rfl hset Tryz.underlying26 rfl (by kernel_rfl) rfl ⟨_, rfl, ⟨A1, c1, some ⟨g, 0, none⟩, cap, A3, c3, ?_, S1.out.mono (vw_grow hbel (by intro b hb; exact .inl hb)), ?_, S3.out.mono (vw_grow hbel (by intro b hb; exact .inl hb))⟩, hbel⟩
        · rw [hpl]; rfl
        · refine Rw.S (d := Kd.pod) (fun hm => by have := hM _ hm; omega) hoth (by rw [hpl, HCL.out]; exact Nat.le_refl _) (fun t ht => ?_) (by rw [hpl]; exact hc1) (by rw [hpl]; omega)
          have ht' : t < s.pods.length := by rw [← hpl]; exact ht
          have := HCK.out t ht' (by rw [HCL.out]; exact ht')
          rw [if_pos ht'] at this
          have e : (moveS s name to_).pods[t] = mvP name to_ s.pods[t] := by simp only [moveS_pods, List.getElem_map]
          rw [e]
          exact Kd.pod.mono (vw_grow hbel (by intro b hb; exact .inl hb)) this
end Go.Proofs.YtnmhicgbdalniaaGreatDoor
namespace Go.Proofs.YtnmhicgbdalniaaGreatDoor
open Go.RowKit Go.Sort

/-! with, On, Drop: the reference's side. -/
set_option maxHeartbeats 2000000 in
set_option maxRecDepth 100000 in
theorem RWith_calls (A1 A2 A3 L : Option Addr) (n1 c1 n2 c2 n3 c3 n c : Nat) (w : World) :
    Calls Tryz.prog 169 #[.agg #[.slice A1 n1 c1, .slice A2 n2 c2, .slice A3 n3 c3], .slice L n c] w (fun e w' => e = .returned (.agg #[.slice A1 n1 c1, .slice L n c, .slice A3 n3 c3]) ∧ Below w.heap.size w w') := by
  go_enter Tryz.func169, Tryz.ntmps169
  go_upto_region 1 with fail
  obtain ⟨W, hW, hbw, k1, k2, hWs⟩ := al2 w (.cells #[.slice A1 n1 c1, .slice A2 n2 c2, .slice A3 n3 c3] 51) (.cells #[.slice none 0 0, .slice none 0 0, .slice none 0 0] 51)
  rw [← hW]
  have HB := Lib.hid hbw
  have HK2 := Lib.hid k2
  obtain ⟨z, zf⟩ := blk_all k1
  obtain ⟨y, yf⟩ := blk_all k2
  clear hW hbw k1 k2
  go_wp2
  have hbel := Below.setCell (Below.setCell (Below.setCell HB.out (p := ⟨w.heap.size + 1, 0, none⟩) (Nat.le_succ _) (.slice A1 n1 c1)) (p := ⟨w.heap.size + 1, 1, none⟩) (Nat.le_succ _) (.slice L n c)) (p := ⟨w.heap.size + 1, 2, none⟩) (Nat.le_succ _) (.slice A3 n3 c3)
  exact ret_row1 (cs := [.slice A1 n1 c1, .slice L n c, .slice A3 n3 c3]) rfl rfl ((blk_set (blk_set (blk_set HK2.out _) _) _).trans rfl) Tryz.underlying51 rfl (by kernel_rfl) rfl ⟨rfl, hbel⟩
def notB (name : ByteArray) (p : Pd) : Bool := !isNm name p
theorem dropS_pods (s : St) (name : ByteArray) : (dropS s name).pods = s.pods.filter (notB name) := rfl
theorem filt_snoc (p : Pd → Bool) {l : List Pd} {k : Nat} (h : k < l.length) : (l.take (k + 1)).filter p = (l.take k).filter p ++ (if p l[k] = true then [l[k]] else []) := by
  rw [List.take_succ_eq_append_getElem h, List.filter_append, List.filter_cons, List.filter_nil]
theorem filt_le (p : Pd → Bool) (l : List Pd) (k : Nat) : ((l.take k).filter p).length ≤ k := Nat.le_trans (List.length_filter_le _ _) (by rw [List.length_take]; omega)
set_option maxHeartbeats 8000000 in
set_option maxRecDepth 100000 in
theorem ROn_calls (vs : Value) (s : St) (name : ByteArray) (w : World) (hs : Kd.state.V (vw w []) vs s) (hpn : s.pods.length ≤ 1000) :
    Calls Tryz.prog 111 #[vs, .string name] w (PodsNew (onV s name) w) := by
  obtain ⟨i0, hi, hz0, hz1, hz2⟩ := info_parts info_OfAll7
  obtain ⟨cs, rfl, hks⟩ := hs
  obtain ⟨A1, c1, A2, c2, A3, c3, rfl, s1, s2, s3⟩ := hks
  obtain ⟨-, f2, f2'⟩ := s2.form
  have S1 := Lib.hid s1
  have S2 := Lib.hid s2
  have S3 := Lib.hid s3
  clear s1 s2 s3
  go_enter Tryz.func111, Tryz.ntmps111
  go_upto_region 1 with fail
  have hbw := alloc_below w (.cells #[.slice A1 s.nodes.length c1, .slice A2 s.pods.length c2, .slice A3 s.budgets.length c3] 51)
  have hk := blk_last w (.cells #[.slice A1 s.nodes.length c1, .slice A2 s.pods.length c2, .slice A3 s.budgets.length c3] 51)
  generalize w.alloc (.cells #[.slice A1 s.nodes.length c1, .slice A2 s.pods.length c2, .slice A3 s.budgets.length c3] 51) = W at hbw hk ⊢
  have HK := Lib.hid hk
  obtain ⟨z, zf⟩ := blk_all hk
  have HBW := Lib.hid hbw
  clear hbw hk
  go_wp2
  clear z zf
  have e2 := empty_beq name
  go_loopw [5, 6] (fun o i wr => ∃ k : Nat, k ≤ s.pods.length ∧ i = .int .i64 k ∧ Hid (Kd.pod.Row0 w [] wr W.heap.size 45 o ((s.pods.take k).filter (onP name))) ∧ Hid (Below W.heap.size W wr)) (fun _ i _ => s.pods.length - (intOf i).toNat)
  case atStart => exact ⟨0, Nat.zero_le _, rfl, Kd.Row0.nil _ _ _ _ _ _, Below.refl _ _⟩
  case round =>
    obtain ⟨k, hk, rfl, HO, HBX⟩ := hrel
    have HB := Lib.hid (Below.then HBW.out HBX.out)
    obtain ⟨z, zf⟩ := blk_all ((HBX.out.block _ (blk_lt HK.out)).trans HK.out)
    by_cases hlt : k < s.pods.length
    · have hsn := filt_snoc (onP name) hlt
      have hle := filt_le (onP name) s.pods k
      obtain ⟨b, off, cs, rfl, hn, hc⟩ := S2.out.bothM HB.out k hlt
      obtain ⟨x, hx⟩ : ∃ x, s.pods[k] = x := ⟨_, rfl⟩
      obtain ⟨out, hout⟩ : ∃ out, (s.pods.take k).filter (onP name) = out := ⟨_, rfl⟩
      rw [hx] at hn hsn
      rw [hout] at hsn hle HO
      have HKX := Lib.hid hn
      obtain ⟨B1, d1, B2, d2, B3, d3, B4, d4, rfl, -⟩ := hn
      have HC : Hid (wr.rangeAt b (off + k * 11) _) := hc
      have HSN := Lib.hid hsn
      have c0 : wr.cell? ⟨b, off + k * 11 + 9, none⟩ = some (.string x.node) := hc 9 _ rfl
      have e1 := eq_beq x.node name
      have hon : (onP name) x = (decide (x.node = name) && !decide (name = ⟨#[]⟩)) := rfl
      obtain ⟨a, ha⟩ : ∃ a, decide (x.node = name) = a := ⟨_, rfl⟩
      rw [ha] at e1 hon
      obtain ⟨d, hd⟩ : ∃ d, decide (name = ⟨#[]⟩) = d := ⟨_, rfl⟩
      rw [hd] at e2 hon
      clear hd
      have HON := Lib.hid hon
      clear hc hsn hx hout ha hon HB
      have hsz := HBX.out.size
      cases a with
      | false =>
        have hn : (onP name) x = false := by rw [HON.out]; rfl
        have HS : Hid ((s.pods.take (k + 1)).filter (onP name) = out) := by
          show _ = _
          rw [HSN.out, hn]; simp
        clear hn
        go_wp2
        go_roundw
        case rel => exact ⟨k + 1, by omega, by go_num, by rw [HS.out]; exact HO.out, HBX.out⟩
        case measure => simp [intOf]; omega
      | true =>
        cases d with
        | true =>
          have hn : (onP name) x = false := by rw [HON.out]; rfl
          have HS : Hid ((s.pods.take (k + 1)).filter (onP name) = out) := by
            show _ = _
            rw [HSN.out, hn]; simp
          clear hn
          go_wp2
          go_roundw
          case rel => exact ⟨k + 1, by omega, by go_num, by rw [HS.out]; exact HO.out, HBX.out⟩
          case measure => simp [intOf]; omega
        | false =>
          have hn : (onP name) x = true := by rw [HON.out]; rfl
          have HS : Hid ((s.pods.take (k + 1)).filter (onP name) = out ++ [x]) := by
            show _ = _
            rw [HSN.out, hn]; simp
          clear hn
          have HRO := Lib.hid (row0_ge HO.out)
          go_upto_region 6 with fail
          go_wp2_with (first | (with_reducible refine wpList_load_mid rfl 45 _ rfl b (off + k * 11) rfl _ _ HC.out Tryz.underlying45 rfl (by kernel_rfl) ?_) | (at_builtin; go_must (refine wpList_row0 (d := Kd.pod) (x := x) _ w [] W.heap.size 48 45 i0 _ 184 Tryz.underlying48 hi hz0 hz1 hz2 rfl (by decide) _ out _ (HO.out.below (alloc_below _ _)) HKX.out _ 1 45 (blk_last _ _) (by simp [Value.oneCell']) (by simp only [maxLen]; omega) (by omega) (by simp; omega) _ _ rfl rfl rfl rfl ?_)))
          intro v2 w2 ho2 hg2
          have HO3 := Lib.hid ho2
          have HB3 : Hid (Below W.heap.size W w2) := grown_then HBX.out (alloc_below _ _) hg2 HRO.out
          clear ho2 hg2
          go_wp2
          go_roundw
          case rel => exact ⟨k + 1, by omega, by go_num, by rw [HS.out]; exact HO3.out, HB3.out⟩
          case measure => simp [intOf]; omega
    · obtain rfl : k = s.pods.length := by omega
      have ho := HO.out
      rw [List.take_length] at ho
      have hl := filt_le (onP name) s.pods s.pods.length
      rw [List.take_length] at hl
      have hge := row0_ge ho
      have hws := HBW.out.size
      have h0 := HO.out
      rw [List.take_length] at h0
      have HO0 := Lib.hid h0
      obtain ⟨G, gc, rfl, hS⟩ := ((ho.own HB.out hws).S (Nat.zero_le _) (by omega)).val
      have HS := Lib.hid (Kd.S.mono (nx_vw0 _) hS)
      clear h0
      have HGE : Hid (∀ ad, G = some ad → w.heap.size ≤ ad.block) := fun ad had => Nat.le_trans hws (hge ad.block (by rw [had]; rfl))
      clear ho hS HO hge
      go_wp2
      go_ret
      exact ⟨G, gc, rfl, HS.out, HB.out, HGE.out⟩
set_option maxHeartbeats 8000000 in
set_option maxRecDepth 100000 in
theorem RDrop_calls (vs : Value) (s : St) (name : ByteArray) (w : World) {M : List Nat} (hs : Kd.state.V (vw w M) vs s) (hpn : s.pods.length ≤ 1000) (hM : ∀ b ∈ M, b < w.heap.size := by simp) :
    Calls Tryz.prog 90 #[vs, .string name] w (DropDone M s name w) := by
  obtain ⟨i0, hi, hz0, hz1, hz2⟩ := info_parts info_OfAll7
  obtain ⟨cs, rfl, hks⟩ := hs
  obtain ⟨A1, c1, A2, c2, A3, c3, rfl, s1, s2, s3⟩ := hks
  obtain ⟨-, f2, f2'⟩ := s2.form
  have S1 := Lib.hid s1
  have S2 := Lib.hid s2
  have S3 := Lib.hid s3
  clear s1 s2 s3
  go_enter Tryz.func90, Tryz.ntmps90
  go_upto_region 1 with fail
  obtain ⟨W, hW, hbw, hk, hk2, hWs⟩ := al2 w (.cells #[.slice A1 s.nodes.length c1, .slice A2 s.pods.length c2, .slice A3 s.budgets.length c3] 51) (.cells #[.slice none 0 0, .slice none 0 0, .slice none 0 0] 51)
  rw [← hW]
  have HK := Lib.hid hk
  have HK2 := Lib.hid hk2
  have HWS := Lib.hid hWs
  clear hW hk2 hWs
  obtain ⟨z, zf⟩ := blk_all hk
  have HBW := Lib.hid hbw
  clear hbw hk
  go_wp2
  clear z zf
  go_loopw [5, 6] (fun o i wr => ∃ k : Nat, k ≤ s.pods.length ∧ i = .int .i64 k ∧ Hid (Kd.pod.Row0 w M wr W.heap.size 45 o ((s.pods.take k).filter (notB name))) ∧ Hid (Below W.heap.size W wr)) (fun _ i _ => s.pods.length - (intOf i).toNat)
  case atStart => exact ⟨0, Nat.zero_le _, rfl, Kd.Row0.nil _ _ _ _ _ _, Below.refl _ _⟩
  case round =>
    obtain ⟨k, hk, rfl, HO, HBX⟩ := hrel
    have HB := Lib.hid (Below.then HBW.out HBX.out)
    obtain ⟨z, zf⟩ := blk_all ((HBX.out.block _ (blk_lt HK.out)).trans HK.out)
    by_cases hlt : k < s.pods.length
    · have hsn := filt_snoc (notB name) hlt
      have hle := filt_le (notB name) s.pods k
      obtain ⟨b, off, cs, rfl, hn, hc⟩ := S2.out.bothM HB.out k hlt
      obtain ⟨x, hx⟩ : ∃ x, s.pods[k] = x := ⟨_, rfl⟩
      obtain ⟨out, hout⟩ : ∃ out, (s.pods.take k).filter (notB name) = out := ⟨_, rfl⟩
      rw [hx] at hn hsn
      rw [hout] at hsn hle HO
      have HKX := Lib.hid hn
      obtain ⟨B1, d1, B2, d2, B3, d3, B4, d4, rfl, -⟩ := hn
      have HC : Hid (wr.rangeAt b (off + k * 11) _) := hc
      have HSN := Lib.hid hsn
      have c0 : wr.cell? ⟨b, off + k * 11, none⟩ = some (.string x.name) := hc 0 _ rfl
      have e1 := eq_beq x.name name
      have hon : (notB name) x = (!decide (x.name = name)) := rfl
      obtain ⟨a, ha⟩ : ∃ a, decide (x.name = name) = a := ⟨_, rfl⟩
      rw [ha] at e1 hon
      have HON := Lib.hid hon
      clear hc hsn hx hout ha hon HB
      have hsz := HBX.out.size
      cases a with
      | true =>
        have hn : (notB name) x = false := by rw [HON.out]; rfl
        have HS : Hid ((s.pods.take (k + 1)).filter (notB name) = out) := by
          show _ = _
          rw [HSN.out, hn]; simp
        clear hn
        go_wp2
        go_roundw
        case rel => exact ⟨k + 1, by omega, by go_num, by rw [HS.out]; exact HO.out, HBX.out⟩
        case measure => simp [intOf]; omega
      | false =>
        have hn : (notB name) x = true := by rw [HON.out]; rfl
        have HS : Hid ((s.pods.take (k + 1)).filter (notB name) = out ++ [x]) := by
          show _ = _
          rw [HSN.out, hn]; simp
        clear hn
        have HRO := Lib.hid (row0_ge HO.out)
        go_upto_region 6 with fail
        go_wp2_with (first | (with_reducible refine wpList_load_mid rfl 45 _ rfl b (off + k * 11) rfl _ _ HC.out Tryz.underlying45 rfl (by kernel_rfl) ?_) | (at_builtin; go_must (refine wpList_row0 (d := Kd.pod) (x := x) _ w M W.heap.size 48 45 i0 _ 184 Tryz.underlying48 hi hz0 hz1 hz2 rfl (by decide) _ out _ (HO.out.below (alloc_below _ _)) HKX.out _ 1 45 (blk_last _ _) (by simp [Value.oneCell']) (by simp only [maxLen]; omega) (by omega) (by simp; omega) _ _ rfl rfl rfl rfl ?_)))
        intro v2 w2 ho2 hg2
        have HO3 := Lib.hid ho2
        have HB3 : Hid (Below W.heap.size W w2) := grown_then HBX.out (alloc_below _ _) hg2 HRO.out
        clear ho2 hg2
        go_wp2
        go_roundw
        case rel => exact ⟨k + 1, by omega, by go_num, by rw [HS.out]; exact HO3.out, HB3.out⟩
        case measure => simp [intOf]; omega
    · obtain rfl : k = s.pods.length := by omega
      have ho := HO.out
      rw [List.take_length] at ho
      have hl := filt_le (notB name) s.pods s.pods.length
      rw [List.take_length] at hl
      have hge := row0_ge ho
      have hws := HBW.out.size
      have h0 := HO.out
      rw [List.take_length] at h0
      have HO0 := Lib.hid h0
      obtain ⟨G, gc, rfl, hS⟩ := ((ho.own HB.out hws).S (Nat.zero_le _) (by omega)).val
      have HS := Lib.hid (Kd.S.mono (nx_vw0 _) hS)
      clear h0
      have q2 := Lib.hid ((HBX.out.block _ (blk_lt HK2.out)).trans HK2.out)
      clear ho hS HO hge
      go_wp2_with fail
      refine (RWith_calls A1 A2 A3 G _ c1 _ c2 _ c3 _ gc _).mono ?_
      rintro e w2 ⟨rfl, hb⟩
      have HQ2 := Lib.hid ((hb.block _ (blk_lt q2.out)).trans q2.out)
      have HB2 := Lib.hid (Below.then HB.out hb)
      have HBC := Lib.hid hb
      clear hb q2 z zf
      obtain ⟨z, zf⟩ := blk_all HQ2.out
      go_wp2
      have hbel := Below.setCell (Below.setCell (Below.setCell HB2.out (p := ⟨w.heap.size + 1, 0, none⟩) (Nat.le_succ _) (.slice A1 s.nodes.length c1)) (p := ⟨w.heap.size + 1, 1, none⟩) (Nat.le_succ _) (.slice G (s.pods.filter (notB name)).length gc)) (p := ⟨w.heap.size + 1, 2, none⟩) (Nat.le_succ _) (.slice A3 s.budgets.length c3)
      have hWs := HWS.out
      have hfin := (((HO0.out.below HBC.out).setCell (p := ⟨w.heap.size + 1, 0, none⟩) (show w.heap.size + 1 < W.heap.size by rw [hWs]; omega) (.slice A1 s.nodes.length c1)).setCell (p := ⟨w.heap.size + 1, 1, none⟩) (show w.heap.size + 1 < W.heap.size by rw [hWs]; omega) (.slice G (s.pods.filter (notB name)).length gc)).setCell (p := ⟨w.heap.size + 1, 2, none⟩) (show w.heap.size + 1 < W.heap.size by rw [hWs]; omega) (.slice A3 s.budgets.length c3)
      have hfs := hfin.S hbel hws (fun b hb => Nat.lt_of_lt_of_le (hM b hb) hws) (by omega)
      exact ret_row1 (cs := [.slice A1 s.nodes.length c1, .slice G (s.pods.filter (notB name)).length gc, .slice A3 s.budgets.length c3]) rfl rfl ((blk_set (blk_set (blk_set HQ2.out _) _) _).trans rfl) Tryz.underlying51 rfl (by kernel_rfl) rfl ⟨_, rfl, ⟨_, rfl, A1, c1, G, gc, A3, c3, rfl, S1.out.mono (vw_below hbel), hfs, S3.out.mono (vw_below hbel)⟩, hbel⟩
end Go.Proofs.YtnmhicgbdalniaaGreatDoor
namespace Go.Proofs.YtnmhicgbdalniaaGreatDoor
open Go.RowKit Go.Sort

/-! Fit: the reference's side. -/
set_option maxHeartbeats 8000000 in
set_option maxRecDepth 100000 in
theorem RFit_calls (vs vp : Value) (s : St) (p : Pd) (name : ByteArray) (w : World) (hs : Kd.state.V (vw w []) vs s) (hp : Kd.pod.V (vw w []) vp p) (hn : s.nodes.length ≤ 1000) (hpn : s.pods.length ≤ 1000) :
    Calls Tryz.prog 57 #[vs, vp, .string name] w (NumDone (fitV s p name) w) := by
  obtain ⟨cs, rfl, hks⟩ := hs
  obtain ⟨cp, rfl, hkp⟩ := hp
  have HKS := Lib.hid hks
  have HKP := Lib.hid hkp
  obtain ⟨A1, c1, A2, c2, A3, c3, rfl, -⟩ := hks
  obtain ⟨P1, p1, P2, p2, P3, p3, P4, p4, rfl, -⟩ := hkp
  go_enter Tryz.func57, Tryz.ntmps57
  go_upto_region 1 with fail
  obtain ⟨W, hW, hbw, k1, k2, hWs⟩ := al2 w (.cells #[.slice A1 s.nodes.length c1, .slice A2 s.pods.length c2, .slice A3 s.budgets.length c3] 51) (.cells #[.string p.name, .string p.owner, .int .i64 p.prio, .slice P1 p.need.length p1, .slice P2 p.labels.length p2, .slice P3 p.sel.length p3, .slice P4 p.tols.length p4, .string p.key, .int .i64 p.most, .string p.node, .bool p.hold] 45)
  rw [← hW]
  have HBW := Lib.hid hbw
  have HK := Lib.hid (And.intro k1 k2)
  have hv : Kd.state.V (vw W [w.heap.size]) (.agg #[.slice A1 s.nodes.length c1, .slice A2 s.pods.length c2, .slice A3 s.budgets.length c3]) s := ⟨_, rfl, Kd.state.mono (vw_grow hbw (by simp)) HKS.out⟩
  have HV := Lib.hid hv
  obtain ⟨z, zf⟩ := blk_all k1
  obtain ⟨y, yf⟩ := blk_all k2
  clear hbw k1 k2 hW hv
  go_wp2_with fail
  refine (RDrop_calls _ s p.name _ HV.out hpn (by simp; omega)).mono ?_
  rintro e w1 ⟨cs, rfl, ⟨cs', e2, hk⟩, hb⟩
  obtain rfl : cs' = cs := by simpa using e2.symm
  clear e2
  have q1 := (hb.block _ (blk_lt HK.out.1)).trans HK.out.1
  have q2 := (hb.block _ (blk_lt HK.out.2)).trans HK.out.2
  have HK1 := Lib.hid (And.intro q1 q2)
  have hdl : (dropS s p.name).pods.length ≤ s.pods.length := List.length_filter_le _ _
  have hdn : (dropS s p.name).nodes.length ≤ 1000 := hn
  have hfv : fitV s p name = fitD (dropS s p.name) p name := rfl
  obtain ⟨t, ht⟩ : ∃ t, dropS s p.name = t := ⟨_, rfl⟩
  rw [ht] at hk hdl hdn hfv
  have HKD := Lib.hid hk
  have HB2 := Lib.hid (Below.then HBW.out hb)
  have HFV := Lib.hid hfv
  obtain ⟨E1, x1, E2, x2, E3, x3, rfl, -⟩ := hk
  clear z zf y yf hb ht hfv
  obtain ⟨z, zf⟩ := blk_all q1
  clear q1 q2
  go_upto_region 2 with fail
  rw [show (((w1.setCell ⟨w.heap.size, 0, none⟩ (.slice E1 t.nodes.length x1)).setCell ⟨w.heap.size, 1, none⟩ (.slice E2 t.pods.length x2)).setCell ⟨w.heap.size, 2, none⟩ (.slice E3 t.budgets.length x3)) = w1.setCells w.heap.size 0 [.slice E1 t.nodes.length x1, .slice E2 t.pods.length x2, .slice E3 t.budgets.length x3] from rfl]
  have kU1 := setCells_all (cs := [.slice E1 t.nodes.length x1, .slice E2 t.pods.length x2, .slice E3 t.budgets.length x3]) HK1.out.1 rfl
  have kU2 := (setCells_far w.heap.size [.slice E1 t.nodes.length x1, .slice E2 t.pods.length x2, .slice E3 t.budgets.length x3] 0 w1 (w.heap.size + 1) (by omega)).trans HK1.out.2
  have hbU := Below.setCells HB2.out (Nat.le_refl _) [.slice E1 t.nodes.length x1, .slice E2 t.pods.length x2, .slice E3 t.budgets.length x3] 0
  have hkU : Kd.state.K (vw (w1.setCells w.heap.size 0 [.slice E1 t.nodes.length x1, .slice E2 t.pods.length x2, .slice E3 t.budgets.length x3]) []) t [.slice E1 t.nodes.length x1, .slice E2 t.pods.length x2, .slice E3 t.budgets.length x3] := Kd.state.mono (View.le_trans (vw_setCells (List.mem_singleton.2 rfl) _ _) (vw_sub (by simp))) HKD.out
  generalize w1.setCells w.heap.size 0 [.slice E1 t.nodes.length x1, .slice E2 t.pods.length x2, .slice E3 t.budgets.length x3] = U0 at kU1 kU2 hbU hkU ⊢
  have hkpU := Kd.pod.mono (vw_below hbU) HKP.out
  clear HBW HV HK HK1 HKD HB2 z zf
  have HBW := Lib.hid hbU
  have HVS : Hid (Kd.state.V (vw U0 []) (.agg #[.slice E1 t.nodes.length x1, .slice E2 t.pods.length x2, .slice E3 t.budgets.length x3]) t) := ⟨_, rfl, hkU⟩
  have HVP : Hid (Kd.pod.V (vw U0 []) (.agg #[.string p.name, .string p.owner, .int .i64 p.prio, .slice P1 p.need.length p1, .slice P2 p.labels.length p2, .slice P3 p.sel.length p3, .slice P4 p.tols.length p4, .string p.key, .int .i64 p.most, .string p.node, .bool p.hold]) p) := ⟨_, rfl, hkpU⟩
  have HK : Hid (U0.heap[w.heap.size]? = some (.cells #[.slice E1 t.nodes.length x1, .slice E2 t.pods.length x2, .slice E3 t.budgets.length x3] 51 (0, 0)) ∧ U0.heap[w.heap.size + 1]? = some (.cells #[.string p.name, .string p.owner, .int .i64 p.prio, .slice P1 p.need.length p1, .slice P2 p.labels.length p2, .slice P3 p.sel.length p3, .slice P4 p.tols.length p4, .string p.key, .int .i64 p.most, .string p.node, .bool p.hold] 45 (0, 0))) := ⟨kU1, kU2⟩
  obtain ⟨E1', x1', E2', x2', E3', x3', ee, s1, -⟩ := hkU
  obtain ⟨P1', p1', P2', p2', P3', p3', P4', p4', pe, -, n1, -, n3, n4⟩ := hkpU
  cases ee
  cases pe
  have S1 := Lib.hid s1
  have N1 := Lib.hid n1
  have N3 := Lib.hid n3
  have N4 := Lib.hid n4
  have l0 := blk_lt kU1
  have l2 := blk_lt kU2
  have HB := Lib.hid (Below.refl U0.heap.size U0)
  clear hbU kU1 kU2 s1 n1 n3 n4
  obtain ⟨R, hR⟩ : ∃ R, fitV s p name = R := ⟨_, rfl⟩
  have HRV := Lib.hid hR
  rw [HFV.out] at hR
  unfold fitD at hR
  have g0 := (HB.out.block _ l0).trans HK.out.1
  have g2' := (HB.out.block _ l2).trans HK.out.2
  obtain ⟨z, zf⟩ := blk_all g0
  obtain ⟨y, yf⟩ := blk_all g2'
  clear g0 g2'
  go_wp2_with fail
  refine (FindNode_calls _ t.nodes name _ S1.out).mono ?_
  rintro e w1 ⟨cs, rfl, hk, hb⟩
  obtain ⟨D1, g1, D2, g2, D3, g3, rfl, -, -, hd2, hd3⟩ := hk
  obtain ⟨nd, hnd⟩ : ∃ nd, (findV t.nodes name).1 = nd := ⟨_, rfl⟩
  obtain ⟨fk, hfk⟩ : ∃ fk, (findV t.nodes name).2 = fk := ⟨_, rfl⟩
  obtain ⟨m, hm⟩ : ∃ m, matchV p.sel nd.labels = m := ⟨_, rfl⟩
  obtain ⟨wt, wb, hwt⟩ : ∃ wt wb, worstV p.tols nd.taints = (wt, wb) := ⟨_, _, rfl⟩
  obtain ⟨sn, sb, hsk⟩ : ∃ sn sb, skewV t p name = (sn, sb) := ⟨_, _, rfl⟩
  obtain ⟨fl, fe, hfr⟩ : ∃ fl fe, freeV t name = (fl, fe) := ⟨_, _, rfl⟩
  obtain ⟨ft, hft⟩ : ∃ ft, fitsV p.need fl = ft := ⟨_, rfl⟩
  obtain ⟨nc, hnc⟩ : ∃ nc, nd.cordon = nc := ⟨_, rfl⟩
  rw [hnd] at hd2 hd3 hR
  unfold skewOk at hR
  rw [hfk, hm, hwt, hsk, hfr, hnc] at hR
  simp only at hR
  rw [hft] at hR
  rw [hnd, hfk, hnc]
  have HX : Hid (R = if fk = false then 3 else if (!nc && m) = false then 8 else if wb = true then 9 else if (emptyB p.key || (sb && decide (sn ≤ p.most))) = false then 10 else if (decide (fe = 0) && ft) = false then 7 else 0) := hR.symm
  have HM := Lib.hid hm
  have HWT := Lib.hid hwt
  have HSK := Lib.hid hsk
  have HFR := Lib.hid hfr
  have HFT := Lib.hid hft
  have HD2 := Lib.hid hd2
  have HD3 := Lib.hid hd3
  have e1 := empty_beq p.key
  have hem : emptyB p.key = decide (p.key = ⟨#[]⟩) := rfl
  obtain ⟨ek, hek⟩ : ∃ ek, decide (p.key = ⟨#[]⟩) = ek := ⟨_, rfl⟩
  rw [hek] at e1 hem
  rw [hem] at HX
  clear hR hnd hfk hm hwt hsk hfr hft hd2 hd3 hnc hem hek HFV
  replace HB := Lib.hid (Below.then HB.out hb)
  clear z zf y yf hb
  have HD := Lib.hid (And.intro (Kd.S.mono (vw_below (alloc_below w1 (.cells #[.string nd.name, .slice D1 nd.cap.length g1, .slice D2 nd.labels.length g2, .slice D3 nd.taints.length g3, .bool nc] 150))) HD2.out) (Kd.S.mono (vw_below (alloc_below w1 (.cells #[.string nd.name, .slice D1 nd.cap.length g1, .slice D2 nd.labels.length g2, .slice D3 nd.taints.length g3, .bool nc] 150))) HD3.out))
  have hbu := alloc_below w1 (.cells #[.string nd.name, .slice D1 nd.cap.length g1, .slice D2 nd.labels.length g2, .slice D3 nd.taints.length g3, .bool nc] 150)
  have hnu := blk_last w1 (.cells #[.string nd.name, .slice D1 nd.cap.length g1, .slice D2 nd.labels.length g2, .slice D3 nd.taints.length g3, .bool nc] 150)
  go_upto_region 3 with fail
  generalize w1.alloc (.cells #[.string nd.name, .slice D1 nd.cap.length g1, .slice D2 nd.labels.length g2, .slice D3 nd.taints.length g3, .bool nc] 150) = U at hbu hnu HD ⊢
  replace HB := Lib.hid (Below.then HB.out hbu)
  have HNU := Lib.hid hnu
  have lnU := blk_lt hnu
  have HN := Lib.hid (Below.refl U.heap.size U)
  clear hbu hnu HD2 HD3
  cases fk with
  | false =>
    go_wp2
    go_ret
    exact ⟨ret_i (by rw [HRV.out, HX.out]; rfl), HBW.out.trans (HB.out.mono HBW.out.size)⟩
  | true =>
  have g0 := (HB.out.block _ l0).trans HK.out.1
  have g2' := (HB.out.block _ l2).trans HK.out.2
  obtain ⟨z, zf⟩ := blk_all g0
  obtain ⟨y, yf⟩ := blk_all g2'
  clear g0 g2'
  have gn := (HN.out.block _ lnU).trans HNU.out
  obtain ⟨q, qf⟩ := blk_all gn
  clear gn
  cases nc with
  | true =>
    go_wp2
    go_ret
    exact ⟨ret_i (by rw [HRV.out, HX.out]; rfl), HBW.out.trans (HB.out.mono HBW.out.size)⟩
  | false =>
  go_wp2_with fail
  refine (RMatch_calls _ _ p.sel nd.labels _ (N3.out.mono (vw_below HB.out)) HD.out.1).mono ?_
  rw [HM.out]
  rintro e w2 ⟨rfl, hb⟩
  replace HB := Lib.hid (Below.then HB.out hb)
  replace HN := Lib.hid (Below.then HN.out hb)
  clear z zf y yf q qf hb
  cases m with
  | false =>
    go_wp2
    go_ret
    exact ⟨ret_i (by rw [HRV.out, HX.out]; rfl), HBW.out.trans (HB.out.mono HBW.out.size)⟩
  | true =>
  have g0 := (HB.out.block _ l0).trans HK.out.1
  have g2' := (HB.out.block _ l2).trans HK.out.2
  obtain ⟨z, zf⟩ := blk_all g0
  obtain ⟨y, yf⟩ := blk_all g2'
  clear g0 g2'
  have gn := (HN.out.block _ lnU).trans HNU.out
  obtain ⟨q, qf⟩ := blk_all gn
  clear gn
  go_wp2_with fail
  refine (RWorst_calls _ _ p.tols nd.taints _ (N4.out.mono (vw_below HB.out)) (HD.out.2.mono (vw_below HN.out))).mono ?_
  rw [HWT.out]
  rintro e w3 ⟨rfl, hb⟩
  replace HB := Lib.hid (Below.then HB.out hb)
  replace HN := Lib.hid (Below.then HN.out hb)
  clear z zf y yf q qf hb
  have hb := alloc_below w3 (.cells #[.string wt.key, .string wt.val, .bool wt.b] 211)
  go_upto_region 8 with fail
  generalize w3.alloc (.cells #[.string wt.key, .string wt.val, .bool wt.b] 211) = U3 at hb ⊢
  replace HB := Lib.hid (Below.then HB.out hb)
  replace HN := Lib.hid (Below.then HN.out hb)
  clear hb
  cases wb with
  | true =>
    go_wp2
    go_ret
    exact ⟨ret_i (by rw [HRV.out, HX.out]; rfl), HBW.out.trans (HB.out.mono HBW.out.size)⟩
  | false =>
  have g0 := (HB.out.block _ l0).trans HK.out.1
  have g2' := (HB.out.block _ l2).trans HK.out.2
  obtain ⟨z, zf⟩ := blk_all g0
  obtain ⟨y, yf⟩ := blk_all g2'
  clear g0 g2'
  have gn := (HN.out.block _ lnU).trans HNU.out
  obtain ⟨q, qf⟩ := blk_all gn
  clear gn
  go_wp2_with fail
  refine (rSkew_calls _ _ t p name _ (V_below HVS.out HB.out) (V_below HVP.out HB.out) (by omega) (by omega)).mono ?_
  unfold SkewDone
  rw [HSK.out]
  rintro e w4 ⟨rfl, hb⟩
  replace HB := Lib.hid (Below.then HB.out hb)
  replace HN := Lib.hid (Below.then HN.out hb)
  clear z zf y yf q qf hb
  have g0 := (HB.out.block _ l0).trans HK.out.1
  have g2' := (HB.out.block _ l2).trans HK.out.2
  obtain ⟨z, zf⟩ := blk_all g0
  obtain ⟨y, yf⟩ := blk_all g2'
  clear g0 g2'
  have gn := (HN.out.block _ lnU).trans HNU.out
  obtain ⟨q, qf⟩ := blk_all gn
  clear gn
  obtain ⟨lq, hlq⟩ : ∃ lq, decide (sn ≤ p.most) = lq := ⟨_, rfl⟩
  rw [hlq] at HX
  cases ek with
  | true =>
    go_wp2_with fail
    refine (RFree_calls _ t name _ (V_below HVS.out HB.out)).mono ?_
    rw [HFR.out]
    rintro e w5 ⟨A5, c5, rfl, hv, hb⟩
    have HV5 := Lib.hid hv
    simp only at HV5
    clear hv
    replace HB := Lib.hid (Below.then HB.out hb)
    replace HN := Lib.hid (Below.then HN.out hb)
    clear z zf y yf q qf hb
    have g0 := (HB.out.block _ l0).trans HK.out.1
    have g2' := (HB.out.block _ l2).trans HK.out.2
    obtain ⟨z, zf⟩ := blk_all g0
    obtain ⟨y, yf⟩ := blk_all g2'
    clear g0 g2'
    have gn := (HN.out.block _ lnU).trans HNU.out
    obtain ⟨q, qf⟩ := blk_all gn
    clear gn
    by_cases h0 : fe = 0
    · subst h0
      go_wp2_with fail
      refine (Fits_calls _ _ p.need fl _ (N1.out.mono (vw_below HB.out)) HV5.out).mono ?_
      rw [HFT.out]
      rintro e w6 ⟨rfl, hb⟩
      replace HB := Lib.hid (Below.then HB.out hb)
      replace HN := Lib.hid (Below.then HN.out hb)
      clear z zf y yf q qf hb
      cases ft with
      | false =>
        go_wp2
        go_ret
        exact ⟨ret_i (by rw [HRV.out, HX.out]; rfl), HBW.out.trans (HB.out.mono HBW.out.size)⟩
      | true =>
        go_wp2
        go_ret
        exact ⟨ret_i (by rw [HRV.out, HX.out]; rfl), HBW.out.trans (HB.out.mono HBW.out.size)⟩
    · have t1 : (fe == 0) = false := by simp [h0]
      have t2 : (fe != 0) = true := by simp [h0]
      have hx := HX.out
      rw [decide_eq_false h0] at hx
      have HX := Lib.hid hx
      clear hx h0
      go_wp2
      go_ret
      exact ⟨ret_i (by rw [HRV.out, HX.out]; rfl), HBW.out.trans (HB.out.mono HBW.out.size)⟩
  | false =>
    cases sb with
    | false =>
      go_wp2
      go_ret
      exact ⟨ret_i (by rw [HRV.out, HX.out]; rfl), HBW.out.trans (HB.out.mono HBW.out.size)⟩
    | true =>
      cases lq with
      | false =>
        have t3 : decide (p.most < sn) = true := decide_eq_true (by have := of_decide_eq_false hlq; omega)
        go_wp2
        go_ret
        exact ⟨ret_i (by rw [HRV.out, HX.out]; rfl), HBW.out.trans (HB.out.mono HBW.out.size)⟩
      | true =>
        have t3 : decide (p.most < sn) = false := decide_eq_false (by have := of_decide_eq_true hlq; omega)
        go_wp2_with fail
        refine (RFree_calls _ t name _ (V_below HVS.out HB.out)).mono ?_
        rw [HFR.out]
        rintro e w5 ⟨A5, c5, rfl, hv, hb⟩
        have HV5 := Lib.hid hv
        simp only at HV5
        clear hv
        replace HB := Lib.hid (Below.then HB.out hb)
        replace HN := Lib.hid (Below.then HN.out hb)
        clear z zf y yf q qf hb
        have g0 := (HB.out.block _ l0).trans HK.out.1
        have g2' := (HB.out.block _ l2).trans HK.out.2
        obtain ⟨z, zf⟩ := blk_all g0
        obtain ⟨y, yf⟩ := blk_all g2'
        clear g0 g2'
        have gn := (HN.out.block _ lnU).trans HNU.out
        obtain ⟨q, qf⟩ := blk_all gn
        clear gn
        by_cases h0 : fe = 0
        · subst h0
          go_wp2_with fail
          refine (Fits_calls _ _ p.need fl _ (N1.out.mono (vw_below HB.out)) HV5.out).mono ?_
          rw [HFT.out]
          rintro e w6 ⟨rfl, hb⟩
          replace HB := Lib.hid (Below.then HB.out hb)
          replace HN := Lib.hid (Below.then HN.out hb)
          clear z zf y yf q qf hb
          cases ft with
          | false =>
            go_wp2
            go_ret
            exact ⟨ret_i (by rw [HRV.out, HX.out]; rfl), HBW.out.trans (HB.out.mono HBW.out.size)⟩
          | true =>
            go_wp2
            go_ret
            exact ⟨ret_i (by rw [HRV.out, HX.out]; rfl), HBW.out.trans (HB.out.mono HBW.out.size)⟩
        · have t1 : (fe == 0) = false := by simp [h0]
          have t2 : (fe != 0) = true := by simp [h0]
          have hx := HX.out
          rw [decide_eq_false h0] at hx
          have HX := Lib.hid hx
          clear hx h0
          go_wp2
          go_ret
          exact ⟨ret_i (by rw [HRV.out, HX.out]; rfl), HBW.out.trans (HB.out.mono HBW.out.size)⟩
end Go.Proofs.YtnmhicgbdalniaaGreatDoor
namespace Go.Proofs.YtnmhicgbdalniaaGreatDoor
open Go.RowKit Go.Sort

/-! on: the reference's side. -/
def onRest (F : FitF) (p : Pd) (name : ByteArray) (t : St) (l : List Pd) (out : List ByteArray) : List ByteArray × Bool := if F t p name = 0 then (out, true) else onGo F p name t l out
set_option maxHeartbeats 8000000 in
set_option maxRecDepth 100000 in
theorem RWOn_calls (vs vp : Value) (s : St) (p : Pd) (name : ByteArray) (w : World) (hs : Kd.state.V (vw w []) vs s) (hp : Kd.pod.V (vw w []) vp p) (hn : s.nodes.length ≤ 1000) (hpn : s.pods.length ≤ 1000) :
    Calls Tryz.prog 87 #[vs, vp, .string name] w (OnDone (onW fitV s p name) w) := by
  obtain ⟨i0, hi, hz0, hz1, hz2⟩ := info_parts info_str
  obtain ⟨cs, rfl, hks⟩ := hs
  obtain ⟨cp, rfl, hkp⟩ := hp
  have HKS := Lib.hid hks
  have HKP := Lib.hid hkp
  obtain ⟨A1, c1, A2, c2, A3, c3, rfl, -⟩ := hks
  obtain ⟨P1, p1, P2, p2, P3, p3, P4, p4, rfl, -⟩ := hkp
  obtain ⟨R, hR⟩ : ∃ R, onW fitV s p name = R := ⟨_, rfl⟩
  rw [hR]
  have HR : Hid (onRest fitV p name s (onV s name) [] = R) := hR
  clear hR
  go_enter Tryz.func87, Tryz.ntmps87
  go_upto_region 1 with fail
  obtain ⟨W, hW, hbw, k1, k2, hWs⟩ := al2 w (.cells #[.slice A1 s.nodes.length c1, .slice A2 s.pods.length c2, .slice A3 s.budgets.length c3] 51) (.cells #[.string p.name, .string p.owner, .int .i64 p.prio, .slice P1 p.need.length p1, .slice P2 p.labels.length p2, .slice P3 p.sel.length p3, .slice P4 p.tols.length p4, .string p.key, .int .i64 p.most, .string p.node, .bool p.hold] 45)
  rw [← hW]
  have HBW := Lib.hid hbw
  have HK := Lib.hid (And.intro k1 k2)
  have l1 := blk_lt k1
  have l2 := blk_lt k2
  have HV0 : Hid (Kd.state.V (vw W []) (.agg #[.slice A1 s.nodes.length c1, .slice A2 s.pods.length c2, .slice A3 s.budgets.length c3]) s) := ⟨_, rfl, Kd.state.mono (vw_below hbw) HKS.out⟩
  obtain ⟨z, zf⟩ := blk_all k1
  obtain ⟨y, yf⟩ := blk_all k2
  clear hbw k1 k2 hW
  go_wp2_with fail
  refine (ROn_calls _ s name _ HV0.out hpn).mono ?_
  rintro e w2 ⟨G, gc, rfl, hS, hb, hG⟩
  have g1 := (hb.block _ l1).trans HK.out.1
  have g2 := (hb.block _ l2).trans HK.out.2
  have HY := Lib.hid g2
  have hM : ∀ ad, G = some ad → ad.block ∉ [w.heap.size] := fun ad had => by
    have := hG ad had
    simp; omega
  obtain ⟨-, f1, f2⟩ := hS.form
  have SL := Lib.hid (podC_S (M := [w.heap.size]) hS hM)
  have HB2 := Lib.hid (Below.then HBW.out hb)
  have hks2 : Kd.state.K (vw w2 [w.heap.size]) s [.slice A1 s.nodes.length c1, .slice A2 s.pods.length c2, .slice A3 s.budgets.length c3] := Kd.state.mono (vw_grow HB2.out (by simp)) HKS.out
  have HKS2 := Lib.hid hks2
  have HZ := Lib.hid g1
  have hl2 := blk_lt g2
  have hlw : w.heap.size < w2.heap.size := by omega
  clear z zf y yf hS hb hG g1 g2 hM hks2
  obtain ⟨L, hL⟩ : ∃ L, onV s name = L := ⟨_, rfl⟩
  have hLl : L.length ≤ 1000 := by
    rw [← hL]
    exact Nat.le_trans (List.length_filter_le _ _) hpn
  rw [hL] at SL HR f1 f2 ⊢
  clear hL
  go_wp2
  go_loopw [8, 10] (fun o i wr => ∃ (k : Nat) (t : St) (cs : List Value) (out : List ByteArray), k ≤ L.length ∧ i = .int .i64 k ∧ out.length ≤ k ∧ t.nodes.length ≤ 1000 ∧ t.pods.length ≤ 1000 ∧ Hid (wr.heap[w.heap.size]? = some (.cells cs.toArray 51 (0, 0))) ∧ Hid (Kd.state.K (vw wr (w.heap.size :: o.ownBlock.toList)) t cs) ∧ Hid (But w.heap.size w2 wr)
    ∧ Hid (wr.ownsRow w2.heap.size 9 1 o out.length (out.map Value.string)) ∧ Hid (∀ x ∈ out, sok x) ∧ Hid (onRest fitV p name t (L.drop k) out = R)) (fun _ i _ => L.length + 1 - (intOf i).toNat)
  case atStart => exact ⟨0, s, _, [], Nat.zero_le _, rfl, Nat.le_refl _, hn, hpn, HZ.out, HKS2.out, But.refl _ _, World.ownsRow_nil _ _ _ _, (fun x hx => by cases hx), HR.out⟩
  case round =>
    obtain ⟨k, t, cs, out, hk, rfl, hol, htn, htp, HZ1, HKT, HBT, HO, HOK, HGO⟩ := hrel
    obtain ⟨E1, x1, E2, x2, E3, x3, hcs, -⟩ := id HKT.out
    subst hcs
    have hbs := HBT.out.size
    have HB4 : Hid (Below w.heap.size w wr) := HB2.out.trans (HBT.out.below (Nat.le_refl _) (by omega))
    have HP4 : Hid (Kd.pod.V (vw wr []) (.agg #[.string p.name, .string p.owner, .int .i64 p.prio, .slice P1 p.need.length p1, .slice P2 p.labels.length p2, .slice P3 p.sel.length p3, .slice P4 p.tols.length p4, .string p.key, .int .i64 p.most, .string p.node, .bool p.hold]) p) := ⟨_, rfl, Kd.pod.mono (vw_below HB4.out) HKP.out⟩
    have HV4 : Hid (Kd.state.V (vw wr []) (.agg #[.slice E1 t.nodes.length x1, .slice E2 t.pods.length x2, .slice E3 t.budgets.length x3]) t) := ⟨_, rfl, Kd.state.mono (vw_sub (by simp)) HKT.out⟩
    have g2 := (HBT.out.block _ (blk_lt HY.out) (by omega)).trans HY.out
    obtain ⟨z, zf⟩ := blk_all HZ1.out
    obtain ⟨y, yf⟩ := blk_all g2
    clear g2
    go_wp2_with fail
    refine (RFit_calls _ _ t p name _ HV4.out HP4.out htn htp).mono ?_
    rintro e w5 ⟨rfl, hb5⟩
    obtain ⟨F, hF⟩ : ∃ F, fitV t p name = F := ⟨_, rfl⟩
    have hg := HGO.out
    unfold onRest at hg
    rw [hF] at hg ⊢
    have HB5 := Lib.hid hb5
    have HBT5 := Lib.hid (HBT.out.then hb5)
    have HO5 := Lib.hid (own_below HO.out hb5)
    have HK5 := Lib.hid (Kd.state.mono (vw_below hb5) HKT.out)
    have HZ5 := Lib.hid ((hb5.block _ (blk_lt HZ1.out)).trans HZ1.out)
    clear z zf y yf hb5 hF HGO HKT HO HZ1 HV4 HP4
    by_cases h0 : F = 0
    · subst h0
      rw [if_pos rfl] at hg
      have HR2 : Hid (R = (out, true)) := hg.symm
      obtain ⟨A, c, rfl, hS⟩ := (own_strs HO5.out (by omega) HOK.out).val
      have HGE : ∀ ad, A = some ad → w.heap.size ≤ ad.block := fun ad had => by
        have := (HO5.out.lt ad.block (by rw [had]; rfl)).1
        omega
      have HS5 := Lib.hid (strs_nx hS HGE)
      clear hg hS HGE
      go_wp2
      go_ret2
      exact onDone_some HR2.out HS5.out (HB4.out.trans (HB5.out.mono HB4.out.size))
    · rw [if_neg h0] at hg
      have HG5 := Lib.hid hg
      have t1 : (F == 0) = false := by simp [h0]
      clear hg h0
      go_wp2
      clear t1
      go_loop [10] (fun i => ∃ j : Nat, k ≤ j ∧ j ≤ L.length ∧ i = .int .i64 j ∧ Hid (onGo fitV p name t (L.drop j) out = R)) (fun i => L.length - (intOf i).toNat)
      case atStart => exact ⟨k, Nat.le_refl _, hk, rfl, HG5.out⟩
      case round =>
        obtain ⟨j, hkj, hj, rfl, HGO⟩ := hrel
        by_cases hlt : j < L.length
        · have hgo := HGO.out
          rw [onGo_at fitV p name t hlt out] at hgo
          obtain ⟨b, off, cx, rfl, hkx, hc⟩ := SL.out.elem j hlt
          have hc' : w5.rangeAt b (off + j * 11) cx := range_of_view fun i u hu => View.cell_mono (vw_but HBT5.out (by simp)) (hc i u hu)
          obtain ⟨x, hx⟩ : ∃ x, L[j] = x := ⟨_, rfl⟩
          rw [hx] at hkx hgo
          obtain ⟨B1, d1, B2, d2, B3, d3, B4, d4, rfl, hxok⟩ := hkx
          have HXOK := Lib.hid hxok
          obtain ⟨d, hd⟩ : ∃ d, x.hold = d := ⟨_, rfl⟩
          rw [hd] at hc' hgo
          have cn : w5.cell? ⟨b, off + j * 11, none⟩ = some (.string x.name) := hc' 0 _ rfl
          have ch : w5.cell? ⟨b, off + j * 11 + 10, none⟩ = some (.bool d) := hc' 10 _ rfl
          clear hc hc' hx hxok hd HGO
          cases d with
          | false =>
            have HG3 : Hid (onGo fitV p name t (L.drop (j + 1)) out = R) := hgo
            clear hgo
            go_wp2
            go_round
            case rel => exact ⟨j + 1, by omega, by omega, by go_num, HG3.out⟩
            case measure => simp [intOf]; omega
          | true =>
            rw [if_pos rfl] at hgo
            have HG3 : Hid (onRest fitV p name (dropS t x.name) (L.drop (j + 1)) (out ++ [x.name]) = R) := hgo
            have hlV := blk_lt HZ5.out
            have b3 : (0 : Int) ≤ (j : Int) := by omega
            have b4 : (j : Int) < (L.length : Int) := by omega
            obtain ⟨z, zf⟩ := blk_all HZ5.out
            clear hgo
            go_upto_region 11 with fail
            go_still_tail 6, (by kernel_rfl)
            change wpList _ _ _ _ _ w5.drew
            have z2 : ∀ j, w5.drew.cell? ⟨w.heap.size, j, none⟩ = #[.slice E1 t.nodes.length x1, .slice E2 t.pods.length x2, .slice E3 t.budgets.length x3][j]? := z
            have zf2 : ∀ j, w5.drew.frozen? ⟨w.heap.size, j, none⟩ = false := zf
            have HZ6 : Hid (w5.drew.heap[w.heap.size]? = some (.cells #[.slice E1 t.nodes.length x1, .slice E2 t.pods.length x2, .slice E3 t.budgets.length x3] 51 (0, 0))) := HZ5.out
            have HK6 : Hid (Kd.state.K (vw w5.drew (w.heap.size :: _)) t [.slice E1 t.nodes.length x1, .slice E2 t.pods.length x2, .slice E3 t.budgets.length x3]) := HK5.out
            have HB6 : Hid (But w.heap.size w2 w5.drew) := HBT5.out.then (drew_below _)
            have HO6 : Hid (w5.drew.ownsRow w2.heap.size 9 1 _ out.length (out.map Value.string)) := HO5.out
            have hl6 : w.heap.size < w5.drew.heap.size := hlV
            have HNC : Hid (w5.drew.cell? ⟨b, off + j * 11, none⟩ = some (.string x.name)) := cn
            generalize w5.drew = U2 at z2 zf2 HZ6 HK6 HB6 HO6 hl6 HNC ⊢
            clear z zf cn ch hlV HZ5 HK5 HBT5 HO5 HB5
            go_wp2_with fail
            refine (RDrop_calls _ t x.name _ ⟨_, rfl, HK6.out⟩ htp (own_M HO6.out hl6)).mono ?_
            rintro e w3 ⟨cs3, rfl, ⟨cs3', e2, hk3⟩, hb3⟩
            obtain rfl : cs3' = cs3 := by simpa using e2.symm
            clear e2
            have HK3 := Lib.hid hk3
            have HB3 := Lib.hid hb3
            have q1 := (hb3.block _ (blk_lt HZ6.out)).trans HZ6.out
            obtain ⟨D1, y1, D2, y2, D3, y3, rfl, -⟩ := hk3
            have hdl : (dropS t x.name).pods.length ≤ t.pods.length := List.length_filter_le _ _
            have HQ1 := Lib.hid q1
            have HNC3 := Lib.hid (keep_cell hb3 HNC.out)
            clear z2 zf2 hb3
            obtain ⟨z, zf⟩ := blk_all q1
            clear q1
            go_upto_region 12 with fail
            rw [show (((w3.setCell ⟨w.heap.size, 0, none⟩ (.slice D1 (dropS t x.name).nodes.length y1)).setCell ⟨w.heap.size, 1, none⟩ (.slice D2 (dropS t x.name).pods.length y2)).setCell ⟨w.heap.size, 2, none⟩ (.slice D3 (dropS t x.name).budgets.length y3)) = w3.setCells w.heap.size 0 [.slice D1 (dropS t x.name).nodes.length y1, .slice D2 (dropS t x.name).pods.length y2, .slice D3 (dropS t x.name).budgets.length y3] from rfl]
            have kU1 := setCells_all (cs := [.slice D1 (dropS t x.name).nodes.length y1, .slice D2 (dropS t x.name).pods.length y2, .slice D3 (dropS t x.name).budgets.length y3]) HQ1.out rfl
            have HKU : Hid (Kd.state.K (vw (w3.setCells w.heap.size 0 [.slice D1 (dropS t x.name).nodes.length y1, .slice D2 (dropS t x.name).pods.length y2, .slice D3 (dropS t x.name).budgets.length y3]) (w.heap.size :: _)) (dropS t x.name) [.slice D1 (dropS t x.name).nodes.length y1, .slice D2 (dropS t x.name).pods.length y2, .slice D3 (dropS t x.name).budgets.length y3]) := Kd.state.mono (vw_setCells (List.mem_cons_self ..) _ _) HK3.out
            have HBU : Hid (But w.heap.size w2 (w3.setCells w.heap.size 0 [.slice D1 (dropS t x.name).nodes.length y1, .slice D2 (dropS t x.name).pods.length y2, .slice D3 (dropS t x.name).budgets.length y3])) := (HB6.out.then HB3.out).setCells _ _
            have HOU : Hid (World.ownsRow (w3.setCells w.heap.size 0 [.slice D1 (dropS t x.name).nodes.length y1, .slice D2 (dropS t x.name).pods.length y2, .slice D3 (dropS t x.name).budgets.length y3]) w2.heap.size 9 1 _ out.length (out.map Value.string)) := own_setCells hlw _ _ (own_below HO6.out HB3.out)
            have hbne : b ≠ w.heap.size := by
              intro e
              have := SL.out.elem j hlt
              obtain ⟨b', off', cx', e', ⟨_, _, _, _, _, _, _, _, rfl, _⟩, hc'⟩ := this
              cases e'
              have h9 := hc' 0 _ rfl
              unfold View.cell? vw at h9
              rw [if_pos (by simp [e])] at h9
              cases h9
            have c0 : (w3.setCells w.heap.size 0 [.slice D1 (dropS t x.name).nodes.length y1, .slice D2 (dropS t x.name).pods.length y2, .slice D3 (dropS t x.name).budgets.length y3]).cell? ⟨b, off + j * 11, none⟩ = some (.string x.name) := by
              rw [World.cell?_setCells_out _ _ _ _ _ (fun h _ => absurd h hbne)]
              exact HNC3.out
            generalize w3.setCells w.heap.size 0 [.slice D1 (dropS t x.name).nodes.length y1, .slice D2 (dropS t x.name).pods.length y2, .slice D3 (dropS t x.name).budgets.length y3] = U at kU1 HKU HBU HOU c0 ⊢
            have HZU := Lib.hid kU1
            have hbu := HBU.out.size
            clear z zf kU1 HQ1 HK3 HB3 HZ6 HK6 HB6 HO6 HNC HNC3 hbne
            go_wp2_with (at_builtin; refine wpList_app _ w2.heap.size 53 9 i0 (.string ⟨#[]⟩) 1 16 Tryz.underlying53 hi hz0 hz1 hz2 rfl (by decide) _ out.length (out.map Value.string) (own_below HOU.out (alloc_below _ _)) (some ⟨U.heap.size, 0, none⟩) 1 1 [.string x.name] rfl (fun e => by cases e) (fun ad had j u hu => by cases had; exact one_new _ _ _ j u hu) (by simp [Value.oneCell']) (by simp only [maxLen]; omega) (by omega) (by simp; omega) _ _ rfl rfl rfl rfl ?_)
            intro v' w4 hown' hgrow hv4
            have HO4 : Hid (w4.ownsRow w2.heap.size 9 1 v' (out ++ [x.name]).length ((out ++ [x.name]).map Value.string)) := by
              refine own_congr hown' ?_ ?_
              · rw [List.length_append]; rfl
              · simp
            have hg4 : Below w2.heap.size U w4 := ((Below.refl w2.heap.size U).alloc hbu _).grown hgrow (by simp; omega) (fun q hq => (HOU.out.lt q hq).1)
            have HZ4 : Hid (w4.heap[w.heap.size]? = _) := (hg4.block _ hlw).trans HZU.out
            have HBT4 : Hid (But w.heap.size w2 w4) := ⟨hg4.os.trans HBU.out.os, hg4.tape.trans HBU.out.tape, hg4.output.trans HBU.out.output, Nat.le_trans hbu hg4.size, fun j hj hne => (hg4.block j hj).trans (HBU.out.block j hj hne)⟩
            have HK4 : Hid (Kd.state.K (vw w4 (w.heap.size :: v'.ownBlock.toList)) (dropS t x.name) _) := Kd.state.mono (vw_grown hgrow (by simpa using hv4)) (Kd.state.mono (vw_alloc _) HKU.out)
            have HOK4 : Hid (∀ z ∈ out ++ [x.name], sok z) := fun z hz => by
              rcases List.mem_append.1 hz with h | h
              · exact HOK.out z h
              · obtain rfl : z = x.name := by simpa using h
                exact HXOK.out
            have hlo : (out ++ [x.name]).length ≤ j + 1 := by rw [List.length_append]; simp; omega
            have hdn : (dropS t x.name).nodes.length ≤ 1000 := htn
            clear hown' hgrow hv4 hg4 HOU HKU HBU HZU c0
            go_wp2
            go_roundw
            case rel => exact ⟨j + 1, dropS t x.name, _, out ++ [x.name], by omega, by go_num, hlo, hdn, by omega, HZ4.out, HK4.out, HBT4.out, HO4.out, HOK4.out, HG3.out⟩
            case measure => simp [intOf]; omega
        · obtain rfl : j = L.length := by omega
          have hg := HGO.out
          rw [List.drop_length] at hg
          have HR2 : Hid (R = ([], false)) := hg.symm
          clear hg HGO
          go_wp2
          go_ret2
          exact onDone_none HR2.out (HB4.out.trans (HB5.out.mono HB4.out.size))
end Go.Proofs.YtnmhicgbdalniaaGreatDoor
