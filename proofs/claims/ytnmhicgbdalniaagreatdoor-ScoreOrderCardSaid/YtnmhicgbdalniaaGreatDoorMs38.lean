import Derived.Test.YtnmhicgbdalniaaGreatDoorMs27
namespace Go.Proofs.YtnmhicgbdalniaaGreatDoor
open Go.RowKit Go.Sort

/-! Selectors and taints: the reference's side. -/
theorem matchV_at {l : List Term} {k : Nat} (h : k < l.length) (s : List Pair) : matchV (l.drop k) s = (holdsV l[k] s && matchV (l.drop (k + 1)) s) := by
  unfold matchV
  rw [List.drop_eq_getElem_cons h, List.all_cons]
set_option maxHeartbeats 4000000 in
set_option maxRecDepth 100000 in
theorem RMatch_calls (va vb : Value) (l : List Term) (s : List Pair) (w : World) (ha : Kd.term.S (vw w []) va l) (hb : Kd.pair.S (vw w []) vb s) :
    Calls Tryz.prog 140 #[va, vb] w (BoolDone (matchV l s) w) := by
  obtain ⟨A, c, rfl, ha⟩ := ha.val
  obtain ⟨-, hf1, hf2⟩ := ha.form
  have HA := Lib.hid ha
  have HD := Lib.hid hb
  clear ha hb
  go_enter Tryz.func140, Tryz.ntmps140
  go_wp2
  go_loopw [5] (fun i wr => ∃ k : Nat, k ≤ l.length ∧ i = .int .i64 k ∧ Hid (matchV (l.drop k) s = matchV l s) ∧ Hid (Below w.heap.size w wr)) (fun i _ => l.length - (intOf i).toNat)
  case atStart => exact ⟨0, Nat.zero_le _, rfl, rfl, Below.refl _ _⟩
  case round =>
    obtain ⟨k, hk, rfl, HR, HB⟩ := hrel
    by_cases hlt : k < l.length
    · obtain ⟨b, off, rfl, hc, _⟩ := (HA.out.mono (vw_below HB.out)).elemN k hlt
      have c0 : wr.cell? ⟨b, off + k * 3, none⟩ = some (.int .i64 l[k].op) := hc 0 _ rfl
      have c1 : wr.cell? ⟨b, off + k * 3 + 1, none⟩ = some (.string l[k].key) := hc 1 _ rfl
      have c2 : wr.cell? ⟨b, off + k * 3 + 2, none⟩ = some (.string l[k].val) := hc 2 _ rfl
      have hr := HR.out
      rw [matchV_at hlt] at hr
      clear hc HR
      go_wp2_with fail
      refine (Label_calls _ s l[k].key _ (HD.out.mono (vw_below HB.out))).mono ?_
      rintro e w1 ⟨rfl, rfl⟩
      have HB2 := HB
      have hv : holdsV l[k] s = if l[k].op = 1 then (getV s l[k].key).2 && decide ((getV s l[k].key).1 = l[k].val) else if l[k].op = 2 then !(getV s l[k].key).2 || !decide ((getV s l[k].key).1 = l[k].val) else if l[k].op = 3 then (getV s l[k].key).2 else decide (l[k].op = 4) && !(getV s l[k].key).2 := rfl
      have e1 := eq_beq (getV s l[k].key).1 l[k].val
      obtain ⟨x, d, hg⟩ : ∃ x d, getV s l[k].key = (x, d) := ⟨_, _, rfl⟩
      rw [hg] at hv e1 ⊢
      simp only at hv e1 ⊢
      obtain ⟨m, hm⟩ : ∃ m, decide (x = l[k].val) = m := ⟨_, rfl⟩
      rw [hm] at e1 hv
      clear hg hm HB
      by_cases h1 : l[k].op = 1
      · rw [if_pos h1] at hv
        cases d with
        | false =>
          cases m with
          | false =>
            rw [show holdsV l[k] s = false from hv] at hr
            rw [Bool.false_and] at hr
            have HX := Lib.hid hr
            clear hr hv
            go_wp2
            go_ret
            exact ⟨ret_bool HX.out, HB2.out⟩
          | true =>
            rw [show holdsV l[k] s = false from hv] at hr
            rw [Bool.false_and] at hr
            have HX := Lib.hid hr
            clear hr hv
            go_wp2
            go_ret
            exact ⟨ret_bool HX.out, HB2.out⟩
        | true =>
          cases m with
          | false =>
            rw [show holdsV l[k] s = false from hv] at hr
            rw [Bool.false_and] at hr
            have HX := Lib.hid hr
            clear hr hv
            go_wp2
            go_ret
            exact ⟨ret_bool HX.out, HB2.out⟩
          | true =>
            rw [show holdsV l[k] s = true from hv] at hr
            rw [Bool.true_and] at hr
            have HX := Lib.hid hr
            clear hr hv
            go_wp2
            go_roundw
            case rel => exact ⟨k + 1, by omega, by go_num, HX.out, HB2.out⟩
            case measure => simp [intOf]; omega
      have t1 : (l[k].op == 1) = false := by simpa using h1
      rw [if_neg h1] at hv
      by_cases h2 : l[k].op = 2
      · rw [if_pos h2] at hv
        cases d with
        | false =>
          cases m with
          | false =>
            rw [show holdsV l[k] s = true from hv] at hr
            rw [Bool.true_and] at hr
            have HX := Lib.hid hr
            clear hr hv
            go_wp2
            go_roundw
            case rel => exact ⟨k + 1, by omega, by go_num, HX.out, HB2.out⟩
            case measure => simp [intOf]; omega
          | true =>
            rw [show holdsV l[k] s = true from hv] at hr
            rw [Bool.true_and] at hr
            have HX := Lib.hid hr
            clear hr hv
            go_wp2
            go_roundw
            case rel => exact ⟨k + 1, by omega, by go_num, HX.out, HB2.out⟩
            case measure => simp [intOf]; omega
        | true =>
          cases m with
          | false =>
            rw [show holdsV l[k] s = true from hv] at hr
            rw [Bool.true_and] at hr
            have HX := Lib.hid hr
            clear hr hv
            go_wp2
            go_roundw
            case rel => exact ⟨k + 1, by omega, by go_num, HX.out, HB2.out⟩
            case measure => simp [intOf]; omega
          | true =>
            rw [show holdsV l[k] s = false from hv] at hr
            rw [Bool.false_and] at hr
            have HX := Lib.hid hr
            clear hr hv
            go_wp2
            go_ret
            exact ⟨ret_bool HX.out, HB2.out⟩
      have t2 : (l[k].op == 2) = false := by simpa using h2
      rw [if_neg h2] at hv
      by_cases h3 : l[k].op = 3
      · rw [if_pos h3] at hv
        cases d with
        | false =>
          rw [show holdsV l[k] s = false from hv] at hr
          rw [Bool.false_and] at hr
          have HX := Lib.hid hr
          clear hr hv
          go_wp2
          go_ret
          exact ⟨ret_bool HX.out, HB2.out⟩
        | true =>
          rw [show holdsV l[k] s = true from hv] at hr
          rw [Bool.true_and] at hr
          have HX := Lib.hid hr
          clear hr hv
          go_wp2
          go_roundw
          case rel => exact ⟨k + 1, by omega, by go_num, HX.out, HB2.out⟩
          case measure => simp [intOf]; omega
      have t3 : (l[k].op == 3) = false := by simpa using h3
      rw [if_neg h3] at hv
      by_cases h4 : l[k].op = 4
      · rw [decide_eq_true h4] at hv
        cases d with
        | false =>
          rw [show holdsV l[k] s = true from hv] at hr
          rw [Bool.true_and] at hr
          have HX := Lib.hid hr
          clear hr hv
          go_wp2
          go_roundw
          case rel => exact ⟨k + 1, by omega, by go_num, HX.out, HB2.out⟩
          case measure => simp [intOf]; omega
        | true =>
          rw [show holdsV l[k] s = false from hv] at hr
          rw [Bool.false_and] at hr
          have HX := Lib.hid hr
          clear hr hv
          go_wp2
          go_ret
          exact ⟨ret_bool HX.out, HB2.out⟩
      have t4 : (l[k].op == 4) = false := by simpa using h4
      rw [decide_eq_false h4] at hv
      rw [show holdsV l[k] s = false from hv] at hr
      rw [Bool.false_and] at hr
      have HX := Lib.hid hr
      clear hr hv
      go_wp2
      go_ret
      exact ⟨ret_bool HX.out, HB2.out⟩
    · obtain rfl : k = l.length := by omega
      have hr := HR.out
      rw [List.drop_length] at hr
      have HX : Hid (true = matchV l s) := hr
      clear hr
      go_wp2
      go_ret
      exact ⟨ret_bool HX.out, HB.out⟩
theorem bears_at {l : List Tnt} {k : Nat} (h : k < l.length) (t : Tnt) : (l.drop k).any (bearB t) = (bearB t l[k] || (l.drop (k + 1)).any (bearB t)) := by
  rw [List.drop_eq_getElem_cons h, List.any_cons]
set_option maxHeartbeats 8000000 in
set_option maxRecDepth 100000 in
theorem RBears_calls (va : Value) (l : List Tnt) (t : Tnt) (w : World) (ha : Kd.tnt.S (vw w []) va l) :
    Calls Tryz.prog 218 #[va, .agg #[.string t.key, .string t.val, .bool t.b]] w (BoolDone (bearsV l t) w) := by
  obtain ⟨A, c, rfl, ha⟩ := ha.val
  obtain ⟨-, hf1, hf2⟩ := ha.form
  have HA := Lib.hid ha
  have HQ := Lib.hid (blk_last w (.cells #[.string t.key, .string t.val, .bool t.b] 211))
  clear ha
  go_enter Tryz.func218, Tryz.ntmps218
  go_wp2
  go_loopw [5] (fun i wr => ∃ k : Nat, k ≤ l.length ∧ i = .int .i64 k ∧ Hid ((l.drop k).any (bearB t) = bearsV l t) ∧ Hid (Below (w.alloc (.cells #[.string t.key, .string t.val, .bool t.b] 211)).heap.size (w.alloc (.cells #[.string t.key, .string t.val, .bool t.b] 211)) wr)) (fun i _ => l.length - (intOf i).toNat)
  case atStart => exact ⟨0, Nat.zero_le _, rfl, rfl, Below.refl _ _⟩
  case round =>
    obtain ⟨k, hk, rfl, HR, HBW⟩ := hrel
    have HB : Hid (Below w.heap.size w wr) := Below.then (alloc_below w _) HBW.out
    by_cases hlt : k < l.length
    · obtain ⟨b, off, rfl, hc, _⟩ := (HA.out.mono (vw_below HB.out)).elemN k hlt
      have c0 : wr.cell? ⟨b, off + k * 3, none⟩ = some (.string l[k].key) := hc 0 _ rfl
      have c1 : wr.cell? ⟨b, off + k * 3 + 1, none⟩ = some (.string l[k].val) := hc 1 _ rfl
      have c2 : wr.cell? ⟨b, off + k * 3 + 2, none⟩ = some (.bool l[k].b) := hc 2 _ rfl
      obtain ⟨z, zf⟩ := blk_all ((HBW.out.block _ (blk_lt HQ.out)).trans HQ.out)
      have z0 := z 0
      have z1 := z 1
      have hr := HR.out
      rw [bears_at hlt] at hr
      have hv : bearB t l[k] = ((decide (l[k].key = ⟨#[]⟩) || decide (l[k].key = t.key)) && (l[k].b || decide (l[k].val = t.val))) := rfl
      have e0 := empty_beq l[k].key
      have e1 := eq_beq l[k].key t.key
      have e2 := eq_beq l[k].val t.val
      obtain ⟨m0, hm0⟩ : ∃ m, decide (l[k].key = ⟨#[]⟩) = m := ⟨_, rfl⟩
      obtain ⟨m1, hm1⟩ : ∃ m, decide (l[k].key = t.key) = m := ⟨_, rfl⟩
      obtain ⟨m2, hm2⟩ : ∃ m, l[k].b = m := ⟨_, rfl⟩
      obtain ⟨m3, hm3⟩ : ∃ m, decide (l[k].val = t.val) = m := ⟨_, rfl⟩
      rw [hm0] at e0 hv
      rw [hm1] at e1 hv
      rw [hm2] at c2 hv
      rw [hm3] at e2 hv
      clear hc hm0 hm1 hm2 hm3 HR HQ z
      cases m0 with
      | false =>
        cases m1 with
        | false =>
          cases m2 with
          | false =>
            cases m3 with
            | false =>
              have HX : Hid ((l.drop (k + 1)).any (bearB t) = bearsV l t) := by
                show _ = _
                rw [← hr, hv]; rfl
              clear hr hv
              go_wp2_with fail
              go_quiet (fail)
              go_wp2
              go_roundw
              case rel => exact ⟨k + 1, by omega, by go_num, HX.out, drewN_then HBW.out _⟩
              case measure => simp [intOf]; omega
            | true =>
              have HX : Hid ((l.drop (k + 1)).any (bearB t) = bearsV l t) := by
                show _ = _
                rw [← hr, hv]; rfl
              clear hr hv
              go_wp2_with fail
              go_quiet (fail)
              go_wp2
              go_roundw
              case rel => exact ⟨k + 1, by omega, by go_num, HX.out, drewN_then HBW.out _⟩
              case measure => simp [intOf]; omega
          | true =>
            cases m3 with
            | false =>
              have HX : Hid ((l.drop (k + 1)).any (bearB t) = bearsV l t) := by
                show _ = _
                rw [← hr, hv]; rfl
              clear hr hv
              go_wp2_with fail
              go_quiet (fail)
              go_wp2
              go_roundw
              case rel => exact ⟨k + 1, by omega, by go_num, HX.out, drewN_then HBW.out _⟩
              case measure => simp [intOf]; omega
            | true =>
              have HX : Hid ((l.drop (k + 1)).any (bearB t) = bearsV l t) := by
                show _ = _
                rw [← hr, hv]; rfl
              clear hr hv
              go_wp2_with fail
              go_quiet (fail)
              go_wp2
              go_roundw
              case rel => exact ⟨k + 1, by omega, by go_num, HX.out, drewN_then HBW.out _⟩
              case measure => simp [intOf]; omega
        | true =>
          cases m2 with
          | false =>
            cases m3 with
            | false =>
              have HX : Hid ((l.drop (k + 1)).any (bearB t) = bearsV l t) := by
                show _ = _
                rw [← hr, hv]; rfl
              clear hr hv
              go_wp2_with fail
              go_quiet (fail)
              go_wp2
              go_roundw
              case rel => exact ⟨k + 1, by omega, by go_num, HX.out, drewN_then HBW.out _⟩
              case measure => simp [intOf]; omega
            | true =>
              have HX : Hid (true = bearsV l t) := by
                show _ = _
                rw [← hr, hv]; rfl
              clear hr hv
              go_wp2_with fail
              go_quiet (fail)
              go_wp2
              go_ret
              exact ⟨ret_bool HX.out, drewN_then HB.out _⟩
          | true =>
            cases m3 with
            | false =>
              have HX : Hid (true = bearsV l t) := by
                show _ = _
                rw [← hr, hv]; rfl
              clear hr hv
              go_wp2_with fail
              go_quiet (fail)
              go_wp2
              go_ret
              exact ⟨ret_bool HX.out, drewN_then HB.out _⟩
            | true =>
              have HX : Hid (true = bearsV l t) := by
                show _ = _
                rw [← hr, hv]; rfl
              clear hr hv
              go_wp2_with fail
              go_quiet (fail)
              go_wp2
              go_ret
              exact ⟨ret_bool HX.out, drewN_then HB.out _⟩
      | true =>
        cases m1 with
        | false =>
          cases m2 with
          | false =>
            cases m3 with
            | false =>
              have HX : Hid ((l.drop (k + 1)).any (bearB t) = bearsV l t) := by
                show _ = _
                rw [← hr, hv]; rfl
              clear hr hv
              go_wp2_with fail
              go_quiet (fail)
              go_wp2
              go_roundw
              case rel => exact ⟨k + 1, by omega, by go_num, HX.out, drewN_then HBW.out _⟩
              case measure => simp [intOf]; omega
            | true =>
              have HX : Hid (true = bearsV l t) := by
                show _ = _
                rw [← hr, hv]; rfl
              clear hr hv
              go_wp2_with fail
              go_quiet (fail)
              go_wp2
              go_ret
              exact ⟨ret_bool HX.out, drewN_then HB.out _⟩
          | true =>
            cases m3 with
            | false =>
              have HX : Hid (true = bearsV l t) := by
                show _ = _
                rw [← hr, hv]; rfl
              clear hr hv
              go_wp2_with fail
              go_quiet (fail)
              go_wp2
              go_ret
              exact ⟨ret_bool HX.out, drewN_then HB.out _⟩
            | true =>
              have HX : Hid (true = bearsV l t) := by
                show _ = _
                rw [← hr, hv]; rfl
              clear hr hv
              go_wp2_with fail
              go_quiet (fail)
              go_wp2
              go_ret
              exact ⟨ret_bool HX.out, drewN_then HB.out _⟩
        | true =>
          cases m2 with
          | false =>
            cases m3 with
            | false =>
              have HX : Hid ((l.drop (k + 1)).any (bearB t) = bearsV l t) := by
                show _ = _
                rw [← hr, hv]; rfl
              clear hr hv
              go_wp2_with fail
              go_quiet (fail)
              go_wp2
              go_roundw
              case rel => exact ⟨k + 1, by omega, by go_num, HX.out, drewN_then HBW.out _⟩
              case measure => simp [intOf]; omega
            | true =>
              have HX : Hid (true = bearsV l t) := by
                show _ = _
                rw [← hr, hv]; rfl
              clear hr hv
              go_wp2_with fail
              go_quiet (fail)
              go_wp2
              go_ret
              exact ⟨ret_bool HX.out, drewN_then HB.out _⟩
          | true =>
            cases m3 with
            | false =>
              have HX : Hid (true = bearsV l t) := by
                show _ = _
                rw [← hr, hv]; rfl
              clear hr hv
              go_wp2_with fail
              go_quiet (fail)
              go_wp2
              go_ret
              exact ⟨ret_bool HX.out, drewN_then HB.out _⟩
            | true =>
              have HX : Hid (true = bearsV l t) := by
                show _ = _
                rw [← hr, hv]; rfl
              clear hr hv
              go_wp2_with fail
              go_quiet (fail)
              go_wp2
              go_ret
              exact ⟨ret_bool HX.out, drewN_then HB.out _⟩
    · obtain rfl : k = l.length := by omega
      have hr := HR.out
      rw [List.drop_length] at hr
      have HX : Hid (false = bearsV l t) := hr
      clear hr
      go_wp2
      go_ret
      exact ⟨ret_bool HX.out, HB.out⟩
set_option maxHeartbeats 4000000 in
set_option maxRecDepth 100000 in
theorem RWorst_calls (va vb : Value) (l t : List Tnt) (w : World) (ha : Kd.tnt.S (vw w []) va l) (hb : Kd.tnt.S (vw w []) vb t) :
    Calls Tryz.prog 141 #[va, vb] w (WorstDone (worstV l t) w) := by
  obtain ⟨A, c, rfl, ha⟩ := ha.val
  obtain ⟨B, c2, rfl, hb⟩ := hb.val
  obtain ⟨-, hf1, hf2⟩ := hb.form
  have HA := Lib.hid ha
  have HS := Lib.hid hb
  clear ha hb
  go_enter Tryz.func141, Tryz.ntmps141
  go_wp2
  go_loopw [6] (fun i wr => ∃ k : Nat, k ≤ t.length ∧ i = .int .i64 k ∧ Hid (worstV l (t.drop k) = worstV l t) ∧ Hid (Below w.heap.size w wr) ∧ Hid (wr.heap[w.heap.size]? = some (.cells #[.string ⟨#[]⟩, .string ⟨#[]⟩, .bool false] 211 (0, 0)))) (fun i _ => t.length - (intOf i).toNat)
  case atStart => exact ⟨0, Nat.zero_le _, rfl, rfl, alloc_below _ _, blk_last _ _⟩
  case round =>
    obtain ⟨k, hk, rfl, HG, HB2, HR1⟩ := hrel
    by_cases hlt : k < t.length
    · obtain ⟨b, off, rfl, hc, _⟩ := (HS.out.mono (vw_below HB2.out)).elemN k hlt
      have hg := HG.out
      rw [worstV_at l hlt] at hg
      have HC : Hid (wr.rangeAt b (off + k * 3) [.string t[k].key, .string t[k].val, .bool t[k].b]) := hc
      obtain ⟨x, hx⟩ : ∃ x, t[k] = x := ⟨_, rfl⟩
      rw [hx] at hg HC
      obtain ⟨xk, xv, xb⟩ := x
      simp only at hg HC
      have c2 : wr.cell? ⟨b, off + k * 3 + 2, none⟩ = some (.bool xb) := HC.out 2 _ rfl
      have HG2 := Lib.hid hg
      clear hg hc HG
      cases xb with
      | false =>
        have hg := HG2.out
        rw [if_neg (by simp)] at hg
        have HG3 := Lib.hid hg
        clear hg
        go_wp2
        go_roundw
        case rel => exact ⟨k + 1, by omega, by go_num, HG3, HB2, HR1⟩
        case measure => simp [intOf]; omega
      | true =>
        have c0 : wr.cell? ⟨b, off + k * 3, none⟩ = some (.string xk) := HC.out 0 _ rfl
        have c1 : wr.cell? ⟨b, off + k * 3 + 1, none⟩ = some (.string xv) := HC.out 1 _ rfl
        go_wp2_with fail
        refine (RBears_calls _ l ⟨xk, xv, true⟩ _ (HA.out.mono (vw_below HB2.out))).mono ?_
        rintro e w1 ⟨rfl, hb⟩
        have HB3 := Lib.hid (Below.then HB2.out hb)
        have HR2 := Lib.hid ((hb.block _ (blk_lt HR1.out)).trans HR1.out)
        have hg := HG2.out
        have HC3 : Hid (w1.rangeAt b (off + k * 3) [.string xk, .string xv, .bool true]) := by
          obtain ⟨b', off', hA, hc', -⟩ := (HS.out.mono (vw_below HB3.out)).elemN k hlt
          injection hA with hA
          injection hA with e1 e2
          subst e1 e2
          rw [hx] at hc'
          exact hc'
        obtain ⟨m, hm⟩ : ∃ m, bearsV l ⟨xk, xv, true⟩ = m := ⟨_, rfl⟩
        rw [hm] at hg ⊢
        clear hm hb c0 c1 c2
        cases m with
        | true =>
          rw [if_neg (by simp)] at hg
          have HG3 := Lib.hid hg
          clear hg
          go_wp2
          go_roundw
          case rel => exact ⟨k + 1, by omega, by go_num, HG3, HB3, HR2⟩
          case measure => simp [intOf]; omega
        | false =>
          rw [if_pos (by simp)] at hg
          have HG3 := Lib.hid hg
          clear hg
          obtain ⟨z, zf⟩ := blk_all HR2.out
          go_wp2_with (with_reducible refine wpList_load_mid rfl 211 _ rfl b (off + k * 3) rfl _ _ HC3.out Tryz.underlying211 rfl (by kernel_rfl) ?_)
          have hbl := Below.setCell (Below.setCell (Below.setCell HB3.out (p := ⟨w.heap.size, 0, none⟩) (Nat.le_refl _) (.string xk)) (p := ⟨w.heap.size, 1, none⟩) (Nat.le_refl _) (.string xv)) (p := ⟨w.heap.size, 2, none⟩) (Nat.le_refl _) (.bool true)
          exact ret_row2 (cs := [.string xk, .string xv, .bool true]) rfl rfl ((blk_set (blk_set (blk_set HR2.out _) _) _).trans rfl) Tryz.underlying211 rfl (by kernel_rfl) rfl ⟨by rw [← HG3.out]; rfl, hbl⟩
    · obtain rfl : k = t.length := by omega
      have hr := HG.out
      rw [List.drop_length] at hr
      have HR := Lib.hid hr
      clear hr
      obtain ⟨z, zf⟩ := blk_all HR1.out
      go_wp2
      have hbl := Below.setCell (Below.setCell (Below.setCell HB2.out (p := ⟨w.heap.size, 0, none⟩) (Nat.le_refl _) (.string ⟨#[]⟩)) (p := ⟨w.heap.size, 1, none⟩) (Nat.le_refl _) (.string ⟨#[]⟩)) (p := ⟨w.heap.size, 2, none⟩) (Nat.le_refl _) (.bool false)
      exact ret_row2 (cs := [.string ⟨#[]⟩, .string ⟨#[]⟩, .bool false]) rfl rfl ((blk_set (blk_set (blk_set HR1.out _) _) _).trans rfl) Tryz.underlying211 rfl (by kernel_rfl) rfl ⟨by rw [← HR.out]; rfl, hbl⟩
end Go.Proofs.YtnmhicgbdalniaaGreatDoor
