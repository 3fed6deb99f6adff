import Derived.Test.YtnmhicgbdalniaaGreatDoorMs13
import Derived.Test.YtnmhicgbdalniaaGreatDoorMs17
namespace Go.Proofs.YtnmhicgbdalniaaGreatDoor
open Go.RowKit Go.Sort

def RowDone (l : List ByteArray) (w : World) (e : Ending) (w' : World) : Prop := ∃ sv, e = .returned sv ∧ w'.ownsRow w.heap.size 9 1 sv l.length (l.map Value.string) ∧ Below w.heap.size w w'
theorem namesV_nil_l (b : List Amt) : namesV [] b = b.map (·.name) := by cases b <;> simp [namesV]
theorem namesV_nil_r : ∀ (a : List Amt), namesV a [] = a.map (·.name)
  | [] => by simp [namesV]
  | x :: a => by rw [namesV, namesV_nil_r a, List.map_cons]
theorem names_a (a b : List Amt) {p q : Nat} (hp : p < a.length) (hq : q = b.length) : namesV (a.drop p) (b.drop q) = a[p].name :: namesV (a.drop (p + 1)) (b.drop q) := by
  subst hq
  rw [List.drop_length, namesV_nil_r, namesV_nil_r, List.drop_eq_getElem_cons hp, List.map_cons]
theorem names_b (a b : List Amt) {p q : Nat} (hp : p = a.length) (hq : q < b.length) : namesV (a.drop p) (b.drop q) = b[q].name :: namesV (a.drop p) (b.drop (q + 1)) := by
  subst hp
  rw [List.drop_length, namesV_nil_l, namesV_nil_l, List.drop_eq_getElem_cons hq, List.map_cons]
theorem names_ab (a b : List Amt) {p q : Nat} (hp : p < a.length) (hq : q < b.length) : namesV (a.drop p) (b.drop q) =
    if ltS a[p].name b[q].name = true then a[p].name :: namesV (a.drop (p + 1)) (b.drop q) else if ltS b[q].name a[p].name = true then b[q].name :: namesV (a.drop p) (b.drop (q + 1)) else a[p].name :: namesV (a.drop (p + 1)) (b.drop (q + 1)) := by
  conv => lhs; rw [List.drop_eq_getElem_cons hp, List.drop_eq_getElem_cons hq, namesV]
  rw [← List.drop_eq_getElem_cons hp, ← List.drop_eq_getElem_cons hq]
theorem own_snoc {w2 : World} {base : Nat} {e : TypeId} {v : Value} {l : List ByteArray} {x : ByteArray} (h : w2.ownsRow base e 1 v (l.length + 1) (l.map Value.string ++ [.string x])) : w2.ownsRow base e 1 v (l ++ [x]).length ((l ++ [x]).map Value.string) := by
  rw [List.length_append, List.map_append]; exact h
set_option maxHeartbeats 1000000 in
set_option maxRecDepth 100000 in
theorem names_calls (va vb : Value) (a b : List Amt) (w : World) (ha : Kd.amt.S (vw w []) va a) (hb : Kd.amt.S (vw w []) vb b) (hla : a.length ≤ 1000) (hlb : b.length ≤ 1000) :
    Calls Tryz.prog 271 #[va, vb] w (RowDone (namesV a b) w) := by
  obtain ⟨i0, hi, hz0, hz1, hz2⟩ := info_parts info_str
  obtain ⟨A, cap, rfl, ha⟩ := ha.val
  obtain ⟨B, cap2, rfl, hb⟩ := hb.val
  obtain ⟨-, fa1, fa2⟩ := ha.form
  obtain ⟨-, fb1, fb2⟩ := hb.form
  have HA := Lib.hid ha
  have HD := Lib.hid hb
  clear ha hb
  go_enter Tryz.func271, Tryz.ntmps271
  go_wp2
  go_loopw [5, 6, 7] (fun o i j wr => ∃ (p q : Nat) (done : List ByteArray), p ≤ a.length ∧ q ≤ b.length ∧ i = .int .i64 p ∧ j = .int .i64 q ∧ done.length ≤ p + q ∧ Hid (namesV a b = done ++ namesV (a.drop p) (b.drop q)) ∧ Hid (wr.ownsRow w.heap.size 9 1 o done.length (done.map Value.string)) ∧ Hid (Below w.heap.size w wr)) (fun _ i j _ => a.length + b.length - (intOf i).toNat - (intOf j).toNat)
  case atStart => exact ⟨0, 0, [], Nat.zero_le _, Nat.zero_le _, rfl, rfl, Nat.zero_le _, rfl, World.ownsRow_nil _ _ _ _, Below.refl _ _⟩
  case round =>
    obtain ⟨p, q, done, hp, hq, rfl, rfl, hdl, HR, HO, HB⟩ := hrel
    by_cases hend : p = a.length ∧ q = b.length
    · obtain ⟨rfl, rfl⟩ := hend
      have hr := HR.out
      rw [List.drop_length, List.drop_length, show namesV [] [] = [] by simp [namesV], List.append_nil] at hr
      have HX := Lib.hid hr
      clear hr
      go_wp2
      go_ret
      exact ⟨_, rfl, by rw [HX.out]; exact HO.out, HB.out⟩
    have hdl2 : done.length + 1 ≤ 2001 := by omega
    by_cases hql : q < b.length
    · by_cases hpl : p < a.length
      · have hall := names_ab a b hpl hql
        rw [← less_ltS, ← less_ltS] at hall
        obtain ⟨m1, hm1⟩ : ∃ m, Op.bytesLess a[p].name.toList b[q].name.toList = m := ⟨_, rfl⟩
        obtain ⟨m2, hm2⟩ : ∃ m, Op.bytesLess b[q].name.toList a[p].name.toList = m := ⟨_, rfl⟩
        rw [hm1, hm2] at hall
        have HALL := Lib.hid hall
        clear hend
        clear hall
        obtain ⟨oa, fa, rfl, hca, -⟩ := (HA.out.mono (vw_below HB.out)).elemN p hpl
        have ca : wr.cell? ⟨oa, fa + p * 2, none⟩ = some (.string a[p].name) := hca 0 _ rfl
        clear hca
        obtain ⟨ob, fb, rfl, hcb, -⟩ := (HD.out.mono (vw_below HB.out)).elemN q hql
        have cb : wr.cell? ⟨ob, fb + q * 2, none⟩ = some (.string b[q].name) := hcb 0 _ rfl
        clear hcb
        cases m1 with
        | true =>
          go_upto_region 8 with fail
          go_quiet (fail)
          have HB1 : Hid (Below w.heap.size w (wr.drewN nq)) := drewN_then HB.out nq
          have HO1 := Lib.hid (own_below HO.out (drewN_below wr nq))
          have ca' : (wr.drewN nq).cell? ⟨oa, fa + p * 2, none⟩ = some (.string a[p].name) := ca
          have cb' : (wr.drewN nq).cell? ⟨ob, fb + q * 2, none⟩ = some (.string b[q].name) := cb
          generalize wr.drewN nq = wr1 at HB1 HO1 ca' cb' ⊢
          clear HB HO ca cb
          have HB := HB1
          have HO := HO1
          clear HB1 HO1
          have ca := ca'
          clear ca'
          have cb := cb'
          clear cb'
          have HX : Hid (namesV a b = (done ++ [a[p].name]) ++ namesV (a.drop (p + 1)) (b.drop q)) := by
            show _ = _
            rw [HR.out, HALL.out, if_pos rfl]; simp
          have hsz := HB.out.size
          go_wp2_with (at_builtin; refine wpList_append_own _ rfl _ _ 53 rfl w.heap.size 9 i0 (.string ⟨#[]⟩) 1 16 Tryz.underlying53 hi hz0 hz1 hz2 rfl (by decide) _ _ _ rfl (HO.out.alloc _) ⟨wr1.heap.size, 0, none⟩ 1 1 [.string a[p].name] rfl rfl (one_new _ _ _) (by simp [Value.oneCell']) (by simp only [maxLen]; omega) (by omega) (by simp; omega) ?_)
          intro v' w2 hown' hgrow _
          have HB4 := Lib.hid ((HB.out.alloc hsz _).grown hgrow (by simp; omega) (fun q hq => (HO.out.lt q hq).1))
          have HO4 := Lib.hid (own_snoc hown')
          clear hown' hgrow
          go_wp2
          go_roundw
          case rel => exact ⟨(p + 1), q, done ++ [a[p].name], by omega, by omega, by go_num, by go_num, by rw [List.length_append, List.length_singleton]; omega, HX.out, HO4.out, HB4.out⟩
          case measure => simp [intOf]; omega
        | false =>
          go_upto_region 8 with fail
          go_quiet (fail)
          have HB1 : Hid (Below w.heap.size w (wr.drewN nq)) := drewN_then HB.out nq
          have HO1 := Lib.hid (own_below HO.out (drewN_below wr nq))
          have ca' : (wr.drewN nq).cell? ⟨oa, fa + p * 2, none⟩ = some (.string a[p].name) := ca
          have cb' : (wr.drewN nq).cell? ⟨ob, fb + q * 2, none⟩ = some (.string b[q].name) := cb
          generalize wr.drewN nq = wr1 at HB1 HO1 ca' cb' ⊢
          clear HB HO ca cb
          have HB := HB1
          have HO := HO1
          clear HB1 HO1
          have ca := ca'
          clear ca'
          have cb := cb'
          clear cb'
          cases m2 with
          | true =>
            go_upto_region 11 with fail
            go_quiet (fail)
            have HB1 : Hid (Below w.heap.size w (wr1.drewN nq)) := drewN_then HB.out nq
            have HO1 := Lib.hid (own_below HO.out (drewN_below wr1 nq))
            have ca' : (wr1.drewN nq).cell? ⟨oa, fa + p * 2, none⟩ = some (.string a[p].name) := ca
            have cb' : (wr1.drewN nq).cell? ⟨ob, fb + q * 2, none⟩ = some (.string b[q].name) := cb
            generalize wr1.drewN nq = wr2 at HB1 HO1 ca' cb' ⊢
            clear HB HO ca cb
            have HB := HB1
            have HO := HO1
            clear HB1 HO1
            have ca := ca'
            clear ca'
            have cb := cb'
            clear cb'
            have HX : Hid (namesV a b = (done ++ [b[q].name]) ++ namesV (a.drop p) (b.drop (q + 1))) := by
              show _ = _
              rw [HR.out, HALL.out, if_neg (by decide), if_pos rfl]; simp
            have hsz := HB.out.size
            go_wp2_with (at_builtin; refine wpList_append_own _ rfl _ _ 53 rfl w.heap.size 9 i0 (.string ⟨#[]⟩) 1 16 Tryz.underlying53 hi hz0 hz1 hz2 rfl (by decide) _ _ _ rfl (HO.out.alloc _) ⟨wr2.heap.size, 0, none⟩ 1 1 [.string b[q].name] rfl rfl (one_new _ _ _) (by simp [Value.oneCell']) (by simp only [maxLen]; omega) (by omega) (by simp; omega) ?_)
            intro v' w2 hown' hgrow _
            have HB4 := Lib.hid ((HB.out.alloc hsz _).grown hgrow (by simp; omega) (fun q hq => (HO.out.lt q hq).1))
            have HO4 := Lib.hid (own_snoc hown')
            clear hown' hgrow
            go_wp2
            go_roundw
            case rel => exact ⟨p, (q + 1), done ++ [b[q].name], by omega, by omega, by go_num, by go_num, by rw [List.length_append, List.length_singleton]; omega, HX.out, HO4.out, HB4.out⟩
            case measure => simp [intOf]; omega
          | false =>
            go_upto_region 11 with fail
            go_quiet (fail)
            have HB1 : Hid (Below w.heap.size w (wr1.drewN nq)) := drewN_then HB.out nq
            have HO1 := Lib.hid (own_below HO.out (drewN_below wr1 nq))
            have ca' : (wr1.drewN nq).cell? ⟨oa, fa + p * 2, none⟩ = some (.string a[p].name) := ca
            have cb' : (wr1.drewN nq).cell? ⟨ob, fb + q * 2, none⟩ = some (.string b[q].name) := cb
            generalize wr1.drewN nq = wr2 at HB1 HO1 ca' cb' ⊢
            clear HB HO ca cb
            have HB := HB1
            have HO := HO1
            clear HB1 HO1
            have ca := ca'
            clear ca'
            have cb := cb'
            clear cb'
            have HX : Hid (namesV a b = (done ++ [a[p].name]) ++ namesV (a.drop (p + 1)) (b.drop (q + 1))) := by
              show _ = _
              rw [HR.out, HALL.out, if_neg (by decide), if_neg (by decide)]; simp
            have hsz := HB.out.size
            go_wp2_with (at_builtin; refine wpList_append_own _ rfl _ _ 53 rfl w.heap.size 9 i0 (.string ⟨#[]⟩) 1 16 Tryz.underlying53 hi hz0 hz1 hz2 rfl (by decide) _ _ _ rfl (HO.out.alloc _) ⟨wr2.heap.size, 0, none⟩ 1 1 [.string a[p].name] rfl rfl (one_new _ _ _) (by simp [Value.oneCell']) (by simp only [maxLen]; omega) (by omega) (by simp; omega) ?_)
            intro v' w2 hown' hgrow _
            have HB4 := Lib.hid ((HB.out.alloc hsz _).grown hgrow (by simp; omega) (fun q hq => (HO.out.lt q hq).1))
            have HO4 := Lib.hid (own_snoc hown')
            clear hown' hgrow
            go_wp2
            go_roundw
            case rel => exact ⟨(p + 1), (q + 1), done ++ [a[p].name], by omega, by omega, by go_num, by go_num, by rw [List.length_append, List.length_singleton]; omega, HX.out, HO4.out, HB4.out⟩
            case measure => simp [intOf]; omega
      · have HPE : Hid (p = a.length) := by show _ = _; omega
        obtain ⟨ob, fb, rfl, hcb, -⟩ := (HD.out.mono (vw_below HB.out)).elemN q hql
        have cb : wr.cell? ⟨ob, fb + q * 2, none⟩ = some (.string b[q].name) := hcb 0 _ rfl
        clear hcb
        clear hend
        go_upto_region 8 with fail
        have hg : decide (p < a.length) = false := by simpa using hpl
        have hg2 : decide (b.length ≤ q) = false := by simpa using hql
        have hg3 : decide (a.length ≤ p) = true := by simpa using hpl
        go_quiet (fail)
        have HB1 : Hid (Below w.heap.size w (wr.drewN nq)) := drewN_then HB.out nq
        have HO1 := Lib.hid (own_below HO.out (drewN_below wr nq))
        have cb' : (wr.drewN nq).cell? ⟨ob, fb + q * 2, none⟩ = some (.string b[q].name) := cb
        generalize wr.drewN nq = wr1 at HB1 HO1 cb' ⊢
        clear HB HO cb
        have HB := HB1
        have HO := HO1
        clear HB1 HO1
        have cb := cb'
        clear cb'
        go_upto_region 11 with fail
        go_quiet (fail)
        have HB1 : Hid (Below w.heap.size w (wr1.drewN nq)) := drewN_then HB.out nq
        have HO1 := Lib.hid (own_below HO.out (drewN_below wr1 nq))
        have cb' : (wr1.drewN nq).cell? ⟨ob, fb + q * 2, none⟩ = some (.string b[q].name) := cb
        generalize wr1.drewN nq = wr2 at HB1 HO1 cb' ⊢
        clear HB HO cb
        have HB := HB1
        have HO := HO1
        clear HB1 HO1
        have cb := cb'
        clear cb'
        have HX : Hid (namesV a b = (done ++ [b[q].name]) ++ namesV (a.drop p) (b.drop (q + 1))) := by
          show _ = _
          rw [HR.out, names_b a b HPE.out hql]; simp
        have hsz := HB.out.size
        go_wp2_with (at_builtin; refine wpList_append_own _ rfl _ _ 53 rfl w.heap.size 9 i0 (.string ⟨#[]⟩) 1 16 Tryz.underlying53 hi hz0 hz1 hz2 rfl (by decide) _ _ _ rfl (HO.out.alloc _) ⟨wr2.heap.size, 0, none⟩ 1 1 [.string b[q].name] rfl rfl (one_new _ _ _) (by simp [Value.oneCell']) (by simp only [maxLen]; omega) (by omega) (by simp; omega) ?_)
        intro v' w2 hown' hgrow _
        have HB4 := Lib.hid ((HB.out.alloc hsz _).grown hgrow (by simp; omega) (fun q hq => (HO.out.lt q hq).1))
        have HO4 := Lib.hid (own_snoc hown')
        clear hown' hgrow
        go_wp2
        go_roundw
        case rel => exact ⟨p, (q + 1), done ++ [b[q].name], by omega, by omega, by go_num, by go_num, by rw [List.length_append, List.length_singleton]; omega, HX.out, HO4.out, HB4.out⟩
        case measure => simp [intOf]; omega
    · have HQE : Hid (q = b.length) := by show _ = _; omega
      have hpl : p < a.length := by omega
      clear hend
      obtain ⟨oa, fa, rfl, hca, -⟩ := (HA.out.mono (vw_below HB.out)).elemN p hpl
      have ca : wr.cell? ⟨oa, fa + p * 2, none⟩ = some (.string a[p].name) := hca 0 _ rfl
      clear hca
      go_upto_region 8 with fail
      have hg2 : decide (b.length ≤ q) = true := by simpa using hql
      go_quiet (fail)
      have HB1 : Hid (Below w.heap.size w (wr.drewN nq)) := drewN_then HB.out nq
      have HO1 := Lib.hid (own_below HO.out (drewN_below wr nq))
      have ca' : (wr.drewN nq).cell? ⟨oa, fa + p * 2, none⟩ = some (.string a[p].name) := ca
      generalize wr.drewN nq = wr1 at HB1 HO1 ca' ⊢
      clear HB HO ca
      have HB := HB1
      have HO := HO1
      clear HB1 HO1
      have ca := ca'
      clear ca'
      have HX : Hid (namesV a b = (done ++ [a[p].name]) ++ namesV (a.drop (p + 1)) (b.drop q)) := by
        show _ = _
        rw [HR.out, names_a a b hpl HQE.out]; simp
      have hsz := HB.out.size
      go_wp2_with (at_builtin; refine wpList_append_own _ rfl _ _ 53 rfl w.heap.size 9 i0 (.string ⟨#[]⟩) 1 16 Tryz.underlying53 hi hz0 hz1 hz2 rfl (by decide) _ _ _ rfl (HO.out.alloc _) ⟨wr1.heap.size, 0, none⟩ 1 1 [.string a[p].name] rfl rfl (one_new _ _ _) (by simp [Value.oneCell']) (by simp only [maxLen]; omega) (by omega) (by simp; omega) ?_)
      intro v' w2 hown' hgrow _
      have HB4 := Lib.hid ((HB.out.alloc hsz _).grown hgrow (by simp; omega) (fun q hq => (HO.out.lt q hq).1))
      have HO4 := Lib.hid (own_snoc hown')
      clear hown' hgrow
      go_wp2
      go_roundw
      case rel => exact ⟨(p + 1), q, done ++ [a[p].name], by omega, by omega, by go_num, by go_num, by rw [List.length_append, List.length_singleton]; omega, HX.out, HO4.out, HB4.out⟩
      case measure => simp [intOf]; omega
end Go.Proofs.YtnmhicgbdalniaaGreatDoor
