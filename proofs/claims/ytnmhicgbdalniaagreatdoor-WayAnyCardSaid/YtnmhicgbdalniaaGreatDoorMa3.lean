import Derived.Test.YtnmhicgbdalniaaGreatDoorShelf
import Derived.Test.YtnmhicgbdalniaaGreatDoorMa1
import Derived.Test.YtnmhicgbdalniaaGreatDoorMa2
import Derived.Sort.OwnSorted
import Derived.Sort.Grow
import Derived.Lib.OwnBridge
import Derived.BigQuiet
namespace Go.Proofs.YtnmhicgbdalniaaGreatDoor
open Go.RowKit Go.Sort

/-- A row of strings, in memory that is new. -/
def DomsDone (l : List (List UInt8)) (w : World) (e : Ending) (w' : World) : Prop := ∃ sv, e = .returned sv ∧ w'.ownsRow w.heap.size 9 1 sv l.length (l.map encStr) ∧ Below w.heap.size w w'
theorem doms_left {w w1 : World} {g cap n nn q : Nat} {os : Array Obj} {ss : List (List UInt8)} (hown : w1.ownsRow w.heap.size 9 1 (.slice (some ⟨g, 0, none⟩) n cap) n (ss.map encStr)) (hbel : Below w.heap.size w w1) (hbg : w.heap.size ≤ g) (hlen : ss.length = n) :
    DomsDone (insAll ss) w (.returned (.slice (some ⟨g, 0, none⟩) (Lib.compact (ss.mergeSort fun x y => decide (x ≤ y))).length cap))
      (putRow encStr (Sort.ahead (grow (putRow encStr (Sort.ahead w1 nn) g 0 (ss.mergeSort fun x y => decide (x ≤ y)).toArray) os) q) g 0 (Lib.compact (ss.mergeSort fun x y => decide (x ≤ y)) ++ List.replicate (n - (Lib.compact (ss.mergeSort fun x y => decide (x ≤ y))).length) []).toArray) := by
  have hl2 : (ss.mergeSort fun x y => decide (x ≤ y)).length = ss.length := List.length_mergeSort ss
  have hle := Lib.compact_length_le (ss.mergeSort fun x y => decide (x ≤ y))
  subst hlen
  rw [insAll_eq]
  rcases hown.2 with ⟨h0, _⟩ | ⟨g', cap', cur, hv, hbase, hb, h1, h2, h3, h4⟩
  · cases h0
  cases hv
  have hs := ownsRow_sorted (n := nn) (os := os) (ts := ss.mergeSort fun x y => decide (x ≤ y)) hl2 hbase hb h1 h2 h3
  have hc := Lib.ownsRow_putRow (q := q) (k := (Lib.compact (ss.mergeSort fun x y => decide (x ≤ y))).length) (ys := Lib.compact (ss.mergeSort fun x y => decide (x ≤ y)) ++ List.replicate (ss.length - (Lib.compact (ss.mergeSort fun x y => decide (x ≤ y))).length) []) hs (by simp; omega) (by omega)
  rw [List.take_left] at hc
  exact ⟨_, rfl, hc, Lib.below_putRow (hbel.grown (grownBy_sorted _) hbel.size (fun j hj => by cases hj; exact hbase)) hbg⟩
theorem own_base {w : World} {base base' : Nat} {e : TypeId} {size : Nat} {v : Value} {n : Nat} {xs : List Value} (h : w.ownsRow base e size v n xs) (hb : base' ≤ base) : w.ownsRow base' e size v n xs := by
  obtain ⟨h1, h2 | ⟨g, cap, cur, h3, h4, h5⟩⟩ := h
  · exact ⟨h1, .inl h2⟩
  · exact ⟨h1, .inr ⟨g, cap, cur, h3, by omega, h5⟩⟩
theorem info_str : (Tryz.prog.info? 9).map (fun i => (i.zero, i.size, i.bytes)) = some (some (.string ⟨#[]⟩), 1, 16) := by kernel_rfl
set_option maxHeartbeats 4000000 in
set_option maxRecDepth 100000 in
theorem Domains_calls (vs : Value) (s : St) (key : ByteArray) (w : World) (hs : Kd.state.V (vw w []) vs s) (hn : s.nodes.length ≤ 1000) :
    Calls Tryz.prog 179 #[vs, .string key] w (DomsDone (domsV s.nodes key) w) := by
  obtain ⟨i0, hi, hz0, hz1, hz2⟩ := info_parts info_str
  obtain ⟨cs, rfl, hks⟩ := hs
  obtain ⟨A1, c1, A2, c2, A3, c3, rfl, s1, -, -⟩ := hks
  have S1 := Lib.hid s1
  clear s1
  go_enter Tryz.func179, Tryz.ntmps179
  go_wp2
  obtain ⟨W, hW⟩ : ∃ W : World, W = w.alloc (.cells #[.slice A1 s.nodes.length c1, .slice A2 s.pods.length c2, .slice A3 s.budgets.length c3] 26) := ⟨_, rfl⟩
  rw [← hW]
  have hbw : Below w.heap.size w W := by rw [hW]; exact alloc_below _ _
  have k1 : W.heap[w.heap.size]? = some (.cells #[.slice A1 s.nodes.length c1, .slice A2 s.pods.length c2, .slice A3 s.budgets.length c3] 26 (0, 0)) := by
    rw [hW]; exact blk_last _ _
  have HBW := Lib.hid hbw
  obtain ⟨z, zf⟩ := blk_all k1
  clear hbw k1 hW
  go_wp2
  go_loopw [5, 13] (fun o i wr => ∃ k : Nat, k ≤ s.nodes.length ∧ i = .int .i64 k ∧ Hid (wr.ownsRow W.heap.size 9 1 o (domsL (s.nodes.take k) key).length (((domsL (s.nodes.take k) key).map bs).map encStr)) ∧ Hid (Below W.heap.size W wr)) (fun _ i _ => s.nodes.length - (intOf i).toNat)
  case atStart => exact ⟨0, Nat.zero_le _, rfl, World.ownsRow_nil _ _ _ _, Below.refl _ _⟩
  case round =>
    obtain ⟨k, hk, rfl, HO, HB⟩ := hrel
    clear z zf
    by_cases hlt : k < s.nodes.length
    · have hdl : (domsL (s.nodes.take k) key).length ≤ k := by
        have := domsL_len (s.nodes.take k) key
        rw [List.length_take] at this; omega
      have hsn := domsL_snoc s.nodes key hlt
      obtain ⟨b, off, cs, rfl, hn2, hc⟩ := S1.out.both (Below.then HBW.out HB.out) k hlt
      obtain ⟨x, hx⟩ : ∃ x, s.nodes[k] = x := ⟨_, rfl⟩
      rw [hx] at hn2 hsn
      obtain ⟨D1, g1, D2, g2, D3, g3, rfl, -, -, t2, -⟩ := hn2
      have T2 : Hid (Kd.pair.S (vw w []) (.slice D2 x.labels.length g2) x.labels) := t2
      have HC : Hid (wr.rangeAt b (off + k * 5) _) := hc
      have HSN := Lib.hid hsn
      clear hc hsn hx t2
      obtain ⟨d, ok, hd⟩ : ∃ d ok, getV x.labels key = (d, ok) := ⟨_, _, rfl⟩
      have HD := Lib.hid hd
      clear hd
      have hsz := HB.out.size
      have HB2 : Hid (Below W.heap.size W (wr.alloc (.cells #[.string x.name, .slice D1 x.cap.length g1, .slice D2 x.labels.length g2, .slice D3 x.taints.length g3, .bool x.cordon] 94))) := Below.then HB.out (alloc_below _ _)
      go_upto_region 5 with (with_reducible refine wpList_load_mid rfl 94 _ rfl b (off + k * 5) rfl _ _ HC.out Tryz.underlying94 rfl (by kernel_rfl) ?_)
      generalize hU : wr.alloc (.cells #[.string x.name, .slice D1 x.cap.length g1, .slice D2 x.labels.length g2, .slice D3 x.taints.length g3, .bool x.cordon] 94) = U at HB2 ⊢
      have hub : U.heap[wr.heap.size]? = some (.cells #[.string x.name, .slice D1 x.cap.length g1, .slice D2 x.labels.length g2, .slice D3 x.taints.length g3, .bool x.cordon] 94 (0, 0)) := by rw [← hU]; exact blk_last _ _
      have hue : Below wr.heap.size wr U := by rw [← hU]; exact alloc_below _ _
      have HOU := Lib.hid (own_below HO.out hue)
      have TU : Hid (Kd.pair.S (vw U []) (.slice D2 x.labels.length g2) x.labels) := T2.out.mono (vw_below (Below.then HBW.out HB2.out))
      obtain ⟨y, yf⟩ := blk_all hub
      clear hU hub hue
      go_wp2_with fail
      refine (Get_calls _ x.labels key _ TU.out).mono ?_
      unfold GetDone
      rw [HD.out]
      rintro e w1 ⟨rfl, hb1⟩
      have HB3 := Lib.hid (Below.then HB2.out hb1)
      have HO1 := Lib.hid (own_below HOU.out hb1)
      clear hb1 y yf
      simp only
      rw [HD.out] at HSN
      cases ok with
      | false =>
        have hs2 : domsL (s.nodes.take (k + 1)) key = domsL (s.nodes.take k) key := by rw [HSN.out]; simp
        have HS2 := Lib.hid hs2
        clear hs2
        go_wp2
        go_roundw
        case rel => exact ⟨k + 1, by omega, by go_num, by rw [HS2.out]; exact HO1, HB3.out⟩
        case measure => simp [intOf]; omega
      | true =>
        have hs2 : domsL (s.nodes.take (k + 1)) key = domsL (s.nodes.take k) key ++ [d] := by rw [HSN.out]; simp
        have HS2 := Lib.hid hs2
        clear hs2
        have hsz1 := HB3.out.size
        go_wp2_with (at_builtin; refine wpList_append_own _ rfl _ _ 53 rfl W.heap.size 9 i0 (.string ⟨#[]⟩) 1 16 Tryz.underlying53 hi hz0 hz1 hz2 rfl (by decide) _ _ _ rfl (HO1.out.alloc _) ⟨w1.heap.size, 0, none⟩ 1 1 [.string d] rfl rfl (one_new _ _ _) (by simp [Value.oneCell']) (by simp only [maxLen]; omega) (by omega) (by simp; omega) ?_)
        intro v' w2 hown' hgrow _
        have HO2 : Hid (w2.ownsRow W.heap.size 9 1 v' (domsL (s.nodes.take (k + 1)) key).length (((domsL (s.nodes.take (k + 1)) key).map bs).map encStr)) := by
          show World.ownsRow _ _ _ _ _ _ _
          rw [HS2.out, List.length_append, List.map_append, List.map_append, List.map_map]; exact hown'
        have HB4 := Lib.hid ((HB3.out.alloc hsz1 _).grown hgrow (by simp; omega) (fun q hq => (HO1.out.lt q hq).1))
        clear hown' hgrow
        go_wp2
        go_roundw
        case rel => exact ⟨k + 1, by omega, by go_num, HO2.out, HB4.out⟩
        case measure => simp [intOf]; omega
    · obtain rfl : k = s.nodes.length := by omega
      have ho := HO.out
      rw [List.take_length] at ho
      have hdl := domsL_len s.nodes key
      have hdv : domsV s.nodes key = insAll ((domsL s.nodes key).map bs) := rfl
      obtain ⟨ss, hss⟩ : ∃ ss, (domsL s.nodes key).map bs = ss := ⟨_, rfl⟩
      have hsl : (domsL s.nodes key).length = ss.length := by rw [← hss, List.length_map]
      rw [hss, hsl] at ho
      rw [hss] at hdv
      have HDV := Lib.hid hdv
      rw [hsl] at hdl
      have HO3 := Lib.hid (own_base ho HBW.out.size)
      have HB3 := Lib.hid (Below.then HBW.out HB.out)
      clear HO ho hss hsl hdv
      rcases HO3.out.2 with ⟨rfl, h0⟩ | ⟨g1, cap1, cur1, rfl, -⟩
      · have he : ss = [] := List.eq_nil_of_length_eq_zero h0
        clear h0
        have HE := Lib.hid he
        clear he
        go_wp2_with (first
          | (go_at_call 257; refine (Tryz.slices_Sort_string_none none 0 _).mono ?_; rintro e w' ⟨rfl, rfl⟩)
          | (go_at_call 258; refine (Tryz.slices_Compact_string_empty none 0 _).mono ?_; rintro e w' ⟨rfl, rfl⟩))
        go_ret
        rw [HDV.out, HE.out]
        exact ⟨_, rfl, World.ownsRow_nil _ _ _ _, HB3.out⟩
      · obtain ⟨g, cap, hv, hbg, hgl, hncap, hcm, hlen, hH⟩ := Lib.holds_of_ownsRow HO3.out (by simp)
        cases hv
        have hsort := Tryz.slices_Sort_string g1 0 cap1 ss wr hH hgl (by omega)
        have HX := Lib.hid (And.intro hbg (And.intro hgl (And.intro hncap hH)))
        have HSO := Lib.hid hsort
        clear hsort hbg hgl hncap hH
        go_wp2_with fail
        refine HSO.out.mono ?_
        rintro e w2 ⟨rfl, nn, os, rfl⟩
        have hl2 : (ss.mergeSort fun x y => decide (x ≤ y)).length = ss.length := List.length_mergeSort ss
        have hH2 : Holds encStr (grow (putRow encStr (Sort.ahead wr nn) g1 0 (ss.mergeSort fun x y => decide (x ≤ y)).toArray) os) g1 0 (ss.mergeSort fun x y => decide (x ≤ y)).toArray :=
          holds_grow encStr _ os g1 0 _ (by simpa [putRow, mapBlock, Sort.ahead] using HX.out.2.1) (holds_putRow encStr _ g1 0 _ _ (holds_ahead encStr wr nn g1 0 _ HX.out.2.2.2) (by simp))
        have hcomp := Tryz.slices_Compact_string g1 0 cap1 (ss.mergeSort fun x y => decide (x ≤ y)) _ hH2 (by omega) (by have := HX.out.2.2.1; omega)
        rw [hl2] at hcomp
        have HCO := Lib.hid hcomp
        clear hcomp hH2 hl2
        go_wp2_with fail
        refine HCO.out.mono ?_
        rintro e w3 ⟨rfl, q, rfl⟩
        go_wp2
        go_ret
        rw [HDV.out]
        exact doms_left HO3.out HB3.out HX.out.1 rfl
end Go.Proofs.YtnmhicgbdalniaaGreatDoor
namespace Go.Proofs.YtnmhicgbdalniaaGreatDoor
open Go.RowKit Go.Sort

def RowDone (l : List ByteArray) (w : World) (e : Ending) (w' : World) : Prop := ∃ sv, e = .returned sv ∧ w'.ownsRow w.heap.size 9 1 sv l.length (l.map Value.string) ∧ Below w.heap.size w w'
theorem namesV_nil_l (b : List Amt) : namesV [] b = b.map (·.name) := by cases b <;> simp [namesV]
theorem namesV_nil_r : ∀ (a : List Amt), namesV a [] = a.map (·.name)
  | [] => by simp [namesV]
  | x :: a => by rw [namesV, namesV_nil_r a, List.map_cons]
theorem names_a (a b : List Amt) {p q : Nat} (hp : p < a.length) (hq : q = b.length) : namesV (a.drop p) (b.drop q) = a[p].name :: namesV (a.drop (p + 1)) (b.drop q) := by
  subst hq
  rw [List.drop_length, namesV_nil_r, namesV_nil_r, List.drop_eq_getElem_cons hp, List.map_cons]
theorem names_b (a b : List Amt) {p q : Nat} (hp : p = a.length) (hq : q < b.length) : namesV (a.drop p) (b.drop q) = b[q].name :: namesV (a.drop p) (b.drop (q + 1)) := by
  subst hp
  rw [List.drop_length, namesV_nil_l, namesV_nil_l, List.drop_eq_getElem_cons hq, List.map_cons]
theorem names_ab (a b : List Amt) {p q : Nat} (hp : p < a.length) (hq : q < b.length) : namesV (a.drop p) (b.drop q) =
    if ltS a[p].name b[q].name = true then a[p].name :: namesV (a.drop (p + 1)) (b.drop q) else if ltS b[q].name a[p].name = true then b[q].name :: namesV (a.drop p) (b.drop (q + 1)) else a[p].name :: namesV (a.drop (p + 1)) (b.drop (q + 1)) := by
  conv => lhs; rw [List.drop_eq_getElem_cons hp, List.drop_eq_getElem_cons hq, namesV]
  rw [← List.drop_eq_getElem_cons hp, ← List.drop_eq_getElem_cons hq]
theorem own_snoc {w2 : World} {base : Nat} {e : TypeId} {v : Value} {l : List ByteArray} {x : ByteArray} (h : w2.ownsRow base e 1 v (l.length + 1) (l.map Value.string ++ [.string x])) : w2.ownsRow base e 1 v (l ++ [x]).length ((l ++ [x]).map Value.string) := by
  rw [List.length_append, List.map_append]; exact h
set_option maxHeartbeats 1000000 in
set_option maxRecDepth 100000 in
theorem names_calls (va vb : Value) (a b : List Amt) (w : World) (ha : Kd.amt.S (vw w []) va a) (hb : Kd.amt.S (vw w []) vb b) (hla : a.length ≤ 1000) (hlb : b.length ≤ 1000) :
    Calls Tryz.prog 271 #[va, vb] w (RowDone (namesV a b) w) := by
  obtain ⟨i0, hi, hz0, hz1, hz2⟩ := info_parts info_str
  obtain ⟨A, cap, rfl, ha⟩ := ha.val
  obtain ⟨B, cap2, rfl, hb⟩ := hb.val
  obtain ⟨-, fa1, fa2⟩ := ha.form
  obtain ⟨-, fb1, fb2⟩ := hb.form
  have HA := Lib.hid ha
  have HD := Lib.hid hb
  clear ha hb
  go_enter Tryz.func271, Tryz.ntmps271
  go_wp2
  go_loopw [5, 6, 7] (fun o i j wr => ∃ (p q : Nat) (done : List ByteArray), p ≤ a.length ∧ q ≤ b.length ∧ i = .int .i64 p ∧ j = .int .i64 q ∧ done.length ≤ p + q ∧ Hid (namesV a b = done ++ namesV (a.drop p) (b.drop q)) ∧ Hid (wr.ownsRow w.heap.size 9 1 o done.length (done.map Value.string)) ∧ Hid (Below w.heap.size w wr)) (fun _ i j _ => a.length + b.length - (intOf i).toNat - (intOf j).toNat)
  case atStart => exact ⟨0, 0, [], Nat.zero_le _, Nat.zero_le _, rfl, rfl, Nat.zero_le _, rfl, World.ownsRow_nil _ _ _ _, Below.refl _ _⟩
  case round =>
    obtain ⟨p, q, done, hp, hq, rfl, rfl, hdl, HR, HO, HB⟩ := hrel
    by_cases hend : p = a.length ∧ q = b.length
    · obtain ⟨rfl, rfl⟩ := hend
      have hr := HR.out
      rw [List.drop_length, List.drop_length, show namesV [] [] = [] by simp [namesV], List.append_nil] at hr
      have HX := Lib.hid hr
      clear hr
      go_wp2
      go_ret
      exact ⟨_, rfl, by rw [HX.out]; exact HO.out, HB.out⟩
    have hdl2 : done.length + 1 ≤ 2001 := by omega
    by_cases hql : q < b.length
    · by_cases hpl : p < a.length
      · have hall := names_ab a b hpl hql
        rw [← less_ltS, ← less_ltS] at hall
        obtain ⟨m1, hm1⟩ : ∃ m, Op.bytesLess a[p].name.toList b[q].name.toList = m := ⟨_, rfl⟩
        obtain ⟨m2, hm2⟩ : ∃ m, Op.bytesLess b[q].name.toList a[p].name.toList = m := ⟨_, rfl⟩
        rw [hm1, hm2] at hall
        have HALL := Lib.hid hall
        clear hend
        clear hall
        obtain ⟨oa, fa, rfl, hca, -⟩ := (HA.out.mono (vw_below HB.out)).elemN p hpl
        have ca : wr.cell? ⟨oa, fa + p * 2, none⟩ = some (.string a[p].name) := hca 0 _ rfl
        clear hca
        obtain ⟨ob, fb, rfl, hcb, -⟩ := (HD.out.mono (vw_below HB.out)).elemN q hql
        have cb : wr.cell? ⟨ob, fb + q * 2, none⟩ = some (.string b[q].name) := hcb 0 _ rfl
        clear hcb
        cases m1 with
        | true =>
          go_upto_region 8 with fail
          go_quiet (fail)
          have HB1 : Hid (Below w.heap.size w (wr.drewN nq)) := drewN_then HB.out nq
          have HO1 := Lib.hid (own_below HO.out (drewN_below wr nq))
          have ca' : (wr.drewN nq).cell? ⟨oa, fa + p * 2, none⟩ = some (.string a[p].name) := ca
          have cb' : (wr.drewN nq).cell? ⟨ob, fb + q * 2, none⟩ = some (.string b[q].name) := cb
          generalize wr.drewN nq = wr1 at HB1 HO1 ca' cb' ⊢
          clear HB HO ca cb
          have HB := HB1
          have HO := HO1
          clear HB1 HO1
          have ca := ca'
          clear ca'
          have cb := cb'
          clear cb'
          have HX : Hid (namesV a b = (done ++ [a[p].name]) ++ namesV (a.drop (p + 1)) (b.drop q)) := by
            show _ = _
            rw [HR.out, HALL.out, if_pos rfl]; simp
          have hsz := HB.out.size
          go_wp2_with (at_builtin; refine wpList_append_own _ rfl _ _ 53 rfl w.heap.size 9 i0 (.string ⟨#[]⟩) 1 16 Tryz.underlying53 hi hz0 hz1 hz2 rfl (by decide) _ _ _ rfl (HO.out.alloc _) ⟨wr1.heap.size, 0, none⟩ 1 1 [.string a[p].name] rfl rfl (one_new _ _ _) (by simp [Value.oneCell']) (by simp only [maxLen]; omega) (by omega) (by simp; omega) ?_)
          intro v' w2 hown' hgrow _
          have HB4 := Lib.hid ((HB.out.alloc hsz _).grown hgrow (by simp; omega) (fun q hq => (HO.out.lt q hq).1))
          have HO4 := Lib.hid (own_snoc hown')
          clear hown' hgrow
          go_wp2
          go_roundw
          case rel => exact ⟨(p + 1), q, done ++ [a[p].name], by omega, by omega, by go_num, by go_num, by rw [List.length_append, List.length_singleton]; omega, HX.out, HO4.out, HB4.out⟩
          case measure => simp [intOf]; omega
        | false =>
          go_upto_region 8 with fail
          go_quiet (fail)
          have HB1 : Hid (Below w.heap.size w (wr.drewN nq)) := drewN_then HB.out nq
          have HO1 := Lib.hid (own_below HO.out (drewN_below wr nq))
          have ca' : (wr.drewN nq).cell? ⟨oa, fa + p * 2, none⟩ = some (.string a[p].name) := ca
          have cb' : (wr.drewN nq).cell? ⟨ob, fb + q * 2, none⟩ = some (.string b[q].name) := cb
          generalize wr.drewN nq = wr1 at HB1 HO1 ca' cb' ⊢
          clear HB HO ca cb
          have HB := HB1
          have HO := HO1
          clear HB1 HO1
          have ca := ca'
          clear ca'
          have cb := cb'
          clear cb'
          cases m2 with
          | true =>
            go_upto_region 11 with fail
            go_quiet (fail)
            have HB1 : Hid (Below w.heap.size w (wr1.drewN nq)) := drewN_then HB.out nq
            have HO1 := Lib.hid (own_below HO.out (drewN_below wr1 nq))
            have ca' : (wr1.drewN nq).cell? ⟨oa, fa + p * 2, none⟩ = some (.string a[p].name) := ca
            have cb' : (wr1.drewN nq).cell? ⟨ob, fb + q * 2, none⟩ = some (.string b[q].name) := cb
            generalize wr1.drewN nq = wr2 at HB1 HO1 ca' cb' ⊢
            clear HB HO ca cb
            have HB := HB1
            have HO := HO1
            clear HB1 HO1
            have ca := ca'
            clear ca'
            have cb := cb'
            clear cb'
            have HX : Hid (namesV a b = (done ++ [b[q].name]) ++ namesV (a.drop p) (b.drop (q + 1))) := by
              show _ = _
              rw [HR.out, HALL.out, if_neg (by decide), if_pos rfl]; simp
            have hsz := HB.out.size
            go_wp2_with (at_builtin; refine wpList_append_own _ rfl _ _ 53 rfl w.heap.size 9 i0 (.string ⟨#[]⟩) 1 16 Tryz.underlying53 hi hz0 hz1 hz2 rfl (by decide) _ _ _ rfl (HO.out.alloc _) ⟨wr2.heap.size, 0, none⟩ 1 1 [.string b[q].name] rfl rfl (one_new _ _ _) (by simp [Value.oneCell']) (by simp only [maxLen]; omega) (by omega) (by simp; omega) ?_)
            intro v' w2 hown' hgrow _
            have HB4 := Lib.hid ((HB.out.alloc hsz _).grown hgrow (by simp; omega) (fun q hq => (HO.out.lt q hq).1))
            have HO4 := Lib.hid (own_snoc hown')
            clear hown' hgrow
            go_wp2
            go_roundw
            case rel => exact ⟨p, (q + 1), done ++ [b[q].name], by omega, by omega, by go_num, by go_num, by rw [List.length_append, List.length_singleton]; omega, HX.out, HO4.out, HB4.out⟩
            case measure => simp [intOf]; omega
          | false =>
            go_upto_region 11 with fail
            go_quiet (fail)
            have HB1 : Hid (Below w.heap.size w (wr1.drewN nq)) := drewN_then HB.out nq
            have HO1 := Lib.hid (own_below HO.out (drewN_below wr1 nq))
            have ca' : (wr1.drewN nq).cell? ⟨oa, fa + p * 2, none⟩ = some (.string a[p].name) := ca
            have cb' : (wr1.drewN nq).cell? ⟨ob, fb + q * 2, none⟩ = some (.string b[q].name) := cb
            generalize wr1.drewN nq = wr2 at HB1 HO1 ca' cb' ⊢
            clear HB HO ca cb
            have HB := HB1
            have HO := HO1
            clear HB1 HO1
            have ca := ca'
            clear ca'
            have cb := cb'
            clear cb'
            have HX : Hid (namesV a b = (done ++ [a[p].name]) ++ namesV (a.drop (p + 1)) (b.drop (q + 1))) := by
              show _ = _
              rw [HR.out, HALL.out, if_neg (by decide), if_neg (by decide)]; simp
            have hsz := HB.out.size
            go_wp2_with (at_builtin; refine wpList_append_own _ rfl _ _ 53 rfl w.heap.size 9 i0 (.string ⟨#[]⟩) 1 16 Tryz.underlying53 hi hz0 hz1 hz2 rfl (by decide) _ _ _ rfl (HO.out.alloc _) ⟨wr2.heap.size, 0, none⟩ 1 1 [.string a[p].name] rfl rfl (one_new _ _ _) (by simp [Value.oneCell']) (by simp only [maxLen]; omega) (by omega) (by simp; omega) ?_)
            intro v' w2 hown' hgrow _
            have HB4 := Lib.hid ((HB.out.alloc hsz _).grown hgrow (by simp; omega) (fun q hq => (HO.out.lt q hq).1))
            have HO4 := Lib.hid (own_snoc hown')
            clear hown' hgrow
            go_wp2
            go_roundw
            case rel => exact ⟨(p + 1), (q + 1), done ++ [a[p].name], by omega, by omega, by go_num, by go_num, by rw [List.length_append, List.length_singleton]; omega, HX.out, HO4.out, HB4.out⟩
            case measure => simp [intOf]; omega
      · have HPE : Hid (p = a.length) := by show _ = _; omega
        obtain ⟨ob, fb, rfl, hcb, -⟩ := (HD.out.mono (vw_below HB.out)).elemN q hql
        have cb : wr.cell? ⟨ob, fb + q * 2, none⟩ = some (.string b[q].name) := hcb 0 _ rfl
        clear hcb
        clear hend
        go_upto_region 8 with fail
        have hg : decide (p < a.length) = false := by simpa using hpl
        have hg2 : decide (b.length ≤ q) = false := by simpa using hql
        have hg3 : decide (a.length ≤ p) = true := by simpa using hpl
        go_quiet (fail)
        have HB1 : Hid (Below w.heap.size w (wr.drewN nq)) := drewN_then HB.out nq
        have HO1 := Lib.hid (own_below HO.out (drewN_below wr nq))
        have cb' : (wr.drewN nq).cell? ⟨ob, fb + q * 2, none⟩ = some (.string b[q].name) := cb
        generalize wr.drewN nq = wr1 at HB1 HO1 cb' ⊢
        clear HB HO cb
        have HB := HB1
        have HO := HO1
        clear HB1 HO1
        have cb := cb'
        clear cb'
        go_upto_region 11 with fail
        go_quiet (fail)
        have HB1 : Hid (Below w.heap.size w (wr1.drewN nq)) := drewN_then HB.out nq
        have HO1 := Lib.hid (own_below HO.out (drewN_below wr1 nq))
        have cb' : (wr1.drewN nq).cell? ⟨ob, fb + q * 2, none⟩ = some (.string b[q].name) := cb
        generalize wr1.drewN nq = wr2 at HB1 HO1 cb' ⊢
        clear HB HO cb
        have HB := HB1
        have HO := HO1
        clear HB1 HO1
        have cb := cb'
        clear cb'
        have HX : Hid (namesV a b = (done ++ [b[q].name]) ++ namesV (a.drop p) (b.drop (q + 1))) := by
          show _ = _
          rw [HR.out, names_b a b HPE.out hql]; simp
        have hsz := HB.out.size
        go_wp2_with (at_builtin; refine wpList_append_own _ rfl _ _ 53 rfl w.heap.size 9 i0 (.string ⟨#[]⟩) 1 16 Tryz.underlying53 hi hz0 hz1 hz2 rfl (by decide) _ _ _ rfl (HO.out.alloc _) ⟨wr2.heap.size, 0, none⟩ 1 1 [.string b[q].name] rfl rfl (one_new _ _ _) (by simp [Value.oneCell']) (by simp only [maxLen]; omega) (by omega) (by simp; omega) ?_)
        intro v' w2 hown' hgrow _
        have HB4 := Lib.hid ((HB.out.alloc hsz _).grown hgrow (by simp; omega) (fun q hq => (HO.out.lt q hq).1))
        have HO4 := Lib.hid (own_snoc hown')
        clear hown' hgrow
        go_wp2
        go_roundw
        case rel => exact ⟨p, (q + 1), done ++ [b[q].name], by omega, by omega, by go_num, by go_num, by rw [List.length_append, List.length_singleton]; omega, HX.out, HO4.out, HB4.out⟩
        case measure => simp [intOf]; omega
    · have HQE : Hid (q = b.length) := by show _ = _; omega
      have hpl : p < a.length := by omega
      clear hend
      obtain ⟨oa, fa, rfl, hca, -⟩ := (HA.out.mono (vw_below HB.out)).elemN p hpl
      have ca : wr.cell? ⟨oa, fa + p * 2, none⟩ = some (.string a[p].name) := hca 0 _ rfl
      clear hca
      go_upto_region 8 with fail
      have hg2 : decide (b.length ≤ q) = true := by simpa using hql
      go_quiet (fail)
      have HB1 : Hid (Below w.heap.size w (wr.drewN nq)) := drewN_then HB.out nq
      have HO1 := Lib.hid (own_below HO.out (drewN_below wr nq))
      have ca' : (wr.drewN nq).cell? ⟨oa, fa + p * 2, none⟩ = some (.string a[p].name) := ca
      generalize wr.drewN nq = wr1 at HB1 HO1 ca' ⊢
      clear HB HO ca
      have HB := HB1
      have HO := HO1
      clear HB1 HO1
      have ca := ca'
      clear ca'
      have HX : Hid (namesV a b = (done ++ [a[p].name]) ++ namesV (a.drop (p + 1)) (b.drop q)) := by
        show _ = _
        rw [HR.out, names_a a b hpl HQE.out]; simp
      have hsz := HB.out.size
      go_wp2_with (at_builtin; refine wpList_append_own _ rfl _ _ 53 rfl w.heap.size 9 i0 (.string ⟨#[]⟩) 1 16 Tryz.underlying53 hi hz0 hz1 hz2 rfl (by decide) _ _ _ rfl (HO.out.alloc _) ⟨wr1.heap.size, 0, none⟩ 1 1 [.string a[p].name] rfl rfl (one_new _ _ _) (by simp [Value.oneCell']) (by simp only [maxLen]; omega) (by omega) (by simp; omega) ?_)
      intro v' w2 hown' hgrow _
      have HB4 := Lib.hid ((HB.out.alloc hsz _).grown hgrow (by simp; omega) (fun q hq => (HO.out.lt q hq).1))
      have HO4 := Lib.hid (own_snoc hown')
      clear hown' hgrow
      go_wp2
      go_roundw
      case rel => exact ⟨(p + 1), q, done ++ [a[p].name], by omega, by omega, by go_num, by go_num, by rw [List.length_append, List.length_singleton]; omega, HX.out, HO4.out, HB4.out⟩
      case measure => simp [intOf]; omega
end Go.Proofs.YtnmhicgbdalniaaGreatDoor
namespace Go.Proofs.YtnmhicgbdalniaaGreatDoor
open Go.RowKit Go.Sort

theorem namesV_mem : ∀ (a b : List Amt) (x : ByteArray), x ∈ namesV a b → x ∈ a.map (·.name) ∨ x ∈ b.map (·.name)
  | [], b, x, h => by rw [namesV_nil_l] at h; exact .inr h
  | a :: r, [], x, h => by rw [namesV_nil_r] at h; exact .inl h
  | a :: r, b :: t, x, h => by
    rw [namesV] at h
    split at h
    · rcases List.mem_cons.1 h with rfl | h
      · exact .inl (by simp)
      · rcases namesV_mem r (b :: t) x h with k | k
        · exact .inl (by rw [List.map_cons]; exact List.mem_cons_of_mem _ k)
        · exact .inr k
    · split at h
      · rcases List.mem_cons.1 h with rfl | h
        · exact .inr (by simp)
        · rcases namesV_mem (a :: r) t x h with k | k
          · exact .inl k
          · exact .inr (by rw [List.map_cons]; exact List.mem_cons_of_mem _ k)
      · rcases List.mem_cons.1 h with rfl | h
        · exact .inl (by simp)
        · rcases namesV_mem r t x h with k | k
          · exact .inl (by rw [List.map_cons]; exact List.mem_cons_of_mem _ k)
          · exact .inr (by rw [List.map_cons]; exact List.mem_cons_of_mem _ k)
termination_by a b => a.length + b.length
theorem namesV_len : ∀ (a b : List Amt), (namesV a b).length ≤ a.length + b.length
  | [], b => by rw [namesV_nil_l]; simp
  | a :: r, [] => by rw [namesV_nil_r]; simp
  | a :: r, b :: t => by
    rw [namesV]
    have h1 := namesV_len r (b :: t)
    have h2 := namesV_len (a :: r) t
    have h3 := namesV_len r t
    simp only [List.length_cons] at h1 h2 h3 ⊢
    split
    · simp only [List.length_cons]; omega
    · split <;> (simp only [List.length_cons]; omega)
termination_by a b => a.length + b.length
def AmtOk (x : Amt) : Prop := sok x.name ∧ i64 x.n
theorem amt_ok {w : World} {M : List Nat} {v : Value} {l : List Amt} (s : Kd.amt.S (vw w M) v l) : ∀ x ∈ l, AmtOk x := by
  intro x hx
  obtain ⟨A, c, rfl, s⟩ := s.val
  obtain ⟨j, hj, rfl⟩ := List.getElem_of_mem hx
  obtain ⟨_, _, _, _, h⟩ := s.elemN j hj
  exact h
theorem getA_ok : ∀ {l : List Amt}, (∀ x ∈ l, AmtOk x) → ∀ k, i64 (getA l k)
  | [], _, _ => ⟨by show (-9223372036854775808 : Int) ≤ 0; decide, by show (0 : Int) ≤ 9223372036854775807; decide⟩
  | x :: r, h, k => by
    unfold getA
    split
    · exact (h x (List.mem_cons_self ..)).2
    · exact getA_ok (fun y hy => h y (List.mem_cons_of_mem _ hy)) k
theorem addN_ok {a b : Int} (ha : i64 a) (hb : i64 b) : i64 (addN a b).1 := by
  unfold addN
  obtain ⟨a1, a2⟩ := ha
  obtain ⟨b1, b2⟩ := hb
  split
  · exact ⟨by decide, by decide⟩
  · split
    · exact ⟨by decide, by decide⟩
    · split
      · exact ⟨by decide, by decide⟩
      · exact ⟨by show _ ≤ a + b; omega, by show a + b ≤ _; omega⟩
theorem checkVec_len {l : List Amt} (h : checkVec l = 0) : l.length ≤ 8 := by
  unfold checkVec manyV at h
  split at h
  · cases h
  · omega
theorem addL_at (a b : List Amt) {l : List ByteArray} {k : Nat} (h : k < l.length) (out : List Amt) : addL a b (l.drop k) out =
    if (addN (getA a l[k]) (getA b l[k])).2 ≠ 0 then ([], (addN (getA a l[k]) (getA b l[k])).2) else addL a b (l.drop (k + 1)) (out ++ [⟨l[k], (addN (getA a l[k]) (getA b l[k])).1⟩]) := by
  rw [List.drop_eq_getElem_cons h, addL]
def VecDone (r : List Amt × Int) (w : World) (e : Ending) (w' : World) : Prop := ∃ A c, e = .returned (.tuple #[.slice A r.1.length c, .int .i64 r.2]) ∧ Kd.amt.S (vw w' []) (.slice A r.1.length c) r.1 ∧ Below w.heap.size w w'
theorem vec_none {r : List Amt × Int} {n : Int} {w w' : World} (h : r = ([], n)) (hb : Below w.heap.size w w') : VecDone r w (.returned (.tuple #[.slice none 0 0, .int .i64 n])) w' := by
  subst h
  exact ⟨none, 0, rfl, Kd.S.nil _ _, hb⟩
theorem vec_some {r : List Amt × Int} {l : List Amt} {A : Option Addr} {c : Nat} {n : Int} {w w' : World} (h : r = (l, n)) (s : Kd.amt.S (vw w' []) (.slice A l.length c) l) (hb : Below w.heap.size w w') : VecDone r w (.returned (.tuple #[.slice A l.length c, .int .i64 n])) w' := by
  subst h
  exact ⟨A, c, rfl, s, hb⟩
def WholeDone (A : Option Addr) (n c : Nat) (w : World) (e : Ending) (w' : World) : Prop := e = .returned (if 8 < n then .tuple #[.slice none 0 0, .int .i64 4] else .tuple #[.slice A n c, .int .i64 0]) ∧ w = w'
theorem whole_calls (A : Option Addr) (n c : Nat) (w : World) (hn : n ≤ 140737488351232) : Calls Tryz.prog 273 #[.slice A n c] w (WholeDone A n c w) := by
  go_enter Tryz.func273, Tryz.ntmps273
  by_cases h8 : 8 < n
  · have HX : Hid ((if 8 < n then Value.tuple #[.slice none 0 0, .int .i64 4] else .tuple #[.slice A n c, .int .i64 0]) = .tuple #[.slice none 0 0, .int .i64 4]) := if_pos h8
    go_wp2
    go_ret2
    exact ⟨by rw [HX.out]; rfl, rfl⟩
  · have HX : Hid ((if 8 < n then Value.tuple #[.slice none 0 0, .int .i64 4] else .tuple #[.slice A n c, .int .i64 0]) = .tuple #[.slice A n c, .int .i64 0]) := if_neg h8
    go_wp2
    go_ret2
    exact ⟨by rw [HX.out]; rfl, rfl⟩
theorem nx_vw0 (w : World) : (nx w 0 none).le (vw w []) := nx_vw (by simp)
set_option maxHeartbeats 4000000 in
set_option maxRecDepth 100000 in
theorem AddVec_calls (va vb : Value) (a b : List Amt) (w : World) (ha : Kd.amt.S (vw w []) va a) (hb : Kd.amt.S (vw w []) vb b) :
    Calls Tryz.prog 213 #[va, vb] w (VecDone (addVec a b) w) := by
  obtain ⟨i0, hi, hz0, hz1, hz2⟩ := info_parts info_Of2
  have hoa := amt_ok ha
  have hob := amt_ok hb
  obtain ⟨A, cap, rfl, ha⟩ := ha.val
  obtain ⟨B, cap2, rfl, hb⟩ := hb.val
  have HA := Lib.hid ha
  have HD := Lib.hid hb
  have HOA := Lib.hid hoa
  have HOB := Lib.hid hob
  clear ha hb hoa hob
  go_enter Tryz.func213, Tryz.ntmps213
  go_wp2_with fail
  refine (both_calls _ _ a b _ HA.out HD.out).mono ?_
  rintro e w1 ⟨rfl, hb⟩
  obtain ⟨n1, hn1⟩ : ∃ n1, orV (checkVec a) (checkVec b) = n1 := ⟨_, rfl⟩
  rw [hn1]
  have H1 := Lib.hid hb
  have HN := Lib.hid hn1
  clear hb hn1
  by_cases h0 : n1 ≠ 0
  · have t1 : (n1 == 0) = false := by simp [h0]
    have HX : Hid (addVec a b = ([], n1)) := by
      show _ = _
      have hn := HN.out
      unfold addVec
      by_cases c1 : checkVec a ≠ 0
      · rw [if_pos c1, ← hn, orV_l c1]
      · rw [if_neg c1]
        rw [orV_r (Decidable.not_not.1 c1)] at hn
        rw [hn, if_pos h0]
    go_wp2
    go_ret2
    exact vec_none HX.out H1.out
  obtain rfl : n1 = 0 := Decidable.not_not.1 h0
  have hca : checkVec a = 0 := by
    have hn := HN.out
    by_cases c1 : checkVec a ≠ 0
    · rw [orV_l c1] at hn; exact hn
    · exact Decidable.not_not.1 c1
  have hcb : checkVec b = 0 := by
    have hn := HN.out
    rwa [orV_r hca] at hn
  have la := checkVec_len hca
  have lb := checkVec_len hcb
  have HX : Hid (addVec a b = addL a b (namesV a b) []) := by
    show _ = _
    unfold addVec
    rw [if_neg (by rw [hca]; decide), if_neg (by rw [hcb]; decide)]
  clear h0 HN hca hcb
  go_wp2_with fail
  refine (names_calls _ _ a b _ (HA.out.mono (vw_below H1.out)) (HD.out.mono (vw_below H1.out)) (by omega) (by omega)).mono ?_
  rintro e w2 ⟨sv, rfl, ho, hb⟩
  have hnl := namesV_len a b
  have hnm : ∀ x ∈ namesV a b, sok x := fun x hx => by
    rcases namesV_mem a b x hx with h | h
    · obtain ⟨y, hy, rfl⟩ := List.mem_map.1 h
      exact (HOA.out y hy).1
    · obtain ⟨y, hy, rfl⟩ := List.mem_map.1 h
      exact (HOB.out y hy).1
  have hs : Kd.str.S (vw w2 []) sv (namesV a b) := Kd.S.of_own ho (by omega) (fun x hx => hnm x hx) (by simp)
  obtain ⟨l, hl⟩ : ∃ l, namesV a b = l := ⟨_, rfl⟩
  rw [hl] at hs hnl hnm HX
  obtain ⟨C, cc, rfl, hs⟩ := hs.val
  obtain ⟨-, fl1, fl2⟩ := hs.form
  have HL := Lib.hid hs
  have HNM := Lib.hid hnm
  have H2 := Lib.hid (Below.then H1.out hb)
  clear hb ho hs hl hnm H1
  go_wp2
  go_loopw [8, 9] (fun o i wr => ∃ (k : Nat) (out : List Amt), k ≤ l.length ∧ i = .int .i64 k ∧ out.length = k ∧ Hid (addL a b (l.drop k) out = addVec a b) ∧ Hid (Kd.amt.Own wr w2.heap.size 217 0 o out) ∧ Hid (Below w2.heap.size w2 wr)) (fun _ i _ => l.length - (intOf i).toNat)
  case atStart => exact ⟨0, [], Nat.zero_le _, rfl, rfl, HX.out.symm, Kd.Own.nil _ _ _ _ _, Below.refl _ _⟩
  case round =>
    clear HX
    obtain ⟨k, out, hk, rfl, hok, HR, HO, HB⟩ := hrel
    have HK := Lib.hid hok
    have hokl : out.length ≤ k := by omega
    clear hok
    by_cases hlt : k < l.length
    · obtain ⟨b', off, rfl, hc, hp⟩ := (HL.out.mono (vw_below HB.out)).elem1 k hlt
      have HP := Lib.hid hp
      have hr := HR.out
      rw [addL_at a b hlt] at hr
      have HR2 := Lib.hid hr
      have HWA := Lib.hid (HA.out.mono (vw_below (Below.then H2.out HB.out)))
      have HWB := Lib.hid (HD.out.mono (vw_below (Below.then H2.out HB.out)))
      have hga := getA_ok HOA.out l[k]
      have hgb := getA_ok HOB.out l[k]
      have hgs := addN_ok hga hgb
      have HGA := Lib.hid hga
      have HGB := Lib.hid hgb
      clear hp hr hga hgb
      go_upto_region 9 with fail
      have hq1 : ∀ n : Nat, Hid (Kd.amt.S (vw (wr.drewN n) []) (.slice A a.length cap) a) := fun n => HWA.out.mono (vw_drewN n)
      have hq2 : ∀ n : Nat, Hid (Kd.amt.S (vw (wr.drewN n) []) (.slice B b.length cap2) b) := fun n => HWB.out.mono (vw_drewN n)
      go_quiet (first
        | (go_at_call 133; exact Calls.quiet_of_same ((GetA_calls _ _ _ _ (by first | with_reducible exact (hq1 _).out | with_reducible exact (hq2 _).out)).mono fun _ _ h => ⟨h.1, h.2.symm⟩))
        | (go_at_call 272; exact Calls.quiet_of_same ((Add5_calls _ _ _ HGA.out HGB.out).mono fun _ _ h => ⟨h.1, h.2.symm⟩)))
      have HB1 : Hid (Below w2.heap.size w2 (wr.drewN nq)) := drewN_then HB.out nq
      have HO1 := Lib.hid (HO.out.below (drewN_below wr nq))
      have hc' : (wr.drewN nq).cell? ⟨b', off + k, none⟩ = some (.string l[k]) := hc
      generalize wr.drewN nq = wr1 at HB1 HO1 hc' ⊢
      obtain ⟨x, hx⟩ : ∃ x, (addN (getA a l[k]) (getA b l[k])).1 = x := ⟨_, rfl⟩
      obtain ⟨m, hm⟩ : ∃ m, (addN (getA a l[k]) (getA b l[k])).2 = m := ⟨_, rfl⟩
      have hr := HR2.out
      rw [hx, hm] at hr
      rw [hx] at hgs
      rw [hx, hm]
      have HGS := Lib.hid hgs
      clear hx hm hc HWA HWB HGA HGB HR2 HB HO hgs hq1 hq2
      by_cases h0 : m ≠ 0
      · have t1 : (m == 0) = false := by simp [h0]
        rw [if_pos h0] at hr
        have HX := Lib.hid hr
        clear hr
        go_wp2
        go_ret2
        exact vec_none HX.out.symm (Below.then H2.out HB1.out)
      rw [if_neg h0] at hr
      have HX := Lib.hid hr
      obtain rfl : m = 0 := Decidable.not_not.1 h0
      clear hr h0
      have hsz := HB1.out.size
      obtain ⟨css, k1, k2, k3⟩ := HO1.out
      have HK1 := Lib.hid k1
      have HK2 := Lib.hid k2
      have HK3 := Lib.hid k3
      clear k1 k2 k3
      have NEWS : Hid (∀ ad, some (⟨wr1.heap.size, 0, none⟩ : Addr) = some ad → ∀ j u, [Value.string l[k], .int .i64 x][j]? = some u → (wr1.alloc (.cells #[.string l[k], .int .i64 x] 217)).cell? (ad.add j) = some u) := by
        rintro ad h
        cases h
        exact World.news_of_block (cs := #[.string l[k], .int .i64 x]) (t := 217) (fr := (0, 0)) (heap_alloc_new wr1 _)
      go_wp2_with (at_builtin; refine wpList_app _ w2.heap.size 40 217 i0 (.agg #[.string ⟨#[]⟩, .int .i64 0]) 2 24 Tryz.underlying40 hi hz0 hz1 hz2 rfl (by decide) _ _ css.flatten (HK3.out.alloc _) (some ⟨wr1.heap.size, 0, none⟩) 1 1 [.string l[k], .int .i64 x] rfl (fun e => by cases e) NEWS.out (by simp [Value.oneCell']) (by simp only [maxLen]; omega) (by omega) (by simp; omega) _ _ rfl rfl rfl rfl ?_)
      intro v2 w3 ho2 hg2 hv2
      have HB2 : Hid (Below w2.heap.size w2 w3) := grown_then HB1.out (alloc_below wr1 (.cells #[.string l[k], .int .i64 x] 217)) hg2 (fun q hq => (HK3.out.lt q hq).1)
      have HO2 : Hid (Kd.amt.Own w3 w2.heap.size 217 0 v2 (out ++ [⟨l[k], x⟩])) :=
        Kd.Own.snoc HK1.out HK2.out ⟨rfl, HP.out, HGS.out⟩ (alloc_below wr1 (.cells #[.string l[k], .int .i64 x] 217)) ho2 hg2 (hv2.imp id fun h => by rw [h]; simp)
      clear ho2 hg2 hv2
      go_wp2
      go_roundw
      case rel => exact ⟨k + 1, out ++ [Amt.mk l[k] x], by omega, by go_num, by rw [List.length_append, HK.out]; rfl, HX.out, HO2.out, HB2.out⟩
      case measure => simp [intOf]; omega
    · obtain rfl : k = l.length := by omega
      have hr := HR.out
      rw [List.drop_length, addL] at hr
      obtain ⟨A2, c2, rfl, s2⟩ := (HO.out.S (Nat.zero_le _) (by omega)).val
      have S2 := Lib.hid (s2.mono (nx_vw0 _))
      have HB3 := Lib.hid (Below.then H2.out HB.out)
      have HX := Lib.hid hr
      clear s2 hr HO HR
      go_wp2_with fail
      by_cases h8 : 8 < out.length
      · have HY : Hid (addVec a b = ([], 4)) := by
          show _ = _
          have := HX.out
          rw [if_pos h8] at this
          exact this.symm
        refine (whole_calls A2 out.length c2 _ (by omega)).mono ?_
        rintro e w' ⟨rfl, rfl⟩
        rw [if_pos h8]
        go_wp2
        go_ret2
        exact vec_none HY.out HB3.out
      · have HY : Hid (addVec a b = (out, 0)) := by
          show _ = _
          have := HX.out
          rw [if_neg h8] at this
          exact this.symm
        refine (whole_calls A2 out.length c2 _ (by omega)).mono ?_
        rintro e w' ⟨rfl, rfl⟩
        rw [if_neg h8]
        go_wp2
        go_ret2
        exact vec_some HY.out S2.out HB3.out
end Go.Proofs.YtnmhicgbdalniaaGreatDoor
namespace Go.Proofs.YtnmhicgbdalniaaGreatDoor
open Go.RowKit Go.Sort

theorem filter_on {p : Pd → Bool} {l : List Pd} {k : Nat} (h : k < l.length) : (l.drop k).filter p = if p l[k] = true then l[k] :: (l.drop (k + 1)).filter p else (l.drop (k + 1)).filter p := by
  rw [List.drop_eq_getElem_cons h, List.filter_cons]
set_option maxHeartbeats 4000000 in
set_option maxRecDepth 100000 in
theorem Used_calls (v : Value) (s : St) (name : ByteArray) (w : World) (hs : Kd.state.V (vw w []) v s) :
    Calls Tryz.prog 131 #[v, .string name] w (VecDone (usedV s name) w) := by
  obtain ⟨cs, rfl, A1, c1, A2, c2, A3, c3, rfl, s1, s2, -⟩ := hs
  obtain ⟨-, f2, f2'⟩ := s2.form
  have S1 := Lib.hid s1
  have S2 := Lib.hid s2
  clear s1 s2
  go_enter Tryz.func131, Tryz.ntmps131
  have HB : Hid (Below w.heap.size w (w.alloc (.cells #[.slice A1 s.nodes.length c1, .slice A2 s.pods.length c2, .slice A3 s.budgets.length c3] 51))) := alloc_below _ _
  have HQ : Hid ((w.alloc (.cells #[.slice A1 s.nodes.length c1, .slice A2 s.pods.length c2, .slice A3 s.budgets.length c3] 51)).heap[w.heap.size]? = some (.cells #[.slice A1 s.nodes.length c1, .slice A2 s.pods.length c2, .slice A3 s.budgets.length c3] 51 (0, 0))) := blk_last _ _
  go_upto_region 1 with fail
  generalize w.alloc (.cells #[.slice A1 s.nodes.length c1, .slice A2 s.pods.length c2, .slice A3 s.budgets.length c3] 51) = W at HB HQ ⊢
  obtain ⟨z, zf⟩ := blk_all HQ.out
  go_wp2_with fail
  refine (FindNode_calls _ s.nodes name _ (S1.out.mono (vw_below HB.out))).mono ?_
  rintro e w1 ⟨cs, rfl, hk, hb⟩
  obtain ⟨D1, g1, D2, g2, D3, g3, rfl, -⟩ := hk
  obtain ⟨nd, hnd⟩ : ∃ nd, (findV s.nodes name).1 = nd := ⟨_, rfl⟩
  obtain ⟨fk, hfk⟩ : ∃ fk, (findV s.nodes name).2 = fk := ⟨_, rfl⟩
  rw [hnd, hfk]
  have HF := Lib.hid hfk
  have HB1 := Lib.hid (Below.then HB.out hb)
  have q := (hb.block _ (blk_lt HQ.out)).trans HQ.out
  have HQ1 := Lib.hid q
  clear z zf hb hnd hfk q
  obtain ⟨U, hU⟩ : ∃ U : World, U = w1.alloc (.cells #[.string nd.name, .slice D1 nd.cap.length g1, .slice D2 nd.labels.length g2, .slice D3 nd.taints.length g3, .bool nd.cordon] 150) := ⟨_, rfl⟩
  have HBU : Hid (Below w.heap.size w U) := by rw [hU]; exact alloc_then HB1.out _
  have hq : U.heap[w.heap.size]? = some (.cells #[.slice A1 s.nodes.length c1, .slice A2 s.pods.length c2, .slice A3 s.budgets.length c3] 51 (0, 0)) := by rw [hU]; exact (blk_old _ _ (blk_lt HQ1.out)).trans HQ1.out
  obtain ⟨z, zf⟩ := blk_all hq
  have HQU := Lib.hid hq
  clear hq HQ HB HB1 HQ1
  cases fk with
  | false =>
    have HX : Hid (usedV s name = ([], 3)) := by show _ = _; unfold usedV; rw [HF.out, if_pos rfl]
    go_wp2
    rw [← hU]
    go_ret2
    exact vec_none HX.out HBU.out
  | true =>
  have HX : Hid (usedV s name = sumV Pd.need (s.pods.filter (onB name)) []) := by show _ = _; unfold usedV; rw [HF.out, if_neg (by decide)]
  go_wp2
  rw [← hU]
  clear hU HF z zf
  go_loopw [8, 9] (fun o i wr => ∃ (k : Nat) (l : List Amt), k ≤ s.pods.length ∧ i = .int .i64 k ∧ Hid (sumV Pd.need ((s.pods.drop k).filter (onB name)) l = usedV s name) ∧ Hid (Kd.amt.S (vw wr []) o l) ∧ Hid (Below U.heap.size U wr)) (fun _ i _ => s.pods.length - (intOf i).toNat)
  case atStart => exact ⟨0, [], Nat.zero_le _, rfl, HX.out.symm, Kd.S.nil _ _, Below.refl _ _⟩
  case round =>
    clear HX
    obtain ⟨k, l, hk, rfl, HR, HO, HB⟩ := hrel
    have q1 := (HB.out.block _ (blk_lt HQU.out)).trans HQU.out
    obtain ⟨z, zf⟩ := blk_all q1
    clear q1
    obtain ⟨B, cb, rfl, ho⟩ := HO.out.val
    clear HO
    have HO := Lib.hid ho
    clear ho
    by_cases hlt : k < s.pods.length
    · obtain ⟨b, off, cs, rfl, hn, hc⟩ := S2.out.both (Below.then HBU.out HB.out) k hlt
      obtain ⟨E1, x1, E2, x2, E3, x3, E4, x4, rfl, -, t1, -⟩ := hn
      have c9 : wr.cell? ⟨b, off + k * 11 + 9, none⟩ = some (.string s.pods[k].node) := hc 9 _ rfl
      have c3 : wr.cell? ⟨b, off + k * 11 + 3, none⟩ = some (.slice E1 s.pods[k].need.length x1) := hc 3 _ rfl
      have T1 := Lib.hid (t1.mono (vw_below (Below.then HBU.out HB.out)))
      have hr := HR.out
      rw [filter_on hlt] at hr
      clear hc t1
      have e1 := eq_beq s.pods[k].node name
      obtain ⟨m, hm⟩ : ∃ m, decide (s.pods[k].node = name) = m := ⟨_, rfl⟩
      rw [hm] at e1
      rw [show onB name s.pods[k] = m from hm] at hr
      clear hm
      cases m with
      | false =>
        have HX := Lib.hid hr
        clear hr
        go_wp2
        go_roundw
        case rel => exact ⟨k + 1, l, by omega, by go_num, HX.out, HO.out, HB.out⟩
        case measure => simp [intOf]; omega
      | true =>
        rw [if_pos rfl, sumV] at hr
        have HX := Lib.hid hr
        clear hr
        go_wp2_with fail
        refine (AddVec_calls _ _ l s.pods[k].need _ HO.out T1.out).mono ?_
        rintro e w2 ⟨C, cc, rfl, hs, hb⟩
        obtain ⟨l2, hl2⟩ : ∃ l2, (addVec l s.pods[k].need).1 = l2 := ⟨_, rfl⟩
        obtain ⟨n1, hn1⟩ : ∃ n1, (addVec l s.pods[k].need).2 = n1 := ⟨_, rfl⟩
        have hx := HX.out
        rw [hl2, hn1] at hx
        rw [hl2] at hs
        rw [hl2, hn1]
        have HB2 := Lib.hid (Below.then HB.out hb)
        have HS2 := Lib.hid hs
        clear hl2 hn1 HX hb hs c9 c3 z zf
        by_cases h0 : n1 ≠ 0
        · rw [if_pos h0] at hx
          have HX := Lib.hid hx
          clear hx
          have t1 : (n1 == 0) = false := by simp [h0]
          go_wp2
          go_ret2
          exact vec_none HX.out.symm (Below.then HBU.out HB2.out)
        rw [if_neg h0] at hx
        have HX := Lib.hid hx
        obtain rfl : n1 = 0 := Decidable.not_not.1 h0
        clear hx h0
        go_wp2
        go_roundw
        case rel => exact ⟨k + 1, l2, by omega, by go_num, HX.out, HS2.out, HB2.out⟩
        case measure => simp [intOf]; omega
    · obtain rfl : k = s.pods.length := by omega
      have hr := HR.out
      rw [List.drop_length, List.filter_nil, sumV] at hr
      have HX := Lib.hid hr
      clear hr
      go_wp2
      go_ret2
      exact vec_some HX.out.symm HO.out (Below.then HBU.out HB.out)
set_option maxHeartbeats 4000000 in
set_option maxRecDepth 100000 in
theorem Total_calls (v : Value) (s : St) (w : World) (hs : Kd.state.V (vw w []) v s) :
    Calls Tryz.prog 162 #[v] w (VecDone (totalV s) w) := by
  obtain ⟨cs, rfl, A1, c1, A2, c2, A3, c3, rfl, s1, -, -⟩ := hs
  obtain ⟨-, f2, f2'⟩ := s1.form
  have S1 := Lib.hid s1
  clear s1
  have HX : Hid (sumV Nd.cap s.nodes [] = totalV s) := rfl
  go_enter Tryz.func162, Tryz.ntmps162
  have HB : Hid (Below w.heap.size w (w.alloc (.cells #[.slice A1 s.nodes.length c1, .slice A2 s.pods.length c2, .slice A3 s.budgets.length c3] 51))) := alloc_below _ _
  have HQ : Hid ((w.alloc (.cells #[.slice A1 s.nodes.length c1, .slice A2 s.pods.length c2, .slice A3 s.budgets.length c3] 51)).heap[w.heap.size]? = some (.cells #[.slice A1 s.nodes.length c1, .slice A2 s.pods.length c2, .slice A3 s.budgets.length c3] 51 (0, 0))) := blk_last _ _
  go_upto_region 1 with fail
  generalize w.alloc (.cells #[.slice A1 s.nodes.length c1, .slice A2 s.pods.length c2, .slice A3 s.budgets.length c3] 51) = W at HB HQ ⊢
  obtain ⟨z, zf⟩ := blk_all HQ.out
  go_wp2
  clear z zf
  go_loopw [4, 5] (fun o i wr => ∃ (k : Nat) (l : List Amt), k ≤ s.nodes.length ∧ i = .int .i64 k ∧ Hid (sumV Nd.cap (s.nodes.drop k) l = totalV s) ∧ Hid (Kd.amt.S (vw wr []) o l) ∧ Hid (Below W.heap.size W wr)) (fun _ i _ => s.nodes.length - (intOf i).toNat)
  case atStart => exact ⟨0, [], Nat.zero_le _, rfl, HX.out, Kd.S.nil _ _, Below.refl _ _⟩
  case round =>
    clear HX
    have HBU := HB
    have HQU := HQ
    clear HB HQ
    obtain ⟨k, l, hk, rfl, HR, HO, HB⟩ := hrel
    have q1 := (HB.out.block _ (blk_lt HQU.out)).trans HQU.out
    obtain ⟨z, zf⟩ := blk_all q1
    clear q1
    obtain ⟨B, cb, rfl, ho⟩ := HO.out.val
    clear HO
    have HO := Lib.hid ho
    clear ho
    by_cases hlt : k < s.nodes.length
    · obtain ⟨b, off, cs, rfl, hn, hc⟩ := S1.out.both (Below.then HBU.out HB.out) k hlt
      obtain ⟨E1, x1, E2, x2, E3, x3, rfl, -, t1, -⟩ := hn
      have c9 : wr.cell? ⟨b, off + k * 5 + 1, none⟩ = some (.slice E1 s.nodes[k].cap.length x1) := hc 1 _ rfl
      have T1 := Lib.hid (t1.mono (vw_below (Below.then HBU.out HB.out)))
      have hr := HR.out
      rw [List.drop_eq_getElem_cons hlt, sumV] at hr
      have HX := Lib.hid hr
      clear hc t1 hr
      go_wp2_with fail
      refine (AddVec_calls _ _ l s.nodes[k].cap _ HO.out T1.out).mono ?_
      rintro e w2 ⟨C, cc, rfl, hs, hb⟩
      obtain ⟨l2, hl2⟩ : ∃ l2, (addVec l s.nodes[k].cap).1 = l2 := ⟨_, rfl⟩
      obtain ⟨n1, hn1⟩ : ∃ n1, (addVec l s.nodes[k].cap).2 = n1 := ⟨_, rfl⟩
      have hx := HX.out
      rw [hl2, hn1] at hx
      rw [hl2] at hs
      rw [hl2, hn1]
      have HB2 := Lib.hid (Below.then HB.out hb)
      have HS2 := Lib.hid hs
      clear hl2 hn1 HX hb hs c9 z zf
      by_cases h0 : n1 ≠ 0
      · rw [if_pos h0] at hx
        have HX := Lib.hid hx
        clear hx
        have t1 : (n1 == 0) = false := by simp [h0]
        go_wp2
        go_ret2
        exact vec_none HX.out.symm (Below.then HBU.out HB2.out)
      rw [if_neg h0] at hx
      have HX := Lib.hid hx
      obtain rfl : n1 = 0 := Decidable.not_not.1 h0
      clear hx h0
      go_wp2
      go_roundw
      case rel => exact ⟨k + 1, l2, by omega, by go_num, HX.out, HS2.out, HB2.out⟩
      case measure => simp [intOf]; omega
    · obtain rfl : k = s.nodes.length := by omega
      have hr := HR.out
      rw [List.drop_length, sumV] at hr
      have HX := Lib.hid hr
      clear hr
      go_wp2
      go_ret2
      exact vec_some HX.out.symm HO.out (Below.then HBU.out HB.out)
end Go.Proofs.YtnmhicgbdalniaaGreatDoor
namespace Go.Proofs.YtnmhicgbdalniaaGreatDoor
open Go.RowKit Go.Sort

theorem drew_below (w : World) : Below w.heap.size w w.drew := drewN_below w 1
theorem set5_below {B : Nat} {w0 w : World} {b : Nat} (h : Below B w0 w) (hb : B ≤ b) (v0 v1 v2 v3 v4 : Value) : Below B w0 (((((w.setCell ⟨b, 0, none⟩ v0).setCell ⟨b, 1, none⟩ v1).setCell ⟨b, 2, none⟩ v2).setCell ⟨b, 3, none⟩ v3).setCell ⟨b, 4, none⟩ v4) :=
  Below.setCells h hb [v0, v1, v2, v3, v4] 0
theorem set5_far {w : World} {b k : Nat} (h : k ≠ b) (v0 v1 v2 v3 v4 : Value) : (((((w.setCell ⟨b, 0, none⟩ v0).setCell ⟨b, 1, none⟩ v1).setCell ⟨b, 2, none⟩ v2).setCell ⟨b, 3, none⟩ v3).setCell ⟨b, 4, none⟩ v4).heap[k]? = w.heap[k]? :=
  setCells_far b [v0, v1, v2, v3, v4] 0 w k h
theorem cell_lt {w : World} {p : Addr} {v : Value} (h : w.cell? p = some v) : p.block < w.heap.size := by
  unfold World.cell? at h
  split at h
  · rename_i e; exact blk_lt e
  · cases h
theorem keep_cell {w w1 : World} (hb : Below w.heap.size w w1) {p : Addr} {v : Value} (h : w.cell? p = some v) : w1.cell? p = some v := by
  refine (hb.cell ?_).trans h
  unfold World.cell? at h
  split at h
  · rename_i e; exact blk_lt e
  · cases h
set_option maxHeartbeats 8000000 in
set_option maxRecDepth 100000 in
theorem Check_calls (v : Value) (s : St) (w : World) (hs : Kd.state.V (vw w []) v s) :
    Calls Tryz.prog 69 #[v] w (NumDone (checkSt s) w) := by
  obtain ⟨cs, rfl, hks⟩ := hs
  have hvs : Kd.state.V (vw w []) (.agg cs.toArray) s := ⟨cs, rfl, hks⟩
  obtain ⟨A1, c1, A2, c2, A3, c3, rfl, s1, s2, s3⟩ := hks
  have HVS := Lib.hid hvs
  clear hvs
  have S1 := Lib.hid s1
  have S2 := Lib.hid s2
  have S3 := Lib.hid s3
  clear s1 s2 s3
  have HX : Hid (orV (checkNodes s.nodes) (orV (checkPods s.pods) (orV (checkBudgets s.budgets) (orV (firstV (podV s) s.pods) (orV (firstV (roomV s) s.nodes) (totalV s).2)))) = checkSt s) := rfl
  go_enter Tryz.func69, Tryz.ntmps69
  have HB : Hid (Below w.heap.size w (w.alloc (.cells #[.slice A1 s.nodes.length c1, .slice A2 s.pods.length c2, .slice A3 s.budgets.length c3] 51))) := alloc_below _ _
  have HQ : Hid ((w.alloc (.cells #[.slice A1 s.nodes.length c1, .slice A2 s.pods.length c2, .slice A3 s.budgets.length c3] 51)).heap[w.heap.size]? = some (.cells #[.slice A1 s.nodes.length c1, .slice A2 s.pods.length c2, .slice A3 s.budgets.length c3] 51 (0, 0))) := blk_last _ _
  go_upto_region 1 with fail
  generalize w.alloc (.cells #[.slice A1 s.nodes.length c1, .slice A2 s.pods.length c2, .slice A3 s.budgets.length c3] 51) = W at HB HQ ⊢
  obtain ⟨z, zf⟩ := blk_all HQ.out
  go_wp2_with fail
  refine (CheckNodes_calls _ s.nodes _ (S1.out.mono (vw_below HB.out))).mono ?_
  rintro e w1 ⟨rfl, hb⟩
  obtain ⟨n1, hn1⟩ : ∃ n1, checkNodes s.nodes = n1 := ⟨_, rfl⟩
  rw [hn1]
  have hx := HX.out
  rw [hn1] at hx
  have HB1 := Lib.hid (Below.then HB.out hb)
  have q := (hb.block _ (blk_lt HQ.out)).trans HQ.out
  clear z zf HX HB HQ hb hn1
  have HB := HB1
  have HQ := Lib.hid q
  clear HB1
  obtain ⟨z, zf⟩ := blk_all q
  clear q
  by_cases h0 : n1 ≠ 0
  · rw [orV_l h0] at hx
    have HX := Lib.hid hx
    clear hx
    have t1 : (n1 == 0) = false := by simp [h0]
    go_wp2
    go_ret
    exact ⟨ret_i HX.out, HB.out⟩
  obtain rfl : n1 = 0 := Decidable.not_not.1 h0
  rw [orV_r rfl] at hx
  have HX := Lib.hid hx
  clear hx h0
  go_wp2_with fail
  refine (CheckPods_calls _ s.pods _ (S2.out.mono (vw_below HB.out))).mono ?_
  rintro e w1 ⟨rfl, hb⟩
  obtain ⟨n1, hn1⟩ : ∃ n1, checkPods s.pods = n1 := ⟨_, rfl⟩
  rw [hn1]
  have hx := HX.out
  rw [hn1] at hx
  have HB1 := Lib.hid (Below.then HB.out hb)
  have q := (hb.block _ (blk_lt HQ.out)).trans HQ.out
  clear z zf HX HB HQ hb hn1
  have HB := HB1
  have HQ := Lib.hid q
  clear HB1
  obtain ⟨z, zf⟩ := blk_all q
  clear q
  by_cases h0 : n1 ≠ 0
  · rw [orV_l h0] at hx
    have HX := Lib.hid hx
    clear hx
    have t1 : (n1 == 0) = false := by simp [h0]
    go_wp2
    go_ret
    exact ⟨ret_i HX.out, HB.out⟩
  obtain rfl : n1 = 0 := Decidable.not_not.1 h0
  rw [orV_r rfl] at hx
  have HX := Lib.hid hx
  clear hx h0
  go_wp2_with fail
  refine (CheckBudgets_calls _ s.budgets _ (S3.out.mono (vw_below HB.out))).mono ?_
  rintro e w1 ⟨rfl, hb⟩
  obtain ⟨n1, hn1⟩ : ∃ n1, checkBudgets s.budgets = n1 := ⟨_, rfl⟩
  rw [hn1]
  have hx := HX.out
  rw [hn1] at hx
  have HB1 := Lib.hid (Below.then HB.out hb)
  have q := (hb.block _ (blk_lt HQ.out)).trans HQ.out
  clear z zf HX HB HQ hb hn1
  have HB := HB1
  have HQ := Lib.hid q
  clear HB1
  obtain ⟨z, zf⟩ := blk_all q
  clear q
  by_cases h0 : n1 ≠ 0
  · rw [orV_l h0] at hx
    have HX := Lib.hid hx
    clear hx
    have t1 : (n1 == 0) = false := by simp [h0]
    go_wp2
    go_ret
    exact ⟨ret_i HX.out, HB.out⟩
  obtain rfl : n1 = 0 := Decidable.not_not.1 h0
  rw [orV_r rfl] at hx
  have HX := Lib.hid hx
  clear hx h0
  obtain ⟨-, f1, f1'⟩ := S1.out.form
  obtain ⟨-, f2, f2'⟩ := S2.out.form
  obtain ⟨R1, hR1⟩ : ∃ R1, orV (firstV (roomV s) s.nodes) (totalV s).2 = R1 := ⟨_, rfl⟩
  have hx := HX.out
  rw [hR1] at hx
  have HR1 := Lib.hid hR1
  clear HX hR1
  have HX := Lib.hid hx
  clear hx z zf
  obtain ⟨z, zf⟩ := blk_all HQ.out
  go_wp2
  clear z zf
  go_loopw [4] (fun i wr => ∃ k : Nat, k ≤ s.pods.length ∧ i = .int .i64 k ∧ Hid (orV (firstV (podV s) (s.pods.drop k)) R1 = checkSt s) ∧ Hid (Below w.heap.size w wr) ∧ Hid (wr.heap[w.heap.size]? = some (.cells #[.slice A1 s.nodes.length c1, .slice A2 s.pods.length c2, .slice A3 s.budgets.length c3] 51 (0, 0)))) (fun i _ => s.pods.length - (intOf i).toNat)
  case atStart => exact ⟨0, Nat.zero_le _, rfl, HX.out, HB.out, HQ.out⟩
  case round =>
    clear HX HB HQ
    obtain ⟨k, hk, rfl, HR, HB, HQ⟩ := hrel
    obtain ⟨z, zf⟩ := blk_all HQ.out
    by_cases hlt : k < s.pods.length
    · obtain ⟨b, off, cs, rfl, hn, hc⟩ := S2.out.both HB.out k hlt
      obtain ⟨E1, x1, E2, x2, E3, x3, E4, x4, rfl, -⟩ := hn
      have c9 : wr.cell? ⟨b, off + k * 11 + 9, none⟩ = some (.string s.pods[k].node) := hc 9 _ rfl
      have hr := HR.out
      rw [firstV_at _ hlt] at hr
      have e1 := empty_beq s.pods[k].node
      have hpv : podV s s.pods[k] = if decide (s.pods[k].node = ⟨#[]⟩) = false ∧ (findV s.nodes s.pods[k].node).2 = false then 3 else 0 := rfl
      obtain ⟨m, hm⟩ : ∃ m, decide (s.pods[k].node = ⟨#[]⟩) = m := ⟨_, rfl⟩
      rw [hm] at e1 hpv
      rw [hpv] at hr
      clear hc hm hpv
      cases m with
      | true =>
        rw [if_neg (by simp), orV_r rfl] at hr
        have HX := Lib.hid hr
        clear hr
        go_wp2
        go_roundw
        case rel => exact ⟨k + 1, by omega, by go_num, HX.out, HB.out, HQ.out⟩
        case measure => simp [intOf]; omega
      | false =>
        have HX := Lib.hid hr
        clear hr
        have HBL := Lib.hid (blk_lt HQ.out)
        have b1 : (0 : Int) ≤ (k : Int) := by omega
        have b2 : (k : Int) < (s.pods.length : Int) := by omega
        go_upto_region 14 with fail
        have hl0 := blk_lt HQ.out
        have hb0 : b < wr.heap.size := cell_lt c9
        have hle : w.heap.size ≤ wr.heap.size := by omega
        have hn1 : w.heap.size ≠ wr.heap.size := by omega
        have hn2 : b ≠ wr.heap.size := by omega
        have hn3 : wr.heap.size ≠ w.heap.size := by omega
        have hn4 : wr.heap.size ≠ b := by omega
        go_region_held3 (fun w' => w'.cell? ⟨w.heap.size, 0, none⟩ = some (.slice A1 s.nodes.length c1) ∧ w'.cell? ⟨w.heap.size, 1, none⟩ = some (.slice (some ⟨b, off, none⟩) s.pods.length c2) ∧ w'.cell? ⟨b, off + k * 11 + 9, none⟩ = some (.string s.pods[k].node))
          (first | with_reducible exact ⟨z 0, z 1, c9⟩ | go_keep | with_reducible exact ⟨keep_cell (alloc_below _ _) (z 0), keep_cell (alloc_below _ _) (z 1), keep_cell (alloc_below _ _) c9⟩) (first
          | (go_at_call 129; (with_reducible refine (FindNode_calls _ s.nodes s.pods[k].node _ (by with_reducible exact S1.out.mono (vw_below (Below.then HB.out (drew_below _))))).mono ?_); rintro e w1 ⟨cs, rfl, hk, hb⟩; obtain ⟨D1, g1, D2, g2, D3, g3, rfl, -⟩ := hk; replace HB := Lib.hid (Below.then (Below.then HB.out (drew_below _)) hb); have hq := (hb.block _ (blk_lt (w := wr.drew) HQ.out)).trans HQ.out; have c9' := keep_cell (w := wr.drew) hb c9; have hl1 := blk_lt hq; have hb1 := cell_lt c9'; replace HQ := Lib.hid hq; clear hb z zf c9 hq; have c9 := c9'; clear c9'; obtain ⟨z, zf⟩ := blk_all HQ.out)
          | (go_at_call 129; (with_reducible refine (FindNode_calls _ s.nodes s.pods[k].node _ (by with_reducible exact S1.out.mono (vw_below (Below.then (Below.then HB.out (alloc_below _ _)) (drew_below _))))).mono ?_); rintro e w1 ⟨cs, rfl, hk, hb⟩; obtain ⟨D1, g1, D2, g2, D3, g3, rfl, -⟩ := hk; have hq := (hb.block _ (by show _ < (World.alloc _ _).heap.size; simp; omega)).trans ((blk_old wr _ hl0).trans HQ.out); have hy := (hb.block wr.heap.size (by show _ < (World.alloc _ _).heap.size; simp)).trans (blk_last wr _); have hl2 := blk_lt hy; obtain ⟨y, yf⟩ := blk_all hy; have HY := Lib.hid hy; clear hy; have c9' := keep_cell hb (show (World.drew _).cell? _ = _ from keep_cell (alloc_below _ _) c9); replace HB := Lib.hid (Below.then (Below.then (Below.then HB.out (alloc_below _ _)) (drew_below _)) hb);  have hl1 := blk_lt hq; have hb1 := cell_lt c9'; replace HQ := Lib.hid hq; clear hb z zf c9 hq; have c9 := c9'; clear c9'; obtain ⟨z, zf⟩ := blk_all HQ.out))
        all_goals
          obtain ⟨fk, hfk⟩ : ∃ fk, (findV s.nodes s.pods[k].node).2 = fk := ⟨_, rfl⟩
          rw [hfk]
          have hx := HX.out
          rw [hfk] at hx
          clear HX hfk
          cases fk with
          | false =>
            have HX : Hid (3 = checkSt s) := hx
            clear hx
            go_wp2
            go_ret
            exact ⟨ret_i HX.out, by first | with_reducible exact alloc_then HB.out _ | with_reducible exact set5_below HB.out hle _ _ _ _ _⟩
          | true =>
            rw [if_neg (by simp), orV_r rfl] at hx
            have HX := Lib.hid hx
            clear hx
            go_wp2
            go_roundw
            case rel => exact ⟨k + 1, by omega, by go_num, HX.out, by first | with_reducible exact Lib.hid (alloc_then HB.out _) | with_reducible exact Lib.hid (set5_below HB.out hle _ _ _ _ _), by first | with_reducible exact Lib.hid ((blk_old _ _ hl1).trans HQ.out) | with_reducible exact Lib.hid ((set5_far hn1 _ _ _ _ _).trans HQ.out)⟩
            case measure => simp [intOf]; omega
    · obtain rfl : k = s.pods.length := by omega
      have hr := HR.out
      rw [List.drop_length, show firstV (podV s) [] = 0 from rfl, orV_r rfl, ← HR1.out] at hr
      obtain ⟨R2, hR2⟩ : ∃ R2, (totalV s).2 = R2 := ⟨_, rfl⟩
      rw [hR2] at hr
      have HX := Lib.hid hr
      have HR2 := Lib.hid hR2
      clear hr hR2 HR HR1
      go_wp2
      clear z zf
      go_loopw [7] (fun i wi => ∃ k : Nat, k ≤ s.nodes.length ∧ i = .int .i64 k ∧ Hid (orV (firstV (roomV s) (s.nodes.drop k)) R2 = checkSt s) ∧ Hid (Below w.heap.size w wi) ∧ Hid (wi.heap[w.heap.size]? = some (.cells #[.slice A1 s.nodes.length c1, .slice A2 s.pods.length c2, .slice A3 s.budgets.length c3] 51 (0, 0)))) (fun i _ => s.nodes.length - (intOf i).toNat)
      case atStart => exact ⟨0, Nat.zero_le _, rfl, HX.out, HB.out, HQ.out⟩
      case round =>
        clear HX HB HQ hk hlt
        obtain ⟨k, hk, rfl, HR, HB, HQ⟩ := hrel
        obtain ⟨z, zf⟩ := blk_all HQ.out
        by_cases hlt : k < s.nodes.length
        · obtain ⟨b, off, cs, rfl, hn, hc⟩ := S1.out.both HB.out k hlt
          obtain ⟨E1, x1, E2, x2, E3, x3, rfl, -, t1, -⟩ := hn
          have c9 : wr.cell? ⟨b, off + k * 5, none⟩ = some (.string s.nodes[k].name) := hc 0 _ rfl
          have T1 := Lib.hid t1
          have hr := HR.out
          rw [firstV_at _ hlt] at hr
          have hrv : roomV s s.nodes[k] = orV (usedV s s.nodes[k].name).2 (if fitsV (usedV s s.nodes[k].name).1 s.nodes[k].cap = false then 7 else 0) := rfl
          rw [hrv] at hr
          have HX := Lib.hid hr
          clear hc hr hrv t1
          have b1 : (0 : Int) ≤ (k : Int) := by omega
          have b2 : (k : Int) < (s.nodes.length : Int) := by omega
          go_upto_region 20 with fail
          go_region_held3 (fun w' => w'.cell? ⟨w.heap.size, 0, none⟩ = some (.slice (some ⟨b, off, none⟩) s.nodes.length c1) ∧ w'.cell? ⟨w.heap.size, 1, none⟩ = some (.slice A2 s.pods.length c2) ∧ w'.cell? ⟨w.heap.size, 2, none⟩ = some (.slice A3 s.budgets.length c3) ∧ w'.cell? ⟨b, off + k * 5, none⟩ = some (.string s.nodes[k].name))
            (first | with_reducible exact ⟨z 0, z 1, z 2, c9⟩ | go_keep) (first
            | (go_at_call 131; (with_reducible refine (Used_calls _ s s.nodes[k].name _ (by with_reducible exact Kd.V.mono (vw_below (Below.then HB.out (drew_below _))) HVS.out)).mono ?_); rintro e w1 ⟨C, cc, rfl, hs, hb⟩; replace HB := Lib.hid (Below.then (Below.then HB.out (drew_below _)) hb); have hq := (hb.block _ (blk_lt (w := wr.drew) HQ.out)).trans HQ.out; have c9' := keep_cell (w := wr.drew) hb c9; have HS := Lib.hid hs; replace HQ := Lib.hid hq; clear hb z zf c9 hq hs; have c9 := c9'; clear c9'; obtain ⟨z, zf⟩ := blk_all HQ.out))
          obtain ⟨l2, hl2⟩ : ∃ l2, (usedV s s.nodes[k].name).1 = l2 := ⟨_, rfl⟩
          obtain ⟨n1, hn1⟩ : ∃ n1, (usedV s s.nodes[k].name).2 = n1 := ⟨_, rfl⟩
          have hx := HX.out
          have hs := HS.out
          rw [hl2, hn1] at hx
          rw [hl2] at hs
          rw [hl2, hn1]
          clear HX HS hl2 hn1
          have HS := Lib.hid hs
          clear hs
          by_cases h0 : n1 ≠ 0
          · rw [orV_l h0, orV_l h0, orV_l h0] at hx
            have HX := Lib.hid hx
            clear hx
            have t1 : (n1 == 0) = false := by simp [h0]
            go_wp2
            go_ret
            exact ⟨ret_i HX.out, HB.out⟩
          obtain rfl : n1 = 0 := Decidable.not_not.1 h0
          rw [orV_r rfl] at hx
          have HX := Lib.hid hx
          clear hx h0
          obtain ⟨b', off', cs, hA, ⟨F1, y1, F2, y2, F3, y3, rfl, -, t1, -⟩, hc⟩ := S1.out.both HB.out k hlt
          injection hA with hA
          injection hA with e1 e2
          subst e1 e2
          have c8 : w1.cell? ⟨b, off + k * 5 + 1, none⟩ = some (.slice F1 s.nodes[k].cap.length y1) := hc 1 _ rfl
          have T2 := Lib.hid t1
          clear hc t1
          go_wp2_with fail
          refine (Fits_calls _ _ l2 s.nodes[k].cap _ HS.out (T2.out.mono (vw_below HB.out))).mono ?_
          rintro e w2 ⟨rfl, hb⟩
          obtain ⟨ft, hft⟩ : ∃ ft, fitsV l2 s.nodes[k].cap = ft := ⟨_, rfl⟩
          have hx := HX.out
          rw [hft] at hx
          rw [hft]
          have hq := (hb.block _ (blk_lt HQ.out)).trans HQ.out
          replace HB := Lib.hid (Below.then HB.out hb)
          replace HQ := Lib.hid hq
          clear hb hq hft HX z zf c8 c9
          obtain ⟨z, zf⟩ := blk_all HQ.out
          cases ft with
          | false =>
            have HX : Hid (7 = checkSt s) := hx
            clear hx
            go_wp2
            go_ret
            exact ⟨ret_i HX.out, HB.out⟩
          | true =>
            rw [if_neg (by simp), orV_r rfl] at hx
            have HX := Lib.hid hx
            clear hx
            go_wp2
            go_roundw
            case rel => exact ⟨k + 1, by omega, by go_num, HX.out, HB.out, HQ.out⟩
            case measure => simp [intOf]; omega
        · obtain rfl : k = s.nodes.length := by omega
          have hr := HR.out
          rw [List.drop_length, show firstV (roomV s) [] = 0 from rfl, orV_r rfl, ← HR2.out] at hr
          have HX := Lib.hid hr
          clear hr HR HR2
          go_wp2_with fail
          refine (Total_calls _ s _ (Kd.V.mono (vw_below HB.out) HVS.out)).mono ?_
          rintro e w2 ⟨C, cc, rfl, -, hb⟩
          replace HB := Lib.hid (Below.then HB.out hb)
          clear hb z zf
          go_wp2
          go_ret
          exact ⟨ret_i HX.out, HB.out⟩
end Go.Proofs.YtnmhicgbdalniaaGreatDoor
namespace Go.Proofs.YtnmhicgbdalniaaGreatDoor
open Go.RowKit

/-- What a test tells: where it is true, this holds. -/
def FewIf (P : Prop) (w : World) (e : Ending) (w' : World) : Prop := ∃ r, e = .returned (.bool r) ∧ (r = true → P) ∧ w = w'
def FewL {α : Type} (l : List α) (p : α → Prop) : Prop := l.length ≤ 20 ∧ ∀ x ∈ l, p x
def Amt.Few (x : Amt) : Prop := x.name.size ≤ 50
def Pair.Few (x : Pair) : Prop := x.key.size ≤ 50 ∧ x.val.size ≤ 50
def Term.Few (x : Term) : Prop := x.key.size ≤ 50 ∧ x.val.size ≤ 50
def Tnt.Few (x : Tnt) : Prop := x.key.size ≤ 50 ∧ x.val.size ≤ 50

set_option maxHeartbeats 1000000 in
theorem Few2_calls (v : Value) (l : List Amt) (w : World) (hs : Kd.amt.S (vw w []) v l) : Calls Tryz.prog 70 #[v] w (FewIf (FewL l Amt.Few) w) := by
  obtain ⟨A, cap, rfl, hs⟩ := hs.val
  obtain ⟨-, hcap, hlen⟩ := hs.form
  have HS := Lib.hid hs
  clear hs
  go_enter Tryz.func70, Tryz.ntmps70
  by_cases h60 : 20 < l.length
  · go_wp2
    go_ret
    exact ⟨_, rfl, (fun h => by cases h), rfl⟩
  · go_wp2
    go_loop [3] (fun i => ∃ k : Nat, k ≤ l.length ∧ i = .int .i64 k ∧ Hid (∀ j, (h : j < l.length) → j < k → (l[j]).Few)) (fun i => l.length - (intOf i).toNat)
    case atStart => exact ⟨0, Nat.zero_le _, rfl, fun _ _ h => by omega⟩
    case round =>
      obtain ⟨k, hk, rfl, HR⟩ := hrel
      by_cases hlt : k < l.length
      · obtain ⟨b, off, rfl, hc, hp⟩ := HS.out.elemN k hlt
        have c0 : w.cell? ⟨b, off + k * 2, none⟩ = some (.string l[k].name) := hc 0 _ rfl
        clear hc
        by_cases h5 : 50 < (l[k].name).size
        · go_wp2
          go_ret
          exact ⟨_, rfl, (fun h => by cases h), rfl⟩
        have HF : Hid ((l[k]).Few) := by show (l[k]).name.size ≤ 50; omega
        go_wp2
        go_round
        case rel => exact ⟨k + 1, by omega, by go_num, fun j h hj => by
          by_cases e : j = k
          · subst e; exact HF.out
          · exact HR.out j h (by omega)⟩
        case measure => simp [intOf]; omega
      · go_wp2
        go_ret
        exact ⟨_, rfl, fun _ => ⟨by omega, fun x hx => by
          obtain ⟨j, hj, rfl⟩ := List.getElem_of_mem hx
          exact HR.out j hj (by omega)⟩, rfl⟩

set_option maxHeartbeats 1000000 in
theorem Few4_calls (v : Value) (l : List Pair) (w : World) (hs : Kd.pair.S (vw w []) v l) : Calls Tryz.prog 71 #[v] w (FewIf (FewL l Pair.Few) w) := by
  obtain ⟨A, cap, rfl, hs⟩ := hs.val
  obtain ⟨-, hcap, hlen⟩ := hs.form
  have HS := Lib.hid hs
  clear hs
  go_enter Tryz.func71, Tryz.ntmps71
  by_cases h60 : 20 < l.length
  · go_wp2
    go_ret
    exact ⟨_, rfl, (fun h => by cases h), rfl⟩
  · go_wp2
    go_loop [3] (fun i => ∃ k : Nat, k ≤ l.length ∧ i = .int .i64 k ∧ Hid (∀ j, (h : j < l.length) → j < k → (l[j]).Few)) (fun i => l.length - (intOf i).toNat)
    case atStart => exact ⟨0, Nat.zero_le _, rfl, fun _ _ h => by omega⟩
    case round =>
      obtain ⟨k, hk, rfl, HR⟩ := hrel
      by_cases hlt : k < l.length
      · obtain ⟨b, off, rfl, hc, hp⟩ := HS.out.elemN k hlt
        have c0 : w.cell? ⟨b, off + k * 2, none⟩ = some (.string l[k].key) := hc 0 _ rfl
        have c1 : w.cell? ⟨b, off + k * 2 + 1, none⟩ = some (.string l[k].val) := hc 1 _ rfl
        clear hc
        by_cases h5 : 50 < (l[k].key).size
        · go_wp2
          go_ret
          exact ⟨_, rfl, (fun h => by cases h), rfl⟩
        by_cases h6 : 50 < (l[k].val).size
        · go_wp2
          go_ret
          exact ⟨_, rfl, (fun h => by cases h), rfl⟩
        have HF : Hid ((l[k]).Few) := ⟨by omega, by omega⟩
        go_wp2
        go_round
        case rel => exact ⟨k + 1, by omega, by go_num, fun j h hj => by
          by_cases e : j = k
          · subst e; exact HF.out
          · exact HR.out j h (by omega)⟩
        case measure => simp [intOf]; omega
      · go_wp2
        go_ret
        exact ⟨_, rfl, fun _ => ⟨by omega, fun x hx => by
          obtain ⟨j, hj, rfl⟩ := List.getElem_of_mem hx
          exact HR.out j hj (by omega)⟩, rfl⟩

set_option maxHeartbeats 1000000 in
theorem FewSel4_calls (v : Value) (l : List Term) (w : World) (hs : Kd.term.S (vw w []) v l) : Calls Tryz.prog 72 #[v] w (FewIf (FewL l Term.Few) w) := by
  obtain ⟨A, cap, rfl, hs⟩ := hs.val
  obtain ⟨-, hcap, hlen⟩ := hs.form
  have HS := Lib.hid hs
  clear hs
  go_enter Tryz.func72, Tryz.ntmps72
  by_cases h60 : 20 < l.length
  · go_wp2
    go_ret
    exact ⟨_, rfl, (fun h => by cases h), rfl⟩
  · go_wp2
    go_loop [3] (fun i => ∃ k : Nat, k ≤ l.length ∧ i = .int .i64 k ∧ Hid (∀ j, (h : j < l.length) → j < k → (l[j]).Few)) (fun i => l.length - (intOf i).toNat)
    case atStart => exact ⟨0, Nat.zero_le _, rfl, fun _ _ h => by omega⟩
    case round =>
      obtain ⟨k, hk, rfl, HR⟩ := hrel
      by_cases hlt : k < l.length
      · obtain ⟨b, off, rfl, hc, hp⟩ := HS.out.elemN k hlt
        have c1 : w.cell? ⟨b, off + k * 3 + 1, none⟩ = some (.string l[k].key) := hc 1 _ rfl
        have c2 : w.cell? ⟨b, off + k * 3 + 2, none⟩ = some (.string l[k].val) := hc 2 _ rfl
        clear hc
        by_cases h5 : 50 < (l[k].key).size
        · go_wp2
          go_ret
          exact ⟨_, rfl, (fun h => by cases h), rfl⟩
        by_cases h6 : 50 < (l[k].val).size
        · go_wp2
          go_ret
          exact ⟨_, rfl, (fun h => by cases h), rfl⟩
        have HF : Hid ((l[k]).Few) := ⟨by omega, by omega⟩
        go_wp2
        go_round
        case rel => exact ⟨k + 1, by omega, by go_num, fun j h hj => by
          by_cases e : j = k
          · subst e; exact HF.out
          · exact HR.out j h (by omega)⟩
        case measure => simp [intOf]; omega
      · go_wp2
        go_ret
        exact ⟨_, rfl, fun _ => ⟨by omega, fun x hx => by
          obtain ⟨j, hj, rfl⟩ := List.getElem_of_mem hx
          exact HR.out j hj (by omega)⟩, rfl⟩

set_option maxHeartbeats 1000000 in
theorem Few5_calls (v : Value) (l : List Tnt) (w : World) (hs : Kd.tnt.S (vw w []) v l) : Calls Tryz.prog 236 #[v] w (FewIf (FewL l Tnt.Few) w) := by
  obtain ⟨A, cap, rfl, hs⟩ := hs.val
  obtain ⟨-, hcap, hlen⟩ := hs.form
  have HS := Lib.hid hs
  clear hs
  go_enter Tryz.func236, Tryz.ntmps236
  by_cases h60 : 20 < l.length
  · go_wp2
    go_ret
    exact ⟨_, rfl, (fun h => by cases h), rfl⟩
  · go_wp2
    go_loop [3] (fun i => ∃ k : Nat, k ≤ l.length ∧ i = .int .i64 k ∧ Hid (∀ j, (h : j < l.length) → j < k → (l[j]).Few)) (fun i => l.length - (intOf i).toNat)
    case atStart => exact ⟨0, Nat.zero_le _, rfl, fun _ _ h => by omega⟩
    case round =>
      obtain ⟨k, hk, rfl, HR⟩ := hrel
      by_cases hlt : k < l.length
      · obtain ⟨b, off, rfl, hc, hp⟩ := HS.out.elemN k hlt
        have c0 : w.cell? ⟨b, off + k * 3, none⟩ = some (.string l[k].key) := hc 0 _ rfl
        have c1 : w.cell? ⟨b, off + k * 3 + 1, none⟩ = some (.string l[k].val) := hc 1 _ rfl
        clear hc
        by_cases h5 : 50 < (l[k].key).size
        · go_wp2
          go_ret
          exact ⟨_, rfl, (fun h => by cases h), rfl⟩
        by_cases h6 : 50 < (l[k].val).size
        · go_wp2
          go_ret
          exact ⟨_, rfl, (fun h => by cases h), rfl⟩
        have HF : Hid ((l[k]).Few) := ⟨by omega, by omega⟩
        go_wp2
        go_round
        case rel => exact ⟨k + 1, by omega, by go_num, fun j h hj => by
          by_cases e : j = k
          · subst e; exact HF.out
          · exact HR.out j h (by omega)⟩
        case measure => simp [intOf]; omega
      · go_wp2
        go_ret
        exact ⟨_, rfl, fun _ => ⟨by omega, fun x hx => by
          obtain ⟨j, hj, rfl⟩ := List.getElem_of_mem hx
          exact HR.out j hj (by omega)⟩, rfl⟩

set_option maxHeartbeats 1000000 in
theorem FewTols5_calls (v : Value) (l : List Tnt) (w : World) (hs : Kd.tnt.S (vw w []) v l) : Calls Tryz.prog 73 #[v] w (FewIf (FewL l Tnt.Few) w) := by
  obtain ⟨A, cap, rfl, hs⟩ := hs.val
  obtain ⟨-, hcap, hlen⟩ := hs.form
  have HS := Lib.hid hs
  clear hs
  go_enter Tryz.func73, Tryz.ntmps73
  by_cases h60 : 20 < l.length
  · go_wp2
    go_ret
    exact ⟨_, rfl, (fun h => by cases h), rfl⟩
  · go_wp2
    go_loop [3] (fun i => ∃ k : Nat, k ≤ l.length ∧ i = .int .i64 k ∧ Hid (∀ j, (h : j < l.length) → j < k → (l[j]).Few)) (fun i => l.length - (intOf i).toNat)
    case atStart => exact ⟨0, Nat.zero_le _, rfl, fun _ _ h => by omega⟩
    case round =>
      obtain ⟨k, hk, rfl, HR⟩ := hrel
      by_cases hlt : k < l.length
      · obtain ⟨b, off, rfl, hc, hp⟩ := HS.out.elemN k hlt
        have c0 : w.cell? ⟨b, off + k * 3, none⟩ = some (.string l[k].key) := hc 0 _ rfl
        have c1 : w.cell? ⟨b, off + k * 3 + 1, none⟩ = some (.string l[k].val) := hc 1 _ rfl
        clear hc
        by_cases h5 : 50 < (l[k].key).size
        · go_wp2
          go_ret
          exact ⟨_, rfl, (fun h => by cases h), rfl⟩
        by_cases h6 : 50 < (l[k].val).size
        · go_wp2
          go_ret
          exact ⟨_, rfl, (fun h => by cases h), rfl⟩
        have HF : Hid ((l[k]).Few) := ⟨by omega, by omega⟩
        go_wp2
        go_round
        case rel => exact ⟨k + 1, by omega, by go_num, fun j h hj => by
          by_cases e : j = k
          · subst e; exact HF.out
          · exact HR.out j h (by omega)⟩
        case measure => simp [intOf]; omega
      · go_wp2
        go_ret
        exact ⟨_, rfl, fun _ => ⟨by omega, fun x hx => by
          obtain ⟨j, hj, rfl⟩ := List.getElem_of_mem hx
          exact HR.out j hj (by omega)⟩, rfl⟩

end Go.Proofs.YtnmhicgbdalniaaGreatDoor
namespace Go.Proofs.YtnmhicgbdalniaaGreatDoor
open Go.RowKit

def FewIfB (P : Prop) (w : World) (e : Ending) (w' : World) : Prop := ∃ r, e = .returned (.bool r) ∧ (r = true → P) ∧ Below w.heap.size w w'
def Nd.Few (x : Nd) : Prop := x.name.size ≤ 50 ∧ FewL x.cap Amt.Few ∧ FewL x.labels Pair.Few ∧ FewL x.taints Tnt.Few
def Pd.Few (x : Pd) : Prop := x.name.size ≤ 50 ∧ x.owner.size ≤ 50 ∧ x.key.size ≤ 50 ∧ x.node.size ≤ 50 ∧ FewL x.need Amt.Few ∧ FewL x.labels Pair.Few ∧ FewL x.sel Term.Few ∧ FewL x.tols Tnt.Few
def Bd.Few (x : Bd) : Prop := x.name.size ≤ 50 ∧ FewL x.sel Term.Few
def St.Few (x : St) : Prop := x.nodes.length ≤ 34 ∧ x.pods.length ≤ 130 ∧ FewL x.budgets Bd.Few ∧ (∀ n ∈ x.nodes, n.Few) ∧ ∀ p ∈ x.pods, p.Few

set_option maxHeartbeats 2000000 in
set_option maxRecDepth 100000 in
theorem Few6_calls (v : Value) (x : Nd) (w : World) (hv : Kd.node.V (vw w []) v x) : Calls Tryz.prog 158 #[v] w (FewIfB x.Few w) := by
  obtain ⟨cs, rfl, A0, c0, A1, c1, A2, c2, rfl, -, s0, s1, s2⟩ := hv
  have S0 := Lib.hid s0
  have S1 := Lib.hid s1
  have S2 := Lib.hid s2
  clear s0 s1 s2
  go_enter Tryz.func158, Tryz.ntmps158
  by_cases h_name : 50 < x.name.size
  · go_wp2
    go_ret
    exact ⟨_, rfl, (fun h => by cases h), alloc_below _ _⟩
  go_wp2_with fail
  refine (Few2_calls _ x.cap _ (S0.out.mono (vw_alloc _))).mono ?_
  rintro e w' ⟨r, rfl, h, rfl⟩
  cases r with
  | false =>
    clear h
    go_wp2
    go_ret
    exact ⟨_, rfl, (fun h => by cases h), alloc_below _ _⟩
  | true =>
  have H0 := Lib.hid (h rfl)
  clear h
  go_wp2_with fail
  refine (Few4_calls _ x.labels _ (S1.out.mono (vw_alloc _))).mono ?_
  rintro e w' ⟨r, rfl, h, rfl⟩
  cases r with
  | false =>
    clear h
    go_wp2
    go_ret
    exact ⟨_, rfl, (fun h => by cases h), alloc_below _ _⟩
  | true =>
  have H1 := Lib.hid (h rfl)
  clear h
  go_wp2_with fail
  refine (Few5_calls _ x.taints _ (S2.out.mono (vw_alloc _))).mono ?_
  rintro e w' ⟨r, rfl, h, rfl⟩
  cases r with
  | false =>
    clear h
    go_wp2
    go_ret
    exact ⟨_, rfl, (fun h => by cases h), alloc_below _ _⟩
  | true =>
  have H2 := Lib.hid (h rfl)
  clear h
  go_wp2
  go_ret
  exact ⟨_, rfl, (fun _ => ⟨by omega, H0.out, H1.out, H2.out⟩), alloc_below _ _⟩

set_option maxHeartbeats 2000000 in
set_option maxRecDepth 100000 in
theorem Few7_calls (v : Value) (x : Pd) (w : World) (hv : Kd.pod.V (vw w []) v x) : Calls Tryz.prog 17 #[v] w (FewIfB x.Few w) := by
  obtain ⟨cs, rfl, A0, c0, A1, c1, A2, c2, A3, c3, rfl, -, s0, s1, s2, s3⟩ := hv
  have S0 := Lib.hid s0
  have S1 := Lib.hid s1
  have S2 := Lib.hid s2
  have S3 := Lib.hid s3
  clear s0 s1 s2 s3
  go_enter Tryz.func17, Tryz.ntmps17
  by_cases h_name : 50 < x.name.size
  · go_wp2
    go_ret
    exact ⟨_, rfl, (fun h => by cases h), alloc_below _ _⟩
  by_cases h_owner : 50 < x.owner.size
  · go_wp2
    go_ret
    exact ⟨_, rfl, (fun h => by cases h), alloc_below _ _⟩
  by_cases h_key : 50 < x.key.size
  · go_wp2
    go_ret
    exact ⟨_, rfl, (fun h => by cases h), alloc_below _ _⟩
  by_cases h_node : 50 < x.node.size
  · go_wp2
    go_ret
    exact ⟨_, rfl, (fun h => by cases h), alloc_below _ _⟩
  go_wp2_with fail
  refine (Few2_calls _ x.need _ (S0.out.mono (vw_alloc _))).mono ?_
  rintro e w' ⟨r, rfl, h, rfl⟩
  cases r with
  | false =>
    clear h
    go_wp2
    go_ret
    exact ⟨_, rfl, (fun h => by cases h), alloc_below _ _⟩
  | true =>
  have H0 := Lib.hid (h rfl)
  clear h
  go_wp2_with fail
  refine (Few4_calls _ x.labels _ (S1.out.mono (vw_alloc _))).mono ?_
  rintro e w' ⟨r, rfl, h, rfl⟩
  cases r with
  | false =>
    clear h
    go_wp2
    go_ret
    exact ⟨_, rfl, (fun h => by cases h), alloc_below _ _⟩
  | true =>
  have H1 := Lib.hid (h rfl)
  clear h
  go_wp2_with fail
  refine (FewSel4_calls _ x.sel _ (S2.out.mono (vw_alloc _))).mono ?_
  rintro e w' ⟨r, rfl, h, rfl⟩
  cases r with
  | false =>
    clear h
    go_wp2
    go_ret
    exact ⟨_, rfl, (fun h => by cases h), alloc_below _ _⟩
  | true =>
  have H2 := Lib.hid (h rfl)
  clear h
  go_wp2_with fail
  refine (FewTols5_calls _ x.tols _ (S3.out.mono (vw_alloc _))).mono ?_
  rintro e w' ⟨r, rfl, h, rfl⟩
  cases r with
  | false =>
    clear h
    go_wp2
    go_ret
    exact ⟨_, rfl, (fun h => by cases h), alloc_below _ _⟩
  | true =>
  have H3 := Lib.hid (h rfl)
  clear h
  go_wp2
  go_ret
  exact ⟨_, rfl, (fun _ => ⟨by omega, by omega, by omega, by omega, H0.out, H1.out, H2.out, H3.out⟩), alloc_below _ _⟩

end Go.Proofs.YtnmhicgbdalniaaGreatDoor
namespace Go.Proofs.YtnmhicgbdalniaaGreatDoor
open Go.RowKit

set_option maxHeartbeats 1000000 in
theorem Few8_calls (v : Value) (l : List Bd) (w : World) (hs : Kd.budget.S (vw w []) v l) : Calls Tryz.prog 157 #[v] w (FewIf (FewL l Bd.Few) w) := by
  obtain ⟨A, cap, rfl, hs⟩ := hs.val
  obtain ⟨-, hcap, hlen⟩ := hs.form
  have HS := Lib.hid hs
  clear hs
  go_enter Tryz.func157, Tryz.ntmps157
  by_cases h60 : 20 < l.length
  · go_wp2
    go_ret
    exact ⟨_, rfl, (fun h => by cases h), rfl⟩
  · go_wp2
    go_loop [3] (fun i => ∃ k : Nat, k ≤ l.length ∧ i = .int .i64 k ∧ Hid (∀ j, (h : j < l.length) → j < k → (l[j]).Few)) (fun i => l.length - (intOf i).toNat)
    case atStart => exact ⟨0, Nat.zero_le _, rfl, fun _ _ h => by omega⟩
    case round =>
      obtain ⟨k, hk, rfl, HR⟩ := hrel
      by_cases hlt : k < l.length
      · obtain ⟨b, off, cs, rfl, ⟨A1, d1, rfl, -, s1⟩, hc⟩ := HS.out.at_ k hlt
        have c0 : w.cell? ⟨b, off + k * 3, none⟩ = some (.string l[k].name) := hc 0 _ rfl
        have c1 : w.cell? ⟨b, off + k * 3 + 1, none⟩ = some (.slice A1 l[k].sel.length d1) := hc 1 _ rfl
        have S1 := Lib.hid s1
        clear hc s1
        by_cases h5 : 50 < (l[k].name).size
        · go_wp2
          go_ret
          exact ⟨_, rfl, (fun h => by cases h), rfl⟩
        go_wp2_with fail
        refine (FewSel4_calls _ l[k].sel _ S1.out).mono ?_
        rintro e w' ⟨r, rfl, h, rfl⟩
        cases r with
        | false =>
          clear h
          go_wp2
          go_ret
          exact ⟨_, rfl, (fun h => by cases h), rfl⟩
        | true =>
        have HF : Hid ((l[k]).Few) := ⟨by omega, h rfl⟩
        clear h
        go_wp2
        go_round
        case rel => exact ⟨k + 1, by omega, by go_num, fun j h hj => by
          by_cases e : j = k
          · subst e; exact HF.out
          · exact HR.out j h (by omega)⟩
        case measure => simp [intOf]; omega
      · go_wp2
        go_ret
        exact ⟨_, rfl, fun _ => ⟨by omega, fun x hx => by
          obtain ⟨j, hj, rfl⟩ := List.getElem_of_mem hx
          exact HR.out j hj (by omega)⟩, rfl⟩
set_option maxHeartbeats 2000000 in
set_option maxRecDepth 100000 in
theorem Few9_calls (v : Value) (s : St) (w : World) (hv : Kd.state.V (vw w []) v s) : Calls Tryz.prog 68 #[v] w (FewIfB s.Few w) := by
  obtain ⟨cs, rfl, A1, c1, A2, c2, A3, c3, rfl, s1, s2, s3⟩ := hv
  obtain ⟨-, f1, f1'⟩ := s1.form
  obtain ⟨-, f2, f2'⟩ := s2.form
  have S1 := Lib.hid s1
  have S2 := Lib.hid s2
  have S3 := Lib.hid s3
  clear s1 s2 s3
  go_enter Tryz.func68, Tryz.ntmps68
  by_cases h1 : 34 < s.nodes.length
  · go_wp2
    go_ret
    exact ⟨_, rfl, (fun h => by cases h), alloc_below _ _⟩
  by_cases h2 : 130 < s.pods.length
  · go_wp2
    go_ret
    exact ⟨_, rfl, (fun h => by cases h), alloc_below _ _⟩
  go_wp2_with fail
  refine (Few8_calls _ s.budgets _ (S3.out.mono (vw_alloc _))).mono ?_
  rintro e w' ⟨r, rfl, h, rfl⟩
  cases r with
  | false =>
    clear h
    go_wp2
    go_ret
    exact ⟨_, rfl, (fun h => by cases h), alloc_below _ _⟩
  | true =>
  have H3 := Lib.hid (h rfl)
  clear h
  go_wp2
  go_loopw [3] (fun i wr => ∃ k : Nat, k ≤ s.nodes.length ∧ i = .int .i64 k ∧ Hid (∀ j, (h : j < s.nodes.length) → j < k → (s.nodes[j]).Few) ∧ Hid (Below w.heap.size w wr) ∧ Hid (wr.heap[w.heap.size]? = some (.cells #[.slice A1 s.nodes.length c1, .slice A2 s.pods.length c2, .slice A3 s.budgets.length c3] 26 (0, 0)))) (fun i _ => s.nodes.length - (intOf i).toNat)
  case atStart => exact ⟨0, Nat.zero_le _, rfl, fun _ _ h => by omega, alloc_below _ _, blk_last _ _⟩
  case round =>
    obtain ⟨k, hk, rfl, HR, HB, HC⟩ := hrel
    obtain ⟨z1, z2⟩ := blk_all HC.out
    by_cases hlt : k < s.nodes.length
    · obtain ⟨b, off, cs, rfl, hn, hc⟩ := S1.out.both HB.out k hlt
      have HV : Hid (Kd.node.V (vw wr []) (.agg cs.toArray) s.nodes[k]) := ⟨cs, rfl, Kd.node.mono (vw_below HB.out) hn⟩
      have hl := Kd.node.len hn
      have HL : Hid (cs.length = 5) := hl
      have HC2 : Hid (wr.rangeAt b (off + k * 5) cs) := hc
      clear hn hc hl
      go_wp2_with (first | fail | (with_reducible refine wpList_load_mid rfl 94 _ rfl b (off + k * 5) rfl cs _ HC2.out Tryz.underlying94 rfl ?_ ?_; (rw [HL.out]; kernel_rfl)))
      refine (Few6_calls _ s.nodes[k] _ HV.out).mono ?_
      rintro e w2 ⟨r, rfl, h, hb⟩
      have HB2 := Lib.hid (Below.thenN HB.out HB.out.size hb)
      have HCa : Hid (w2.heap[w.heap.size]? = _) := (hb.block _ (blk_lt HC.out)).trans HC.out
      clear hb z1 z2
      cases r with
      | false =>
        clear h
        go_wp2
        go_ret
        exact ⟨_, rfl, (fun h => by cases h), HB2.out⟩
      | true =>
        have HF : Hid ((s.nodes[k]).Few) := h rfl
        clear h
        go_wp2
        go_roundw
        case rel => exact ⟨k + 1, by omega, by go_num, fun j h hj => by
          by_cases e : j = k
          · subst e; exact HF.out
          · exact HR.out j h (by omega), HB2.out, HCa.out⟩
        case measure => simp [intOf]; omega
    · have HN : Hid (∀ n ∈ s.nodes, n.Few) := fun x hx => by
        obtain ⟨j, hj, rfl⟩ := List.getElem_of_mem hx
        exact HR.out j hj (by omega)
      clear HR
      go_wp2
      clear z1 z2
      go_loopw [4] (fun i wr => ∃ k : Nat, k ≤ s.pods.length ∧ i = .int .i64 k ∧ Hid (∀ j, (h : j < s.pods.length) → j < k → (s.pods[j]).Few) ∧ Hid (Below w.heap.size w wr) ∧ Hid (wr.heap[w.heap.size]? = some (.cells #[.slice A1 s.nodes.length c1, .slice A2 s.pods.length c2, .slice A3 s.budgets.length c3] 26 (0, 0)))) (fun i _ => s.pods.length - (intOf i).toNat)
      case atStart => exact ⟨0, Nat.zero_le _, rfl, fun _ _ h => by omega, HB.out, HC.out⟩
      case round =>
        clear HB HC
        obtain ⟨k, hk, rfl, HR, HB, HC⟩ := hrel
        obtain ⟨z1, z2⟩ := blk_all HC.out
        by_cases hlt : k < s.pods.length
        · obtain ⟨b, off, cs, rfl, hn, hc⟩ := S2.out.both HB.out k hlt
          have HV : Hid (Kd.pod.V (vw wr []) (.agg cs.toArray) s.pods[k]) := ⟨cs, rfl, Kd.pod.mono (vw_below HB.out) hn⟩
          have HL : Hid (cs.length = 11) := Kd.pod.len hn
          have HC2 : Hid (wr.rangeAt b (off + k * 11) cs) := hc
          clear hn hc
          go_wp2_with (first | fail | (with_reducible refine wpList_load_mid rfl 35 _ rfl b (off + k * 11) rfl cs _ HC2.out Tryz.underlying35 rfl ?_ ?_; (rw [HL.out]; kernel_rfl)))
          refine (Few7_calls _ s.pods[k] _ HV.out).mono ?_
          rintro e w2 ⟨r, rfl, h, hb⟩
          have HB2 := Lib.hid (Below.thenN HB.out HB.out.size hb)
          have HCa : Hid (w2.heap[w.heap.size]? = _) := (hb.block _ (blk_lt HC.out)).trans HC.out
          clear hb z1 z2
          cases r with
          | false =>
            clear h
            go_wp2
            go_ret
            exact ⟨_, rfl, (fun h => by cases h), HB2.out⟩
          | true =>
            have HF : Hid ((s.pods[k]).Few) := h rfl
            clear h
            go_wp2
            go_roundw
            case rel => exact ⟨k + 1, by omega, by go_num, fun j h hj => by
              by_cases e : j = k
              · subst e; exact HF.out
              · exact HR.out j h (by omega), HB2.out, HCa.out⟩
            case measure => simp [intOf]; omega
        · have HP : Hid (∀ n ∈ s.pods, n.Few) := fun x hx => by
            obtain ⟨j, hj, rfl⟩ := List.getElem_of_mem hx
            exact HR.out j hj (by omega)
          clear HR
          go_wp2
          go_ret
          exact ⟨_, rfl, fun _ => ⟨by omega, by omega, H3.out, HN.out, HP.out⟩, HB.out⟩
end Go.Proofs.YtnmhicgbdalniaaGreatDoor
namespace Go.Proofs.YtnmhicgbdalniaaGreatDoor
open Go.RowKit

/-- A copy of a struct, what it leads to in memory that is new. -/
def OneDone {α : Type} (d : Kd α) (x : α) (w : World) (e : Ending) (w' : World) : Prop := ∃ cs, e = .returned (.agg cs.toArray) ∧ d.K (nx w' w.heap.size none) x cs ∧ Below w.heap.size w w'
theorem nx_set {w : World} {lo : Nat} {own : Option Nat} {p : Addr} (h : p.block < lo) (u : Value) : (nx w lo own).le (nx (w.setCell p u) lo own) := fun b o hb => by
  obtain ⟨h1, h2, h3⟩ := nx_eq hb
  exact nx_mk (by omega) h2 ((Below.heap_setCell w p u b (by omega)).trans h3)
theorem nx_setCells {w : World} {lo lo' b : Nat} (cs : List Value) (o : Nat) (h : b < lo) (hl : lo' ≤ lo) : (nx w lo none).le (nx (w.setCells b o cs) lo' none) := fun k x hk => by
  obtain ⟨h1, h2, h3⟩ := nx_eq hk
  exact nx_mk (by omega) (by simp) ((setCells_far b cs o w k (by omega)).trans h3)
theorem nx_lo {w : World} {lo lo' : Nat} (h : lo ≤ lo') : (nx w lo' none).le (nx w lo none) := nx_new h (by simp) rfl

set_option maxHeartbeats 4000000 in
set_option maxRecDepth 100000 in
theorem Of6_calls (v : Value) (x : Nd) (w : World) (hv : Kd.node.V (vw w []) v x) (hf : x.Few) : Calls Tryz.prog 163 #[v] w (OneDone Kd.node x w) := by
  obtain ⟨cs, rfl, A0, c0, A1, c1, A2, c2, rfl, hx, s0, s1, s2⟩ := hv
  have S0 := Lib.hid s0
  have S1 := Lib.hid s1
  have S2 := Lib.hid s2
  have HX := Lib.hid hx
  have l0 := hf.2.1.1
  have l1 := hf.2.2.1.1
  have l2 := hf.2.2.2.1
  clear s0 s1 s2 hx hf
  go_enter Tryz.func163, Tryz.ntmps163
  go_wp2
  obtain ⟨W, hW⟩ : ∃ W : World, W = ((w.alloc (.cells #[.string x.name, .slice A0 x.cap.length c0, .slice A1 x.labels.length c1, .slice A2 x.taints.length c2, .bool x.cordon] 94)).alloc (.cells #[.string ⟨#[]⟩, .slice none 0 0, .slice none 0 0, .slice none 0 0, .bool false] 150)) := ⟨_, rfl⟩
  rw [← hW]
  have HB : Hid (Below w.heap.size w W.drew) := by
    rw [hW]; exact Below.then (Below.then (alloc_below _ _) (alloc_below _ _)) (drewN_below _ 1)
  have HC : Hid (W.drew.heap[w.heap.size]? = some (.cells #[.string x.name, .slice A0 x.cap.length c0, .slice A1 x.labels.length c1, .slice A2 x.taints.length c2, .bool x.cordon] 94 (0, 0))) := by
    rw [hW]; exact (blk_old _ _ (by simp)).trans (blk_last _ _)
  have HZ : Hid (W.drew.heap[w.heap.size + 1]? = some (.cells #[.string ⟨#[]⟩, .slice none 0 0, .slice none 0 0, .slice none 0 0, .bool false] 150 (0, 0))) := by
    rw [hW]; exact (show _ = w.heap.size + 1 by simp : (w.alloc (.cells #[.string x.name, .slice A0 x.cap.length c0, .slice A1 x.labels.length c1, .slice A2 x.taints.length c2, .bool x.cordon] 94)).heap.size = w.heap.size + 1) ▸ blk_last _ _
  have hsz : w.heap.size + 2 ≤ W.drew.heap.size := by
    rw [hW]; show _ ≤ (World.alloc _ _).heap.size; simp
  clear hW
  obtain ⟨z, zf⟩ := blk_all HC.out
  go_region_held3 (fun w' => ∀ j, w'.cell? ⟨w.heap.size, j, none⟩ = #[.string x.name, .slice A0 x.cap.length c0, .slice A1 x.labels.length c1, .slice A2 x.taints.length c2, .bool x.cordon][j]?) (first | go_keep | exact z) (first
    | (go_at_call 79; refine (Of2_calls _ x.cap _ (by exact S0.out.mono (vw_below HB.out)) (by omega)).mono ?_; rintro e w1 ⟨B0, d0, rfl, t0, hb⟩; (try replace T1 := Lib.hid (T1.out.mono (nx_below hb))); (try replace T2 := Lib.hid (T2.out.mono (nx_below hb))); have T0 := Lib.hid (t0.mono (nx_lo hsz)); have hsz2 := Nat.le_trans hsz hb.size; replace HB := Lib.hid (Below.then HB.out hb); replace HC := Lib.hid ((hb.block _ (blk_lt HC.out)).trans HC.out); replace HZ := Lib.hid ((hb.block _ (blk_lt HZ.out)).trans HZ.out); clear z zf hb t0 hsz; (try clear y yf); obtain ⟨z, zf⟩ := blk_all HC.out; obtain ⟨y, yf⟩ := blk_all HZ.out; have hsz := hsz2; clear hsz2)
    | (go_at_call 80; refine (Of4_calls _ x.labels _ (by exact S1.out.mono (vw_below HB.out)) (by omega)).mono ?_; rintro e w1 ⟨B1, d1, rfl, t0, hb⟩; (try replace T0 := Lib.hid (T0.out.mono (nx_below hb))); (try replace T2 := Lib.hid (T2.out.mono (nx_below hb))); have T1 := Lib.hid (t0.mono (nx_lo hsz)); have hsz2 := Nat.le_trans hsz hb.size; replace HB := Lib.hid (Below.then HB.out hb); replace HC := Lib.hid ((hb.block _ (blk_lt HC.out)).trans HC.out); replace HZ := Lib.hid ((hb.block _ (blk_lt HZ.out)).trans HZ.out); clear z zf hb t0 hsz; (try clear y yf); obtain ⟨z, zf⟩ := blk_all HC.out; obtain ⟨y, yf⟩ := blk_all HZ.out; have hsz := hsz2; clear hsz2)
    | (go_at_call 239; refine (Of5_calls _ x.taints _ (by exact S2.out.mono (vw_below HB.out)) (by omega)).mono ?_; rintro e w1 ⟨B2, d2, rfl, t0, hb⟩; (try replace T0 := Lib.hid (T0.out.mono (nx_below hb))); (try replace T1 := Lib.hid (T1.out.mono (nx_below hb))); have T2 := Lib.hid (t0.mono (nx_lo hsz)); have hsz2 := Nat.le_trans hsz hb.size; replace HB := Lib.hid (Below.then HB.out hb); replace HC := Lib.hid ((hb.block _ (blk_lt HC.out)).trans HC.out); replace HZ := Lib.hid ((hb.block _ (blk_lt HZ.out)).trans HZ.out); clear z zf hb t0 hsz; (try clear y yf); obtain ⟨z, zf⟩ := blk_all HC.out; obtain ⟨y, yf⟩ := blk_all HZ.out; have hsz := hsz2; clear hsz2))
  have hset := setCells_all (cs := [.string x.name, .slice B0 x.cap.length d0, .slice B1 x.labels.length d1, .slice B2 x.taints.length d2, .bool x.cordon]) HZ.out rfl
  have hbl := Below.setCells HB.out (Nat.le_succ _) [.string x.name, .slice B0 x.cap.length d0, .slice B1 x.labels.length d1, .slice B2 x.taints.length d2, .bool x.cordon] 0
  have hnx := nx_setCells (w := w1) (lo' := w.heap.size) [.string x.name, .slice B0 x.cap.length d0, .slice B1 x.labels.length d1, .slice B2 x.taints.length d2, .bool x.cordon] 0 (Nat.lt_succ_self (w.heap.size + 1)) (by omega)
  go_wp2
  change bodyPost _ _ _ _ _ (w1.setCells (w.heap.size + 1) 0 [.string x.name, .slice B0 x.cap.length d0, .slice B1 x.labels.length d1, .slice B2 x.taints.length d2, .bool x.cordon])
  exact ret_row1 (cs := [.string x.name, .slice B0 x.cap.length d0, .slice B1 x.labels.length d1, .slice B2 x.taints.length d2, .bool x.cordon]) rfl rfl hset Tryz.underlying150 rfl (by kernel_rfl) rfl ⟨[.string x.name, .slice B0 x.cap.length d0, .slice B1 x.labels.length d1, .slice B2 x.taints.length d2, .bool x.cordon], rfl, ⟨B0, d0, B1, d1, B2, d2, rfl, HX.out, T0.out.mono hnx, T1.out.mono hnx, T2.out.mono hnx⟩, hbl⟩

set_option maxHeartbeats 4000000 in
set_option maxRecDepth 100000 in
theorem Of8_calls (v : Value) (x : Bd) (w : World) (hv : Kd.budget.V (vw w []) v x) (hf : x.Few) : Calls Tryz.prog 164 #[v] w (OneDone Kd.budget x w) := by
  obtain ⟨cs, rfl, A0, c0, rfl, hx, s0⟩ := hv
  have S0 := Lib.hid s0
  have HX := Lib.hid hx
  have l0 := hf.2.1
  clear s0 hx hf
  go_enter Tryz.func164, Tryz.ntmps164
  go_wp2
  obtain ⟨W, hW⟩ : ∃ W : World, W = ((w.alloc (.cells #[.string x.name, .slice A0 x.sel.length c0, .int .i64 x.floor] 245)).alloc (.cells #[.string ⟨#[]⟩, .slice none 0 0, .int .i64 0] 242)) := ⟨_, rfl⟩
  rw [← hW]
  have HB : Hid (Below w.heap.size w W.drew) := by
    rw [hW]; exact Below.then (Below.then (alloc_below _ _) (alloc_below _ _)) (drewN_below _ 1)
  have HC : Hid (W.drew.heap[w.heap.size]? = some (.cells #[.string x.name, .slice A0 x.sel.length c0, .int .i64 x.floor] 245 (0, 0))) := by
    rw [hW]; exact (blk_old _ _ (by simp)).trans (blk_last _ _)
  have HZ : Hid (W.drew.heap[w.heap.size + 1]? = some (.cells #[.string ⟨#[]⟩, .slice none 0 0, .int .i64 0] 242 (0, 0))) := by
    rw [hW]; exact (show _ = w.heap.size + 1 by simp : (w.alloc (.cells #[.string x.name, .slice A0 x.sel.length c0, .int .i64 x.floor] 245)).heap.size = w.heap.size + 1) ▸ blk_last _ _
  have hsz : w.heap.size + 2 ≤ W.drew.heap.size := by
    rw [hW]; show _ ≤ (World.alloc _ _).heap.size; simp
  clear hW
  obtain ⟨z, zf⟩ := blk_all HC.out
  go_region_held3 (fun w' => ∀ j, w'.cell? ⟨w.heap.size, j, none⟩ = #[.string x.name, .slice A0 x.sel.length c0, .int .i64 x.floor][j]?) (first | go_keep | exact z) (first
    | (go_at_call 81; refine (OfSel4_calls _ x.sel _ (by exact S0.out.mono (vw_below HB.out)) (by omega)).mono ?_; rintro e w1 ⟨B0, d0, rfl, t0, hb⟩;  have T0 := Lib.hid (t0.mono (nx_lo hsz)); have hsz2 := Nat.le_trans hsz hb.size; replace HB := Lib.hid (Below.then HB.out hb); replace HC := Lib.hid ((hb.block _ (blk_lt HC.out)).trans HC.out); replace HZ := Lib.hid ((hb.block _ (blk_lt HZ.out)).trans HZ.out); clear z zf hb t0 hsz; (try clear y yf); obtain ⟨z, zf⟩ := blk_all HC.out; obtain ⟨y, yf⟩ := blk_all HZ.out; have hsz := hsz2; clear hsz2))
  have hset := setCells_all (cs := [.string x.name, .slice B0 x.sel.length d0, .int .i64 x.floor]) HZ.out rfl
  have hbl := Below.setCells HB.out (Nat.le_succ _) [.string x.name, .slice B0 x.sel.length d0, .int .i64 x.floor] 0
  have hnx := nx_setCells (w := w1) (lo' := w.heap.size) [.string x.name, .slice B0 x.sel.length d0, .int .i64 x.floor] 0 (Nat.lt_succ_self (w.heap.size + 1)) (by omega)
  go_wp2
  change bodyPost _ _ _ _ _ (w1.setCells (w.heap.size + 1) 0 [.string x.name, .slice B0 x.sel.length d0, .int .i64 x.floor])
  exact ret_row1 (cs := [.string x.name, .slice B0 x.sel.length d0, .int .i64 x.floor]) rfl rfl hset Tryz.underlying242 rfl (by kernel_rfl) rfl ⟨[.string x.name, .slice B0 x.sel.length d0, .int .i64 x.floor], rfl, ⟨B0, d0, rfl, HX.out, T0.out.mono hnx⟩, hbl⟩

end Go.Proofs.YtnmhicgbdalniaaGreatDoor
namespace Go.Proofs.YtnmhicgbdalniaaGreatDoor
open Go.RowKit

set_option maxHeartbeats 40000000 in
set_option maxRecDepth 100000 in
theorem Of7_calls (v : Value) (x : Pd) (w : World) (hv : Kd.pod.V (vw w []) v x) (hf : x.Few) : Calls Tryz.prog 19 #[v] w (OneDone Kd.pod x w) := by
  obtain ⟨cs, rfl, A0, c0, A1, c1, A2, c2, A3, c3, rfl, hx, s0, s1, s2, s3⟩ := hv
  have S0 := Lib.hid s0
  have S1 := Lib.hid s1
  have S2 := Lib.hid s2
  have S3 := Lib.hid s3
  have HX := Lib.hid hx
  have l0 := hf.2.2.2.2.1.1
  have l1 := hf.2.2.2.2.2.1.1
  have l2 := hf.2.2.2.2.2.2.1.1
  have l3 := hf.2.2.2.2.2.2.2.1
  clear s0 s1 s2 s3 hx hf
  go_enter Tryz.func19, Tryz.ntmps19
  go_wp2
  obtain ⟨W, hW⟩ : ∃ W : World, W = ((w.alloc (.cells #[.string x.name, .string x.owner, .int .i64 x.prio, .slice A0 x.need.length c0, .slice A1 x.labels.length c1, .slice A2 x.sel.length c2, .slice A3 x.tols.length c3, .string x.key, .int .i64 x.most, .string x.node, .bool x.hold] 35)).alloc (.cells #[.string ⟨#[]⟩, .string ⟨#[]⟩, .int .i64 0, .slice none 0 0, .slice none 0 0, .slice none 0 0, .slice none 0 0, .string ⟨#[]⟩, .int .i64 0, .string ⟨#[]⟩, .bool false] 45)) := ⟨_, rfl⟩
  rw [← hW]
  have HB : Hid (Below w.heap.size w W.drew) := by
    rw [hW]; exact Below.then (Below.then (alloc_below _ _) (alloc_below _ _)) (drewN_below _ 1)
  have HC : Hid (W.drew.heap[w.heap.size]? = some (.cells #[.string x.name, .string x.owner, .int .i64 x.prio, .slice A0 x.need.length c0, .slice A1 x.labels.length c1, .slice A2 x.sel.length c2, .slice A3 x.tols.length c3, .string x.key, .int .i64 x.most, .string x.node, .bool x.hold] 35 (0, 0))) := by
    rw [hW]; exact (blk_old _ _ (by simp)).trans (blk_last _ _)
  have HZ : Hid (W.drew.heap[w.heap.size + 1]? = some (.cells #[.string ⟨#[]⟩, .string ⟨#[]⟩, .int .i64 0, .slice none 0 0, .slice none 0 0, .slice none 0 0, .slice none 0 0, .string ⟨#[]⟩, .int .i64 0, .string ⟨#[]⟩, .bool false] 45 (0, 0))) := by
    rw [hW]; exact (show _ = w.heap.size + 1 by simp : (w.alloc (.cells #[.string x.name, .string x.owner, .int .i64 x.prio, .slice A0 x.need.length c0, .slice A1 x.labels.length c1, .slice A2 x.sel.length c2, .slice A3 x.tols.length c3, .string x.key, .int .i64 x.most, .string x.node, .bool x.hold] 35)).heap.size = w.heap.size + 1) ▸ blk_last _ _
  have hsz : w.heap.size + 2 ≤ W.drew.heap.size := by
    rw [hW]; show _ ≤ (World.alloc _ _).heap.size; simp
  clear hW
  obtain ⟨z, zf⟩ := blk_all HC.out
  go_region_held3 (fun w' => ∀ j, w'.cell? ⟨w.heap.size, j, none⟩ = #[.string x.name, .string x.owner, .int .i64 x.prio, .slice A0 x.need.length c0, .slice A1 x.labels.length c1, .slice A2 x.sel.length c2, .slice A3 x.tols.length c3, .string x.key, .int .i64 x.most, .string x.node, .bool x.hold][j]?) (first | go_keep | exact z) (first
    | (go_at_call 79; refine (Of2_calls _ x.need _ (by exact S0.out.mono (vw_below HB.out)) (by omega)).mono ?_; rintro e w1 ⟨B0, d0, rfl, t0, hb⟩; (try replace T1 := Lib.hid (T1.out.mono (nx_below hb))); (try replace T2 := Lib.hid (T2.out.mono (nx_below hb))); (try replace T3 := Lib.hid (T3.out.mono (nx_below hb))); have T0 := Lib.hid (t0.mono (nx_lo hsz)); have hsz2 := Nat.le_trans hsz hb.size; replace HB := Lib.hid (Below.then HB.out hb); replace HC := Lib.hid ((hb.block _ (blk_lt HC.out)).trans HC.out); replace HZ := Lib.hid ((hb.block _ (blk_lt HZ.out)).trans HZ.out); clear z zf hb t0 hsz; (try clear y yf); obtain ⟨z, zf⟩ := blk_all HC.out; obtain ⟨y, yf⟩ := blk_all HZ.out; have hsz := hsz2; clear hsz2)
    | (go_at_call 80; refine (Of4_calls _ x.labels _ (by exact S1.out.mono (vw_below HB.out)) (by omega)).mono ?_; rintro e w1 ⟨B1, d1, rfl, t0, hb⟩; (try replace T0 := Lib.hid (T0.out.mono (nx_below hb))); (try replace T2 := Lib.hid (T2.out.mono (nx_below hb))); (try replace T3 := Lib.hid (T3.out.mono (nx_below hb))); have T1 := Lib.hid (t0.mono (nx_lo hsz)); have hsz2 := Nat.le_trans hsz hb.size; replace HB := Lib.hid (Below.then HB.out hb); replace HC := Lib.hid ((hb.block _ (blk_lt HC.out)).trans HC.out); replace HZ := Lib.hid ((hb.block _ (blk_lt HZ.out)).trans HZ.out); clear z zf hb t0 hsz; (try clear y yf); obtain ⟨z, zf⟩ := blk_all HC.out; obtain ⟨y, yf⟩ := blk_all HZ.out; have hsz := hsz2; clear hsz2)
    | (go_at_call 81; refine (OfSel4_calls _ x.sel _ (by exact S2.out.mono (vw_below HB.out)) (by omega)).mono ?_; rintro e w1 ⟨B2, d2, rfl, t0, hb⟩; (try replace T0 := Lib.hid (T0.out.mono (nx_below hb))); (try replace T1 := Lib.hid (T1.out.mono (nx_below hb))); (try replace T3 := Lib.hid (T3.out.mono (nx_below hb))); have T2 := Lib.hid (t0.mono (nx_lo hsz)); have hsz2 := Nat.le_trans hsz hb.size; replace HB := Lib.hid (Below.then HB.out hb); replace HC := Lib.hid ((hb.block _ (blk_lt HC.out)).trans HC.out); replace HZ := Lib.hid ((hb.block _ (blk_lt HZ.out)).trans HZ.out); clear z zf hb t0 hsz; (try clear y yf); obtain ⟨z, zf⟩ := blk_all HC.out; obtain ⟨y, yf⟩ := blk_all HZ.out; have hsz := hsz2; clear hsz2)
    | (go_at_call 82; refine (OfTols5_calls _ x.tols _ (by exact S3.out.mono (vw_below HB.out)) (by omega)).mono ?_; rintro e w1 ⟨B3, d3, rfl, t0, hb⟩; (try replace T0 := Lib.hid (T0.out.mono (nx_below hb))); (try replace T1 := Lib.hid (T1.out.mono (nx_below hb))); (try replace T2 := Lib.hid (T2.out.mono (nx_below hb))); have T3 := Lib.hid (t0.mono (nx_lo hsz)); have hsz2 := Nat.le_trans hsz hb.size; replace HB := Lib.hid (Below.then HB.out hb); replace HC := Lib.hid ((hb.block _ (blk_lt HC.out)).trans HC.out); replace HZ := Lib.hid ((hb.block _ (blk_lt HZ.out)).trans HZ.out); clear z zf hb t0 hsz; (try clear y yf); obtain ⟨z, zf⟩ := blk_all HC.out; obtain ⟨y, yf⟩ := blk_all HZ.out; have hsz := hsz2; clear hsz2))
  have hset := setCells_all (cs := [.string x.name, .string x.owner, .int .i64 x.prio, .slice B0 x.need.length d0, .slice B1 x.labels.length d1, .slice B2 x.sel.length d2, .slice B3 x.tols.length d3, .string x.key, .int .i64 x.most, .string x.node, .bool x.hold]) HZ.out rfl
  have hbl := Below.setCells HB.out (Nat.le_succ _) [.string x.name, .string x.owner, .int .i64 x.prio, .slice B0 x.need.length d0, .slice B1 x.labels.length d1, .slice B2 x.sel.length d2, .slice B3 x.tols.length d3, .string x.key, .int .i64 x.most, .string x.node, .bool x.hold] 0
  have hnx := nx_setCells (w := w1) (lo' := w.heap.size) [.string x.name, .string x.owner, .int .i64 x.prio, .slice B0 x.need.length d0, .slice B1 x.labels.length d1, .slice B2 x.sel.length d2, .slice B3 x.tols.length d3, .string x.key, .int .i64 x.most, .string x.node, .bool x.hold] 0 (Nat.lt_succ_self (w.heap.size + 1)) (by omega)
  go_wp2
  change bodyPost _ _ _ _ _ (w1.setCells (w.heap.size + 1) 0 [.string x.name, .string x.owner, .int .i64 x.prio, .slice B0 x.need.length d0, .slice B1 x.labels.length d1, .slice B2 x.sel.length d2, .slice B3 x.tols.length d3, .string x.key, .int .i64 x.most, .string x.node, .bool x.hold])
  exact ret_row1 (cs := [.string x.name, .string x.owner, .int .i64 x.prio, .slice B0 x.need.length d0, .slice B1 x.labels.length d1, .slice B2 x.sel.length d2, .slice B3 x.tols.length d3, .string x.key, .int .i64 x.most, .string x.node, .bool x.hold]) rfl rfl hset Tryz.underlying45 rfl (by kernel_rfl) rfl ⟨[.string x.name, .string x.owner, .int .i64 x.prio, .slice B0 x.need.length d0, .slice B1 x.labels.length d1, .slice B2 x.sel.length d2, .slice B3 x.tols.length d3, .string x.key, .int .i64 x.most, .string x.node, .bool x.hold], rfl, ⟨B0, d0, B1, d1, B2, d2, B3, d3, rfl, HX.out, T0.out.mono hnx, T1.out.mono hnx, T2.out.mono hnx, T3.out.mono hnx⟩, hbl⟩

end Go.Proofs.YtnmhicgbdalniaaGreatDoor
