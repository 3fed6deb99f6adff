import Derived.Test.YtnmhicgbdalniaaGreatDoorMs18
namespace Go.Proofs.YtnmhicgbdalniaaGreatDoor
open Go.RowKit Go.Sort

theorem namesV_mem : ∀ (a b : List Amt) (x : ByteArray), x ∈ namesV a b → x ∈ a.map (·.name) ∨ x ∈ b.map (·.name)
  | [], b, x, h => by rw [namesV_nil_l] at h; exact .inr h
  | a :: r, [], x, h => by rw [namesV_nil_r] at h; exact .inl h
  | a :: r, b :: t, x, h => by
    rw [namesV] at h
    split at h
    · rcases List.mem_cons.1 h with rfl | h
      · exact .inl (by simp)
      · rcases namesV_mem r (b :: t) x h with k | k
        · exact .inl (by rw [List.map_cons]; exact List.mem_cons_of_mem _ k)
        · exact .inr k
    · split at h
      · rcases List.mem_cons.1 h with rfl | h
        · exact .inr (by simp)
        · rcases namesV_mem (a :: r) t x h with k | k
          · exact .inl k
          · exact .inr (by rw [List.map_cons]; exact List.mem_cons_of_mem _ k)
      · rcases List.mem_cons.1 h with rfl | h
        · exact .inl (by simp)
        · rcases namesV_mem r t x h with k | k
          · exact .inl (by rw [List.map_cons]; exact List.mem_cons_of_mem _ k)
          · exact .inr (by rw [List.map_cons]; exact List.mem_cons_of_mem _ k)
termination_by a b => a.length + b.length
theorem namesV_len : ∀ (a b : List Amt), (namesV a b).length ≤ a.length + b.length
  | [], b => by rw [namesV_nil_l]; simp
  | a :: r, [] => by rw [namesV_nil_r]; simp
  | a :: r, b :: t => by
    rw [namesV]
    have h1 := namesV_len r (b :: t)
    have h2 := namesV_len (a :: r) t
    have h3 := namesV_len r t
    simp only [List.length_cons] at h1 h2 h3 ⊢
    split
    · simp only [List.length_cons]; omega
    · split <;> (simp only [List.length_cons]; omega)
termination_by a b => a.length + b.length
def AmtOk (x : Amt) : Prop := sok x.name ∧ i64 x.n
theorem amt_ok {w : World} {M : List Nat} {v : Value} {l : List Amt} (s : Kd.amt.S (vw w M) v l) : ∀ x ∈ l, AmtOk x := by
  intro x hx
  obtain ⟨A, c, rfl, s⟩ := s.val
  obtain ⟨j, hj, rfl⟩ := List.getElem_of_mem hx
  obtain ⟨_, _, _, _, h⟩ := s.elemN j hj
  exact h
theorem getA_ok : ∀ {l : List Amt}, (∀ x ∈ l, AmtOk x) → ∀ k, i64 (getA l k)
  | [], _, _ => ⟨by show (-9223372036854775808 : Int) ≤ 0; decide, by show (0 : Int) ≤ 9223372036854775807; decide⟩
  | x :: r, h, k => by
    unfold getA
    split
    · exact (h x (List.mem_cons_self ..)).2
    · exact getA_ok (fun y hy => h y (List.mem_cons_of_mem _ hy)) k
theorem addN_ok {a b : Int} (ha : i64 a) (hb : i64 b) : i64 (addN a b).1 := by
  unfold addN
  obtain ⟨a1, a2⟩ := ha
  obtain ⟨b1, b2⟩ := hb
  split
  · exact ⟨by decide, by decide⟩
  · split
    · exact ⟨by decide, by decide⟩
    · split
      · exact ⟨by decide, by decide⟩
      · exact ⟨by show _ ≤ a + b; omega, by show a + b ≤ _; omega⟩
theorem checkVec_len {l : List Amt} (h : checkVec l = 0) : l.length ≤ 8 := by
  unfold checkVec manyV at h
  split at h
  · cases h
  · omega
theorem addL_at (a b : List Amt) {l : List ByteArray} {k : Nat} (h : k < l.length) (out : List Amt) : addL a b (l.drop k) out =
    if (addN (getA a l[k]) (getA b l[k])).2 ≠ 0 then ([], (addN (getA a l[k]) (getA b l[k])).2) else addL a b (l.drop (k + 1)) (out ++ [⟨l[k], (addN (getA a l[k]) (getA b l[k])).1⟩]) := by
  rw [List.drop_eq_getElem_cons h, addL]
def VecDone (r : List Amt × Int) (w : World) (e : Ending) (w' : World) : Prop := ∃ A c, e = .returned (.tuple #[.slice A r.1.length c, .int .i64 r.2]) ∧ Kd.amt.S (vw w' []) (.slice A r.1.length c) r.1 ∧ Below w.heap.size w w'
theorem vec_none {r : List Amt × Int} {n : Int} {w w' : World} (h : r = ([], n)) (hb : Below w.heap.size w w') : VecDone r w (.returned (.tuple #[.slice none 0 0, .int .i64 n])) w' := by
  subst h
  exact ⟨none, 0, rfl, Kd.S.nil _ _, hb⟩
theorem vec_some {r : List Amt × Int} {l : List Amt} {A : Option Addr} {c : Nat} {n : Int} {w w' : World} (h : r = (l, n)) (s : Kd.amt.S (vw w' []) (.slice A l.length c) l) (hb : Below w.heap.size w w') : VecDone r w (.returned (.tuple #[.slice A l.length c, .int .i64 n])) w' := by
  subst h
  exact ⟨A, c, rfl, s, hb⟩
def WholeDone (A : Option Addr) (n c : Nat) (w : World) (e : Ending) (w' : World) : Prop := e = .returned (if 8 < n then .tuple #[.slice none 0 0, .int .i64 4] else .tuple #[.slice A n c, .int .i64 0]) ∧ w = w'
theorem whole_calls (A : Option Addr) (n c : Nat) (w : World) (hn : n ≤ 140737488351232) : Calls Tryz.prog 273 #[.slice A n c] w (WholeDone A n c w) := by
  go_enter Tryz.func273, Tryz.ntmps273
  by_cases h8 : 8 < n
  · have HX : Hid ((if 8 < n then Value.tuple #[.slice none 0 0, .int .i64 4] else .tuple #[.slice A n c, .int .i64 0]) = .tuple #[.slice none 0 0, .int .i64 4]) := if_pos h8
    go_wp2
    go_ret2
    exact ⟨by rw [HX.out]; rfl, rfl⟩
  · have HX : Hid ((if 8 < n then Value.tuple #[.slice none 0 0, .int .i64 4] else .tuple #[.slice A n c, .int .i64 0]) = .tuple #[.slice A n c, .int .i64 0]) := if_neg h8
    go_wp2
    go_ret2
    exact ⟨by rw [HX.out]; rfl, rfl⟩
theorem nx_vw0 (w : World) : (nx w 0 none).le (vw w []) := nx_vw (by simp)
set_option maxHeartbeats 4000000 in
set_option maxRecDepth 100000 in
theorem AddVec_calls (va vb : Value) (a b : List Amt) (w : World) (ha : Kd.amt.S (vw w []) va a) (hb : Kd.amt.S (vw w []) vb b) :
    Calls Tryz.prog 213 #[va, vb] w (VecDone (addVec a b) w) := by
  obtain ⟨i0, hi, hz0, hz1, hz2⟩ := info_parts info_Of2
  have hoa := amt_ok ha
  have hob := amt_ok hb
  obtain ⟨A, cap, rfl, ha⟩ := ha.val
  obtain ⟨B, cap2, rfl, hb⟩ := hb.val
  have HA := Lib.hid ha
  have HD := Lib.hid hb
  have HOA := Lib.hid hoa
  have HOB := Lib.hid hob
  clear ha hb hoa hob
  go_enter Tryz.func213, Tryz.ntmps213
  go_wp2_with fail
  refine (both_calls _ _ a b _ HA.out HD.out).mono ?_
  rintro e w1 ⟨rfl, hb⟩
  obtain ⟨n1, hn1⟩ : ∃ n1, orV (checkVec a) (checkVec b) = n1 := ⟨_, rfl⟩
  rw [hn1]
  have H1 := Lib.hid hb
  have HN := Lib.hid hn1
  clear hb hn1
  by_cases h0 : n1 ≠ 0
  · have t1 : (n1 == 0) = false := by simp [h0]
    have HX : Hid (addVec a b = ([], n1)) := by
      show _ = _
      have hn := HN.out
      unfold addVec
      by_cases c1 : checkVec a ≠ 0
      · rw [if_pos c1, ← hn, orV_l c1]
      · rw [if_neg c1]
        rw [orV_r (Decidable.not_not.1 c1)] at hn
        rw [hn, if_pos h0]
    go_wp2
    go_ret2
    exact vec_none HX.out H1.out
  obtain rfl : n1 = 0 := Decidable.not_not.1 h0
  have hca : checkVec a = 0 := by
    have hn := HN.out
    by_cases c1 : checkVec a ≠ 0
    · rw [orV_l c1] at hn; exact hn
    · exact Decidable.not_not.1 c1
  have hcb : checkVec b = 0 := by
    have hn := HN.out
    rwa [orV_r hca] at hn
  have la := checkVec_len hca
  have lb := checkVec_len hcb
  have HX : Hid (addVec a b = addL a b (namesV a b) []) := by
    show _ = _
    unfold addVec
    rw [if_neg (by rw [hca]; decide), if_neg (by rw [hcb]; decide)]
  clear h0 HN hca hcb
  go_wp2_with fail
  refine (names_calls _ _ a b _ (HA.out.mono (vw_below H1.out)) (HD.out.mono (vw_below H1.out)) (by omega) (by omega)).mono ?_
  rintro e w2 ⟨sv, rfl, ho, hb⟩
  have hnl := namesV_len a b
  have hnm : ∀ x ∈ namesV a b, sok x := fun x hx => by
    rcases namesV_mem a b x hx with h | h
    · obtain ⟨y, hy, rfl⟩ := List.mem_map.1 h
      exact (HOA.out y hy).1
    · obtain ⟨y, hy, rfl⟩ := List.mem_map.1 h
      exact (HOB.out y hy).1
  have hs : Kd.str.S (vw w2 []) sv (namesV a b) := Kd.S.of_own ho (by omega) (fun x hx => hnm x hx) (by simp)
  obtain ⟨l, hl⟩ : ∃ l, namesV a b = l := ⟨_, rfl⟩
  rw [hl] at hs hnl hnm HX
  obtain ⟨C, cc, rfl, hs⟩ := hs.val
  obtain ⟨-, fl1, fl2⟩ := hs.form
  have HL := Lib.hid hs
  have HNM := Lib.hid hnm
  have H2 := Lib.hid (Below.then H1.out hb)
  clear hb ho hs hl hnm H1
  go_wp2
  go_loopw [8, 9] (fun o i wr => ∃ (k : Nat) (out : List Amt), k ≤ l.length ∧ i = .int .i64 k ∧ out.length = k ∧ Hid (addL a b (l.drop k) out = addVec a b) ∧ Hid (Kd.amt.Own wr w2.heap.size 217 0 o out) ∧ Hid (Below w2.heap.size w2 wr)) (fun _ i _ => l.length - (intOf i).toNat)
  case atStart => exact ⟨0, [], Nat.zero_le _, rfl, rfl, HX.out.symm, Kd.Own.nil _ _ _ _ _, Below.refl _ _⟩
  case round =>
    clear HX
    obtain ⟨k, out, hk, rfl, hok, HR, HO, HB⟩ := hrel
    have HK := Lib.hid hok
    have hokl : out.length ≤ k := by omega
    clear hok
    by_cases hlt : k < l.length
    · obtain ⟨b', off, rfl, hc, hp⟩ := (HL.out.mono (vw_below HB.out)).elem1 k hlt
      have HP := Lib.hid hp
      have hr := HR.out
      rw [addL_at a b hlt] at hr
      have HR2 := Lib.hid hr
      have HWA := Lib.hid (HA.out.mono (vw_below (Below.then H2.out HB.out)))
      have HWB := Lib.hid (HD.out.mono (vw_below (Below.then H2.out HB.out)))
      have hga := getA_ok HOA.out l[k]
      have hgb := getA_ok HOB.out l[k]
      have hgs := addN_ok hga hgb
      have HGA := Lib.hid hga
      have HGB := Lib.hid hgb
      clear hp hr hga hgb
      go_upto_region 9 with fail
      have hq1 : ∀ n : Nat, Hid (Kd.amt.S (vw (wr.drewN n) []) (.slice A a.length cap) a) := fun n => HWA.out.mono (vw_drewN n)
      have hq2 : ∀ n : Nat, Hid (Kd.amt.S (vw (wr.drewN n) []) (.slice B b.length cap2) b) := fun n => HWB.out.mono (vw_drewN n)
      go_quiet (first
        | (go_at_call 133; exact Calls.quiet_of_same ((GetA_calls _ _ _ _ (by first | with_reducible exact (hq1 _).out | with_reducible exact (hq2 _).out)).mono fun _ _ h => ⟨h.1, h.2.symm⟩))
        | (go_at_call 272; exact Calls.quiet_of_same ((Add5_calls _ _ _ HGA.out HGB.out).mono fun _ _ h => ⟨h.1, h.2.symm⟩)))
      have HB1 : Hid (Below w2.heap.size w2 (wr.drewN nq)) := drewN_then HB.out nq
      have HO1 := Lib.hid (HO.out.below (drewN_below wr nq))
      have hc' : (wr.drewN nq).cell? ⟨b', off + k, none⟩ = some (.string l[k]) := hc
      generalize wr.drewN nq = wr1 at HB1 HO1 hc' ⊢
      obtain ⟨x, hx⟩ : ∃ x, (addN (getA a l[k]) (getA b l[k])).1 = x := ⟨_, rfl⟩
      obtain ⟨m, hm⟩ : ∃ m, (addN (getA a l[k]) (getA b l[k])).2 = m := ⟨_, rfl⟩
      have hr := HR2.out
      rw [hx, hm] at hr
      rw [hx] at hgs
      rw [hx, hm]
      have HGS := Lib.hid hgs
      clear hx hm hc HWA HWB HGA HGB HR2 HB HO hgs hq1 hq2
      by_cases h0 : m ≠ 0
      · have t1 : (m == 0) = false := by simp [h0]
        rw [if_pos h0] at hr
        have HX := Lib.hid hr
        clear hr
        go_wp2
        go_ret2
        exact vec_none HX.out.symm (Below.then H2.out HB1.out)
      rw [if_neg h0] at hr
      have HX := Lib.hid hr
      obtain rfl : m = 0 := Decidable.not_not.1 h0
      clear hr h0
      have hsz := HB1.out.size
      obtain ⟨css, k1, k2, k3⟩ := HO1.out
      have HK1 := Lib.hid k1
      have HK2 := Lib.hid k2
      have HK3 := Lib.hid k3
      clear k1 k2 k3
      have NEWS : Hid (∀ ad, some (⟨wr1.heap.size, 0, none⟩ : Addr) = some ad → ∀ j u, [Value.string l[k], .int .i64 x][j]? = some u → (wr1.alloc (.cells #[.string l[k], .int .i64 x] 217)).cell? (ad.add j) = some u) := by
        rintro ad h
        cases h
        exact World.news_of_block (cs := #[.string l[k], .int .i64 x]) (t := 217) (fr := (0, 0)) (heap_alloc_new wr1 _)
      go_wp2_with (at_builtin; refine wpList_app _ w2.heap.size 40 217 i0 (.agg #[.string ⟨#[]⟩, .int .i64 0]) 2 24 Tryz.underlying40 hi hz0 hz1 hz2 rfl (by decide) _ _ css.flatten (HK3.out.alloc _) (some ⟨wr1.heap.size, 0, none⟩) 1 1 [.string l[k], .int .i64 x] rfl (fun e => by cases e) NEWS.out (by simp [Value.oneCell']) (by simp only [maxLen]; omega) (by omega) (by simp; omega) _ _ rfl rfl rfl rfl ?_)
      intro v2 w3 ho2 hg2 hv2
      have HB2 : Hid (Below w2.heap.size w2 w3) := grown_then HB1.out (alloc_below wr1 (.cells #[.string l[k], .int .i64 x] 217)) hg2 (fun q hq => (HK3.out.lt q hq).1)
      have HO2 : Hid (Kd.amt.Own w3 w2.heap.size 217 0 v2 (out ++ [⟨l[k], x⟩])) :=
        Kd.Own.snoc HK1.out HK2.out ⟨rfl, HP.out, HGS.out⟩ (alloc_below wr1 (.cells #[.string l[k], .int .i64 x] 217)) ho2 hg2 (hv2.imp id fun h => by rw [h]; simp)
      clear ho2 hg2 hv2
      go_wp2
      go_roundw
      case rel => exact ⟨k + 1, out ++ [Amt.mk l[k] x], by omega, by go_num, by rw [List.length_append, HK.out]; rfl, HX.out, HO2.out, HB2.out⟩
      case measure => simp [intOf]; omega
    · obtain rfl : k = l.length := by omega
      have hr := HR.out
      rw [List.drop_length, addL] at hr
      obtain ⟨A2, c2, rfl, s2⟩ := (HO.out.S (Nat.zero_le _) (by omega)).val
      have S2 := Lib.hid (s2.mono (nx_vw0 _))
      have HB3 := Lib.hid (Below.then H2.out HB.out)
      have HX := Lib.hid hr
      clear s2 hr HO HR
      go_wp2_with fail
      by_cases h8 : 8 < out.length
      · have HY : Hid (addVec a b = ([], 4)) := by
          show _ = _
          have := HX.out
          rw [if_pos h8] at this
          exact this.symm
        refine (whole_calls A2 out.length c2 _ (by omega)).mono ?_
        rintro e w' ⟨rfl, rfl⟩
        rw [if_pos h8]
        go_wp2
        go_ret2
        exact vec_none HY.out HB3.out
      · have HY : Hid (addVec a b = (out, 0)) := by
          show _ = _
          have := HX.out
          rw [if_neg h8] at this
          exact this.symm
        refine (whole_calls A2 out.length c2 _ (by omega)).mono ?_
        rintro e w' ⟨rfl, rfl⟩
        rw [if_neg h8]
        go_wp2
        go_ret2
        exact vec_some HY.out S2.out HB3.out
end Go.Proofs.YtnmhicgbdalniaaGreatDoor
namespace Go.Proofs.YtnmhicgbdalniaaGreatDoor
open Go.RowKit Go.Sort

theorem filter_on {p : Pd → Bool} {l : List Pd} {k : Nat} (h : k < l.length) : (l.drop k).filter p = if p l[k] = true then l[k] :: (l.drop (k + 1)).filter p else (l.drop (k + 1)).filter p := by
  rw [List.drop_eq_getElem_cons h, List.filter_cons]
set_option maxHeartbeats 4000000 in
set_option maxRecDepth 100000 in
theorem Used_calls (v : Value) (s : St) (name : ByteArray) (w : World) (hs : Kd.state.V (vw w []) v s) :
    Calls Tryz.prog 131 #[v, .string name] w (VecDone (usedV s name) w) := by
  obtain ⟨cs, rfl, A1, c1, A2, c2, A3, c3, rfl, s1, s2, -⟩ := hs
  obtain ⟨-, f2, f2'⟩ := s2.form
  have S1 := Lib.hid s1
  have S2 := Lib.hid s2
  clear s1 s2
  go_enter Tryz.func131, Tryz.ntmps131
  have HB : Hid (Below w.heap.size w (w.alloc (.cells #[.slice A1 s.nodes.length c1, .slice A2 s.pods.length c2, .slice A3 s.budgets.length c3] 51))) := alloc_below _ _
  have HQ : Hid ((w.alloc (.cells #[.slice A1 s.nodes.length c1, .slice A2 s.pods.length c2, .slice A3 s.budgets.length c3] 51)).heap[w.heap.size]? = some (.cells #[.slice A1 s.nodes.length c1, .slice A2 s.pods.length c2, .slice A3 s.budgets.length c3] 51 (0, 0))) := blk_last _ _
  go_upto_region 1 with fail
  generalize w.alloc (.cells #[.slice A1 s.nodes.length c1, .slice A2 s.pods.length c2, .slice A3 s.budgets.length c3] 51) = W at HB HQ ⊢
  obtain ⟨z, zf⟩ := blk_all HQ.out
  go_wp2_with fail
  refine (FindNode_calls _ s.nodes name _ (S1.out.mono (vw_below HB.out))).mono ?_
  rintro e w1 ⟨cs, rfl, hk, hb⟩
  obtain ⟨D1, g1, D2, g2, D3, g3, rfl, -⟩ := hk
  obtain ⟨nd, hnd⟩ : ∃ nd, (findV s.nodes name).1 = nd := ⟨_, rfl⟩
  obtain ⟨fk, hfk⟩ : ∃ fk, (findV s.nodes name).2 = fk := ⟨_, rfl⟩
  rw [hnd, hfk]
  have HF := Lib.hid hfk
  have HB1 := Lib.hid (Below.then HB.out hb)
  have q := (hb.block _ (blk_lt HQ.out)).trans HQ.out
  have HQ1 := Lib.hid q
  clear z zf hb hnd hfk q
  obtain ⟨U, hU⟩ : ∃ U : World, U = w1.alloc (.cells #[.string nd.name, .slice D1 nd.cap.length g1, .slice D2 nd.labels.length g2, .slice D3 nd.taints.length g3, .bool nd.cordon] 150) := ⟨_, rfl⟩
  have HBU : Hid (Below w.heap.size w U) := by rw [hU]; exact alloc_then HB1.out _
  have hq : U.heap[w.heap.size]? = some (.cells #[.slice A1 s.nodes.length c1, .slice A2 s.pods.length c2, .slice A3 s.budgets.length c3] 51 (0, 0)) := by rw [hU]; exact (blk_old _ _ (blk_lt HQ1.out)).trans HQ1.out
  obtain ⟨z, zf⟩ := blk_all hq
  have HQU := Lib.hid hq
  clear hq HQ HB HB1 HQ1
  cases fk with
  | false =>
    have HX : Hid (usedV s name = ([], 3)) := by show _ = _; unfold usedV; rw [HF.out, if_pos rfl]
    go_wp2
    rw [← hU]
    go_ret2
    exact vec_none HX.out HBU.out
  | true =>
  have HX : Hid (usedV s name = sumV Pd.need (s.pods.filter (onB name)) []) := by show _ = _; unfold usedV; rw [HF.out, if_neg (by decide)]
  go_wp2
  rw [← hU]
  clear hU HF z zf
  go_loopw [8, 9] (fun o i wr => ∃ (k : Nat) (l : List Amt), k ≤ s.pods.length ∧ i = .int .i64 k ∧ Hid (sumV Pd.need ((s.pods.drop k).filter (onB name)) l = usedV s name) ∧ Hid (Kd.amt.S (vw wr []) o l) ∧ Hid (Below U.heap.size U wr)) (fun _ i _ => s.pods.length - (intOf i).toNat)
  case atStart => exact ⟨0, [], Nat.zero_le _, rfl, HX.out.symm, Kd.S.nil _ _, Below.refl _ _⟩
  case round =>
    clear HX
    obtain ⟨k, l, hk, rfl, HR, HO, HB⟩ := hrel
    have q1 := (HB.out.block _ (blk_lt HQU.out)).trans HQU.out
    obtain ⟨z, zf⟩ := blk_all q1
    clear q1
    obtain ⟨B, cb, rfl, ho⟩ := HO.out.val
    clear HO
    have HO := Lib.hid ho
    clear ho
    by_cases hlt : k < s.pods.length
    · obtain ⟨b, off, cs, rfl, hn, hc⟩ := S2.out.both (Below.then HBU.out HB.out) k hlt
      obtain ⟨E1, x1, E2, x2, E3, x3, E4, x4, rfl, -, t1, -⟩ := hn
      have c9 : wr.cell? ⟨b, off + k * 11 + 9, none⟩ = some (.string s.pods[k].node) := hc 9 _ rfl
      have c3 : wr.cell? ⟨b, off + k * 11 + 3, none⟩ = some (.slice E1 s.pods[k].need.length x1) := hc 3 _ rfl
      have T1 := Lib.hid (t1.mono (vw_below (Below.then HBU.out HB.out)))
      have hr := HR.out
      rw [filter_on hlt] at hr
      clear hc t1
      have e1 := eq_beq s.pods[k].node name
      obtain ⟨m, hm⟩ : ∃ m, decide (s.pods[k].node = name) = m := ⟨_, rfl⟩
      rw [hm] at e1
      rw [show onB name s.pods[k] = m from hm] at hr
      clear hm
      cases m with
      | false =>
        have HX := Lib.hid hr
        clear hr
        go_wp2
        go_roundw
        case rel => exact ⟨k + 1, l, by omega, by go_num, HX.out, HO.out, HB.out⟩
        case measure => simp [intOf]; omega
      | true =>
        rw [if_pos rfl, sumV] at hr
        have HX := Lib.hid hr
        clear hr
        go_wp2_with fail
        refine (AddVec_calls _ _ l s.pods[k].need _ HO.out T1.out).mono ?_
        rintro e w2 ⟨C, cc, rfl, hs, hb⟩
        obtain ⟨l2, hl2⟩ : ∃ l2, (addVec l s.pods[k].need).1 = l2 := ⟨_, rfl⟩
        obtain ⟨n1, hn1⟩ : ∃ n1, (addVec l s.pods[k].need).2 = n1 := ⟨_, rfl⟩
        have hx := HX.out
        rw [hl2, hn1] at hx
        rw [hl2] at hs
        rw [hl2, hn1]
        have HB2 := Lib.hid (Below.then HB.out hb)
        have HS2 := Lib.hid hs
        clear hl2 hn1 HX hb hs c9 c3 z zf
        by_cases h0 : n1 ≠ 0
        · rw [if_pos h0] at hx
          have HX := Lib.hid hx
          clear hx
          have t1 : (n1 == 0) = false := by simp [h0]
          go_wp2
          go_ret2
          exact vec_none HX.out.symm (Below.then HBU.out HB2.out)
        rw [if_neg h0] at hx
        have HX := Lib.hid hx
        obtain rfl : n1 = 0 := Decidable.not_not.1 h0
        clear hx h0
        go_wp2
        go_roundw
        case rel => exact ⟨k + 1, l2, by omega, by go_num, HX.out, HS2.out, HB2.out⟩
        case measure => simp [intOf]; omega
    · obtain rfl : k = s.pods.length := by omega
      have hr := HR.out
      rw [List.drop_length, List.filter_nil, sumV] at hr
      have HX := Lib.hid hr
      clear hr
      go_wp2
      go_ret2
      exact vec_some HX.out.symm HO.out (Below.then HBU.out HB.out)
set_option maxHeartbeats 4000000 in
set_option maxRecDepth 100000 in
theorem Total_calls (v : Value) (s : St) (w : World) (hs : Kd.state.V (vw w []) v s) :
    Calls Tryz.prog 162 #[v] w (VecDone (totalV s) w) := by
  obtain ⟨cs, rfl, A1, c1, A2, c2, A3, c3, rfl, s1, -, -⟩ := hs
  obtain ⟨-, f2, f2'⟩ := s1.form
  have S1 := Lib.hid s1
  clear s1
  have HX : Hid (sumV Nd.cap s.nodes [] = totalV s) := rfl
  go_enter Tryz.func162, Tryz.ntmps162
  have HB : Hid (Below w.heap.size w (w.alloc (.cells #[.slice A1 s.nodes.length c1, .slice A2 s.pods.length c2, .slice A3 s.budgets.length c3] 51))) := alloc_below _ _
  have HQ : Hid ((w.alloc (.cells #[.slice A1 s.nodes.length c1, .slice A2 s.pods.length c2, .slice A3 s.budgets.length c3] 51)).heap[w.heap.size]? = some (.cells #[.slice A1 s.nodes.length c1, .slice A2 s.pods.length c2, .slice A3 s.budgets.length c3] 51 (0, 0))) := blk_last _ _
  go_upto_region 1 with fail
  generalize w.alloc (.cells #[.slice A1 s.nodes.length c1, .slice A2 s.pods.length c2, .slice A3 s.budgets.length c3] 51) = W at HB HQ ⊢
  obtain ⟨z, zf⟩ := blk_all HQ.out
  go_wp2
  clear z zf
  go_loopw [4, 5] (fun o i wr => ∃ (k : Nat) (l : List Amt), k ≤ s.nodes.length ∧ i = .int .i64 k ∧ Hid (sumV Nd.cap (s.nodes.drop k) l = totalV s) ∧ Hid (Kd.amt.S (vw wr []) o l) ∧ Hid (Below W.heap.size W wr)) (fun _ i _ => s.nodes.length - (intOf i).toNat)
  case atStart => exact ⟨0, [], Nat.zero_le _, rfl, HX.out, Kd.S.nil _ _, Below.refl _ _⟩
  case round =>
    clear HX
    have HBU := HB
    have HQU := HQ
    clear HB HQ
    obtain ⟨k, l, hk, rfl, HR, HO, HB⟩ := hrel
    have q1 := (HB.out.block _ (blk_lt HQU.out)).trans HQU.out
    obtain ⟨z, zf⟩ := blk_all q1
    clear q1
    obtain ⟨B, cb, rfl, ho⟩ := HO.out.val
    clear HO
    have HO := Lib.hid ho
    clear ho
    by_cases hlt : k < s.nodes.length
    · obtain ⟨b, off, cs, rfl, hn, hc⟩ := S1.out.both (Below.then HBU.out HB.out) k hlt
      obtain ⟨E1, x1, E2, x2, E3, x3, rfl, -, t1, -⟩ := hn
      have c9 : wr.cell? ⟨b, off + k * 5 + 1, none⟩ = some (.slice E1 s.nodes[k].cap.length x1) := hc 1 _ rfl
      have T1 := Lib.hid (t1.mono (vw_below (Below.then HBU.out HB.out)))
      have hr := HR.out
      rw [List.drop_eq_getElem_cons hlt, sumV] at hr
      have HX := Lib.hid hr
      clear hc t1 hr
      go_wp2_with fail
      refine (AddVec_calls _ _ l s.nodes[k].cap _ HO.out T1.out).mono ?_
      rintro e w2 ⟨C, cc, rfl, hs, hb⟩
      obtain ⟨l2, hl2⟩ : ∃ l2, (addVec l s.nodes[k].cap).1 = l2 := ⟨_, rfl⟩
      obtain ⟨n1, hn1⟩ : ∃ n1, (addVec l s.nodes[k].cap).2 = n1 := ⟨_, rfl⟩
      have hx := HX.out
      rw [hl2, hn1] at hx
      rw [hl2] at hs
      rw [hl2, hn1]
      have HB2 := Lib.hid (Below.then HB.out hb)
      have HS2 := Lib.hid hs
      clear hl2 hn1 HX hb hs c9 z zf
      by_cases h0 : n1 ≠ 0
      · rw [if_pos h0] at hx
        have HX := Lib.hid hx
        clear hx
        have t1 : (n1 == 0) = false := by simp [h0]
        go_wp2
        go_ret2
        exact vec_none HX.out.symm (Below.then HBU.out HB2.out)
      rw [if_neg h0] at hx
      have HX := Lib.hid hx
      obtain rfl : n1 = 0 := Decidable.not_not.1 h0
      clear hx h0
      go_wp2
      go_roundw
      case rel => exact ⟨k + 1, l2, by omega, by go_num, HX.out, HS2.out, HB2.out⟩
      case measure => simp [intOf]; omega
    · obtain rfl : k = s.nodes.length := by omega
      have hr := HR.out
      rw [List.drop_length, sumV] at hr
      have HX := Lib.hid hr
      clear hr
      go_wp2
      go_ret2
      exact vec_some HX.out.symm HO.out (Below.then HBU.out HB.out)
end Go.Proofs.YtnmhicgbdalniaaGreatDoor
namespace Go.Proofs.YtnmhicgbdalniaaGreatDoor
open Go.RowKit Go.Sort

theorem drew_below (w : World) : Below w.heap.size w w.drew := drewN_below w 1
theorem set5_below {B : Nat} {w0 w : World} {b : Nat} (h : Below B w0 w) (hb : B ≤ b) (v0 v1 v2 v3 v4 : Value) : Below B w0 (((((w.setCell ⟨b, 0, none⟩ v0).setCell ⟨b, 1, none⟩ v1).setCell ⟨b, 2, none⟩ v2).setCell ⟨b, 3, none⟩ v3).setCell ⟨b, 4, none⟩ v4) :=
  Below.setCells h hb [v0, v1, v2, v3, v4] 0
theorem set5_far {w : World} {b k : Nat} (h : k ≠ b) (v0 v1 v2 v3 v4 : Value) : (((((w.setCell ⟨b, 0, none⟩ v0).setCell ⟨b, 1, none⟩ v1).setCell ⟨b, 2, none⟩ v2).setCell ⟨b, 3, none⟩ v3).setCell ⟨b, 4, none⟩ v4).heap[k]? = w.heap[k]? :=
  setCells_far b [v0, v1, v2, v3, v4] 0 w k h
theorem cell_lt {w : World} {p : Addr} {v : Value} (h : w.cell? p = some v) : p.block < w.heap.size := by
  unfold World.cell? at h
  split at h
  · rename_i e; exact blk_lt e
  · cases h
theorem keep_cell {w w1 : World} (hb : Below w.heap.size w w1) {p : Addr} {v : Value} (h : w.cell? p = some v) : w1.cell? p = some v := by
  refine (hb.cell ?_).trans h
  unfold World.cell? at h
  split at h
  · rename_i e; exact blk_lt e
  · cases h
set_option maxHeartbeats 8000000 in
set_option maxRecDepth 100000 in
theorem Check_calls (v : Value) (s : St) (w : World) (hs : Kd.state.V (vw w []) v s) :
    Calls Tryz.prog 69 #[v] w (NumDone (checkSt s) w) := by
  obtain ⟨cs, rfl, hks⟩ := hs
  have hvs : Kd.state.V (vw w []) (.agg cs.toArray) s := ⟨cs, rfl, hks⟩
  obtain ⟨A1, c1, A2, c2, A3, c3, rfl, s1, s2, s3⟩ := hks
  have HVS := Lib.hid hvs
  clear hvs
  have S1 := Lib.hid s1
  have S2 := Lib.hid s2
  have S3 := Lib.hid s3
  clear s1 s2 s3
  have HX : Hid (orV (checkNodes s.nodes) (orV (checkPods s.pods) (orV (checkBudgets s.budgets) (orV (firstV (podV s) s.pods) (orV (firstV (roomV s) s.nodes) (totalV s).2)))) = checkSt s) := rfl
  go_enter Tryz.func69, Tryz.ntmps69
  have HB : Hid (Below w.heap.size w (w.alloc (.cells #[.slice A1 s.nodes.length c1, .slice A2 s.pods.length c2, .slice A3 s.budgets.length c3] 51))) := alloc_below _ _
  have HQ : Hid ((w.alloc (.cells #[.slice A1 s.nodes.length c1, .slice A2 s.pods.length c2, .slice A3 s.budgets.length c3] 51)).heap[w.heap.size]? = some (.cells #[.slice A1 s.nodes.length c1, .slice A2 s.pods.length c2, .slice A3 s.budgets.length c3] 51 (0, 0))) := blk_last _ _
  go_upto_region 1 with fail
  generalize w.alloc (.cells #[.slice A1 s.nodes.length c1, .slice A2 s.pods.length c2, .slice A3 s.budgets.length c3] 51) = W at HB HQ ⊢
  obtain ⟨z, zf⟩ := blk_all HQ.out
  go_wp2_with fail
  refine (CheckNodes_calls _ s.nodes _ (S1.out.mono (vw_below HB.out))).mono ?_
  rintro e w1 ⟨rfl, hb⟩
  obtain ⟨n1, hn1⟩ : ∃ n1, checkNodes s.nodes = n1 := ⟨_, rfl⟩
  rw [hn1]
  have hx := HX.out
  rw [hn1] at hx
  have HB1 := Lib.hid (Below.then HB.out hb)
  have q := (hb.block _ (blk_lt HQ.out)).trans HQ.out
  clear z zf HX HB HQ hb hn1
  have HB := HB1
  have HQ := Lib.hid q
  clear HB1
  obtain ⟨z, zf⟩ := blk_all q
  clear q
  by_cases h0 : n1 ≠ 0
  · rw [orV_l h0] at hx
    have HX := Lib.hid hx
    clear hx
    have t1 : (n1 == 0) = false := by simp [h0]
    go_wp2
    go_ret
    exact ⟨ret_i HX.out, HB.out⟩
  obtain rfl : n1 = 0 := Decidable.not_not.1 h0
  rw [orV_r rfl] at hx
  have HX := Lib.hid hx
  clear hx h0
  go_wp2_with fail
  refine (CheckPods_calls _ s.pods _ (S2.out.mono (vw_below HB.out))).mono ?_
  rintro e w1 ⟨rfl, hb⟩
  obtain ⟨n1, hn1⟩ : ∃ n1, checkPods s.pods = n1 := ⟨_, rfl⟩
  rw [hn1]
  have hx := HX.out
  rw [hn1] at hx
  have HB1 := Lib.hid (Below.then HB.out hb)
  have q := (hb.block _ (blk_lt HQ.out)).trans HQ.out
  clear z zf HX HB HQ hb hn1
  have HB := HB1
  have HQ := Lib.hid q
  clear HB1
  obtain ⟨z, zf⟩ := blk_all q
  clear q
  by_cases h0 : n1 ≠ 0
  · rw [orV_l h0] at hx
    have HX := Lib.hid hx
    clear hx
    have t1 : (n1 == 0) = false := by simp [h0]
    go_wp2
    go_ret
    exact ⟨ret_i HX.out, HB.out⟩
  obtain rfl : n1 = 0 := Decidable.not_not.1 h0
  rw [orV_r rfl] at hx
  have HX := Lib.hid hx
  clear hx h0
  go_wp2_with fail
  refine (CheckBudgets_calls _ s.budgets _ (S3.out.mono (vw_below HB.out))).mono ?_
  rintro e w1 ⟨rfl, hb⟩
  obtain ⟨n1, hn1⟩ : ∃ n1, checkBudgets s.budgets = n1 := ⟨_, rfl⟩
  rw [hn1]
  have hx := HX.out
  rw [hn1] at hx
  have HB1 := Lib.hid (Below.then HB.out hb)
  have q := (hb.block _ (blk_lt HQ.out)).trans HQ.out
  clear z zf HX HB HQ hb hn1
  have HB := HB1
  have HQ := Lib.hid q
  clear HB1
  obtain ⟨z, zf⟩ := blk_all q
  clear q
  by_cases h0 : n1 ≠ 0
  · rw [orV_l h0] at hx
    have HX := Lib.hid hx
    clear hx
    have t1 : (n1 == 0) = false := by simp [h0]
    go_wp2
    go_ret
    exact ⟨ret_i HX.out, HB.out⟩
  obtain rfl : n1 = 0 := Decidable.not_not.1 h0
  rw [orV_r rfl] at hx
  have HX := Lib.hid hx
  clear hx h0
  obtain ⟨-, f1, f1'⟩ := S1.out.form
  obtain ⟨-, f2, f2'⟩ := S2.out.form
  obtain ⟨R1, hR1⟩ : ∃ R1, orV (firstV (roomV s) s.nodes) (totalV s).2 = R1 := ⟨_, rfl⟩
  have hx := HX.out
  rw [hR1] at hx
  have HR1 := Lib.hid hR1
  clear HX hR1
  have HX := Lib.hid hx
  clear hx z zf
  obtain ⟨z, zf⟩ := blk_all HQ.out
  go_wp2
  clear z zf
  go_loopw [4] (fun i wr => ∃ k : Nat, k ≤ s.pods.length ∧ i = .int .i64 k ∧ Hid (orV (firstV (podV s) (s.pods.drop k)) R1 = checkSt s) ∧ Hid (Below w.heap.size w wr) ∧ Hid (wr.heap[w.heap.size]? = some (.cells #[.slice A1 s.nodes.length c1, .slice A2 s.pods.length c2, .slice A3 s.budgets.length c3] 51 (0, 0)))) (fun i _ => s.pods.length - (intOf i).toNat)
  case atStart => exact ⟨0, Nat.zero_le _, rfl, HX.out, HB.out, HQ.out⟩
  case round =>
    clear HX HB HQ
    obtain ⟨k, hk, rfl, HR, HB, HQ⟩ := hrel
    obtain ⟨z, zf⟩ := blk_all HQ.out
    by_cases hlt : k < s.pods.length
    · obtain ⟨b, off, cs, rfl, hn, hc⟩ := S2.out.both HB.out k hlt
      obtain ⟨E1, x1, E2, x2, E3, x3, E4, x4, rfl, -⟩ := hn
      have c9 : wr.cell? ⟨b, off + k * 11 + 9, none⟩ = some (.string s.pods[k].node) := hc 9 _ rfl
      have hr := HR.out
      rw [firstV_at _ hlt] at hr
      have e1 := empty_beq s.pods[k].node
      have hpv : podV s s.pods[k] = if decide (s.pods[k].node = ⟨#[]⟩) = false ∧ (findV s.nodes s.pods[k].node).2 = false then 3 else 0 := rfl
      obtain ⟨m, hm⟩ : ∃ m, decide (s.pods[k].node = ⟨#[]⟩) = m := ⟨_, rfl⟩
      rw [hm] at e1 hpv
      rw [hpv] at hr
      clear hc hm hpv
      cases m with
      | true =>
        rw [if_neg (by simp), orV_r rfl] at hr
        have HX := Lib.hid hr
        clear hr
        go_wp2
        go_roundw
        case rel => exact ⟨k + 1, by omega, by go_num, HX.out, HB.out, HQ.out⟩
        case measure => simp [intOf]; omega
      | false =>
        have HX := Lib.hid hr
        clear hr
        have HBL := Lib.hid (blk_lt HQ.out)
        have b1 : (0 : Int) ≤ (k : Int) := by omega
        have b2 : (k : Int) < (s.pods.length : Int) := by omega
        go_upto_region 14 with fail
        have hl0 := blk_lt HQ.out
        have hb0 : b < wr.heap.size := cell_lt c9
        have hle : w.heap.size ≤ wr.heap.size := by omega
        have hn1 : w.heap.size ≠ wr.heap.size := by omega
        have hn2 : b ≠ wr.heap.size := by omega
        have hn3 : wr.heap.size ≠ w.heap.size := by omega
        have hn4 : wr.heap.size ≠ b := by omega
        go_region_held3 (fun w' => w'.cell? ⟨w.heap.size, 0, none⟩ = some (.slice A1 s.nodes.length c1) ∧ w'.cell? ⟨w.heap.size, 1, none⟩ = some (.slice (some ⟨b, off, none⟩) s.pods.length c2) ∧ w'.cell? ⟨b, off + k * 11 + 9, none⟩ = some (.string s.pods[k].node))
          (first | with_reducible exact ⟨z 0, z 1, c9⟩ | go_keep | with_reducible exact ⟨keep_cell (alloc_below _ _) (z 0), keep_cell (alloc_below _ _) (z 1), keep_cell (alloc_below _ _) c9⟩) (first
          | (go_at_call 129; (with_reducible refine (FindNode_calls _ s.nodes s.pods[k].node _ (by with_reducible exact S1.out.mono (vw_below (Below.then HB.out (drew_below _))))).mono ?_); rintro e w1 ⟨cs, rfl, hk, hb⟩; obtain ⟨D1, g1, D2, g2, D3, g3, rfl, -⟩ := hk; replace HB := Lib.hid (Below.then (Below.then HB.out (drew_below _)) hb); have hq := (hb.block _ (blk_lt (w := wr.drew) HQ.out)).trans HQ.out; have c9' := keep_cell (w := wr.drew) hb c9; have hl1 := blk_lt hq; have hb1 := cell_lt c9'; replace HQ := Lib.hid hq; clear hb z zf c9 hq; have c9 := c9'; clear c9'; obtain ⟨z, zf⟩ := blk_all HQ.out)
          | (go_at_call 129; (with_reducible refine (FindNode_calls _ s.nodes s.pods[k].node _ (by with_reducible exact S1.out.mono (vw_below (Below.then (Below.then HB.out (alloc_below _ _)) (drew_below _))))).mono ?_); rintro e w1 ⟨cs, rfl, hk, hb⟩; obtain ⟨D1, g1, D2, g2, D3, g3, rfl, -⟩ := hk; have hq := (hb.block _ (by show _ < (World.alloc _ _).heap.size; simp; omega)).trans ((blk_old wr _ hl0).trans HQ.out); have hy := (hb.block wr.heap.size (by show _ < (World.alloc _ _).heap.size; simp)).trans (blk_last wr _); have hl2 := blk_lt hy; obtain ⟨y, yf⟩ := blk_all hy; have HY := Lib.hid hy; clear hy; have c9' := keep_cell hb (show (World.drew _).cell? _ = _ from keep_cell (alloc_below _ _) c9); replace HB := Lib.hid (Below.then (Below.then (Below.then HB.out (alloc_below _ _)) (drew_below _)) hb);  have hl1 := blk_lt hq; have hb1 := cell_lt c9'; replace HQ := Lib.hid hq; clear hb z zf c9 hq; have c9 := c9'; clear c9'; obtain ⟨z, zf⟩ := blk_all HQ.out))
        all_goals
          obtain ⟨fk, hfk⟩ : ∃ fk, (findV s.nodes s.pods[k].node).2 = fk := ⟨_, rfl⟩
          rw [hfk]
          have hx := HX.out
          rw [hfk] at hx
          clear HX hfk
          cases fk with
          | false =>
            have HX : Hid (3 = checkSt s) := hx
            clear hx
            go_wp2
            go_ret
            exact ⟨ret_i HX.out, by first | with_reducible exact alloc_then HB.out _ | with_reducible exact set5_below HB.out hle _ _ _ _ _⟩
          | true =>
            rw [if_neg (by simp), orV_r rfl] at hx
            have HX := Lib.hid hx
            clear hx
            go_wp2
            go_roundw
            case rel => exact ⟨k + 1, by omega, by go_num, HX.out, by first | with_reducible exact Lib.hid (alloc_then HB.out _) | with_reducible exact Lib.hid (set5_below HB.out hle _ _ _ _ _), by first | with_reducible exact Lib.hid ((blk_old _ _ hl1).trans HQ.out) | with_reducible exact Lib.hid ((set5_far hn1 _ _ _ _ _).trans HQ.out)⟩
            case measure => simp [intOf]; omega
    · obtain rfl : k = s.pods.length := by omega
      have hr := HR.out
      rw [List.drop_length, show firstV (podV s) [] = 0 from rfl, orV_r rfl, ← HR1.out] at hr
      obtain ⟨R2, hR2⟩ : ∃ R2, (totalV s).2 = R2 := ⟨_, rfl⟩
      rw [hR2] at hr
      have HX := Lib.hid hr
      have HR2 := Lib.hid hR2
      clear hr hR2 HR HR1
      go_wp2
      clear z zf
      go_loopw [7] (fun i wi => ∃ k : Nat, k ≤ s.nodes.length ∧ i = .int .i64 k ∧ Hid (orV (firstV (roomV s) (s.nodes.drop k)) R2 = checkSt s) ∧ Hid (Below w.heap.size w wi) ∧ Hid (wi.heap[w.heap.size]? = some (.cells #[.slice A1 s.nodes.length c1, .slice A2 s.pods.length c2, .slice A3 s.budgets.length c3] 51 (0, 0)))) (fun i _ => s.nodes.length - (intOf i).toNat)
      case atStart => exact ⟨0, Nat.zero_le _, rfl, HX.out, HB.out, HQ.out⟩
      case round =>
        clear HX HB HQ hk hlt
        obtain ⟨k, hk, rfl, HR, HB, HQ⟩ := hrel
        obtain ⟨z, zf⟩ := blk_all HQ.out
        by_cases hlt : k < s.nodes.length
        · obtain ⟨b, off, cs, rfl, hn, hc⟩ := S1.out.both HB.out k hlt
          obtain ⟨E1, x1, E2, x2, E3, x3, rfl, -, t1, -⟩ := hn
          have c9 : wr.cell? ⟨b, off + k * 5, none⟩ = some (.string s.nodes[k].name) := hc 0 _ rfl
          have T1 := Lib.hid t1
          have hr := HR.out
          rw [firstV_at _ hlt] at hr
          have hrv : roomV s s.nodes[k] = orV (usedV s s.nodes[k].name).2 (if fitsV (usedV s s.nodes[k].name).1 s.nodes[k].cap = false then 7 else 0) := rfl
          rw [hrv] at hr
          have HX := Lib.hid hr
          clear hc hr hrv t1
          have b1 : (0 : Int) ≤ (k : Int) := by omega
          have b2 : (k : Int) < (s.nodes.length : Int) := by omega
          go_upto_region 20 with fail
          go_region_held3 (fun w' => w'.cell? ⟨w.heap.size, 0, none⟩ = some (.slice (some ⟨b, off, none⟩) s.nodes.length c1) ∧ w'.cell? ⟨w.heap.size, 1, none⟩ = some (.slice A2 s.pods.length c2) ∧ w'.cell? ⟨w.heap.size, 2, none⟩ = some (.slice A3 s.budgets.length c3) ∧ w'.cell? ⟨b, off + k * 5, none⟩ = some (.string s.nodes[k].name))
            (first | with_reducible exact ⟨z 0, z 1, z 2, c9⟩ | go_keep) (first
            | (go_at_call 131; (with_reducible refine (Used_calls _ s s.nodes[k].name _ (by with_reducible exact Kd.V.mono (vw_below (Below.then HB.out (drew_below _))) HVS.out)).mono ?_); rintro e w1 ⟨C, cc, rfl, hs, hb⟩; replace HB := Lib.hid (Below.then (Below.then HB.out (drew_below _)) hb); have hq := (hb.block _ (blk_lt (w := wr.drew) HQ.out)).trans HQ.out; have c9' := keep_cell (w := wr.drew) hb c9; have HS := Lib.hid hs; replace HQ := Lib.hid hq; clear hb z zf c9 hq hs; have c9 := c9'; clear c9'; obtain ⟨z, zf⟩ := blk_all HQ.out))
          obtain ⟨l2, hl2⟩ : ∃ l2, (usedV s s.nodes[k].name).1 = l2 := ⟨_, rfl⟩
          obtain ⟨n1, hn1⟩ : ∃ n1, (usedV s s.nodes[k].name).2 = n1 := ⟨_, rfl⟩
          have hx := HX.out
          have hs := HS.out
          rw [hl2, hn1] at hx
          rw [hl2] at hs
          rw [hl2, hn1]
          clear HX HS hl2 hn1
          have HS := Lib.hid hs
          clear hs
          by_cases h0 : n1 ≠ 0
          · rw [orV_l h0, orV_l h0, orV_l h0] at hx
            have HX := Lib.hid hx
            clear hx
            have t1 : (n1 == 0) = false := by simp [h0]
            go_wp2
            go_ret
            exact ⟨ret_i HX.out, HB.out⟩
          obtain rfl : n1 = 0 := Decidable.not_not.1 h0
          rw [orV_r rfl] at hx
          have HX := Lib.hid hx
          clear hx h0
          obtain ⟨b', off', cs, hA, ⟨F1, y1, F2, y2, F3, y3, rfl, -, t1, -⟩, hc⟩ := S1.out.both HB.out k hlt
          injection hA with hA
          injection hA with e1 e2
          subst e1 e2
          have c8 : w1.cell? ⟨b, off + k * 5 + 1, none⟩ = some (.slice F1 s.nodes[k].cap.length y1) := hc 1 _ rfl
          have T2 := Lib.hid t1
          clear hc t1
          go_wp2_with fail
          refine (Fits_calls _ _ l2 s.nodes[k].cap _ HS.out (T2.out.mono (vw_below HB.out))).mono ?_
          rintro e w2 ⟨rfl, hb⟩
          obtain ⟨ft, hft⟩ : ∃ ft, fitsV l2 s.nodes[k].cap = ft := ⟨_, rfl⟩
          have hx := HX.out
          rw [hft] at hx
          rw [hft]
          have hq := (hb.block _ (blk_lt HQ.out)).trans HQ.out
          replace HB := Lib.hid (Below.then HB.out hb)
          replace HQ := Lib.hid hq
          clear hb hq hft HX z zf c8 c9
          obtain ⟨z, zf⟩ := blk_all HQ.out
          cases ft with
          | false =>
            have HX : Hid (7 = checkSt s) := hx
            clear hx
            go_wp2
            go_ret
            exact ⟨ret_i HX.out, HB.out⟩
          | true =>
            rw [if_neg (by simp), orV_r rfl] at hx
            have HX := Lib.hid hx
            clear hx
            go_wp2
            go_roundw
            case rel => exact ⟨k + 1, by omega, by go_num, HX.out, HB.out, HQ.out⟩
            case measure => simp [intOf]; omega
        · obtain rfl : k = s.nodes.length := by omega
          have hr := HR.out
          rw [List.drop_length, show firstV (roomV s) [] = 0 from rfl, orV_r rfl, ← HR2.out] at hr
          have HX := Lib.hid hr
          clear hr HR HR2
          go_wp2_with fail
          refine (Total_calls _ s _ (Kd.V.mono (vw_below HB.out) HVS.out)).mono ?_
          rintro e w2 ⟨C, cc, rfl, -, hb⟩
          replace HB := Lib.hid (Below.then HB.out hb)
          clear hb z zf
          go_wp2
          go_ret
          exact ⟨ret_i HX.out, HB.out⟩
end Go.Proofs.YtnmhicgbdalniaaGreatDoor
