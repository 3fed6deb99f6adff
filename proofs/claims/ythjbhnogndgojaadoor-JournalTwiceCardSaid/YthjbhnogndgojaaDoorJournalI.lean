import Derived.Test.YthjbhnogndgojaaDoorJournalH
import Derived.Deep.DeepCutAuto
import Derived.Deep.RegionHeld3
import Derived.Deep.CutBlock
namespace Go.Proofs.YthjbhnogndgojaaDoor
open Go.RowKit

theorem JAt.new_wide {T : TypeId} {M M' : List Nat} {w : World} {p : Nat} {room : Int} (h : JAt T M w p (newV room)) (hp : p ∈ M') : JAt T M' w p (newV room) := by
  obtain ⟨_, h2, A, c, h3, A', c', e, h4, h5, h6, _⟩ := h
  injection e with e1 e2 e3
  subst e1 e3
  exact ⟨hp, h2, A, c, h3, A, c, rfl, h4, h5, h6, fun h => absurd h (by simp [newV])⟩
structure Two (w0 w : World) (M : List Nat) (p q : Nat) (s t : Jn) : Prop where
  base : Base w0 w M
  j : JAt 76 M w p s
  r : JAt 64 M w q t
  ne : p ≠ q
theorem Two.on {w0 w w' : World} {M : List Nat} {p q : Nat} {s t : Jn} (h : Two w0 w M p q s t) (k : Below w.heap.size w w') : Two w0 w' M p q s t := ⟨h.base.on k, h.j.below k, h.r.below k, h.ne⟩
theorem Two.left {w0 w w' : World} {M : List Nat} {p q : Nat} {s s' t : Jn} (h : Two w0 w M p q s t) (j : JAt 76 M w' p s') (k : Bar [p] w w') : Two w0 w' M p q s' t := ⟨h.base.bar h.j.ptr k, j, h.r.far k h.j.ptr (Ne.symm h.ne), h.ne⟩
theorem Two.right {w0 w w' : World} {M : List Nat} {p q : Nat} {s t t' : Jn} (h : Two w0 w M p q s t) (j : JAt 64 M w' q t') (k : Bar [q] w w') : Two w0 w' M p q s t' := ⟨h.base.bar h.r.ptr k, h.j.far k h.r.ptr h.ne, j, h.ne⟩
theorem Two.twin {w0 w w' : World} {M : List Nat} {p q : Nat} {s t : Jn} (h : Two w0 w M p q s t) (j : JAt 76 (w.heap.size :: M) w' w.heap.size s) (k : Below w.heap.size w w') : Two w0 w' (w.heap.size :: M) w.heap.size q s t := ⟨h.base.new k j.lt, j, h.r.more k (Nat.le_refl _), by have := h.r.lt; omega⟩
set_option maxHeartbeats 40000000 in
set_option maxRecDepth 100000 in
theorem JournalPlays_calls (room : Int) (hr1 : -9223372036854775808 ≤ room) (hr2 : room ≤ 9223372036854775807) (v : Value) (l : List JAct) (w : World) (hs : Kd.jact.S (vw w []) v l) (htab : Tab w.heap.size w) :
    Calls Tryd.prog 7 #[.int .i64 room, v] w fun e w' => e = .returned (.bool true) ∧ Below w.heap.size w w' := by
  have HT := Lib.hid htab
  obtain ⟨A, cap, rfl, hcap, hlen, hnil, hcell⟩ := id hs
  have HS := Lib.hid hs
  clear htab hcell hnil hs
  go_enter Tryd.func7, Tryd.ntmps7
  go_wp2_with fail
  refine (jknown_calls w HT.out).mono ?_
  rintro e w1 ⟨rfl, hb1⟩
  have HB := Lib.hid ((Base.refl w).on hb1)
  clear hb1
  go_wp2_with fail
  refine (few_calls _ l _ (HB.out.arg HS.out)).mono ?_
  rintro e w' ⟨r, rfl, hf, rfl⟩
  cases r with
  | false =>
    clear hf
    go_wp2
    go_ret
    exact ⟨rfl, HB.out.below⟩
  | true =>
  have HF := Lib.hid (hf rfl)
  clear hf
  by_cases hroom : room < 1 ∨ 1048576 < room
  · go_wp2_with fail
    refine (jNewBad_calls room _ hroom).mono ?_
    rintro e w' ⟨rfl, rfl⟩
    go_wp2_with fail
    refine (rNewBad_calls room _ hroom).mono ?_
    rintro e w' ⟨rfl, rfl⟩
    go_wp2
    go_ret
    exact ⟨rfl, HB.out.below⟩
  · go_wp2_with fail
    refine (jNew_calls room _ (by omega) (by omega)).mono ?_
    rintro e w2 ⟨rfl, hj, hb⟩
    replace HB := Lib.hid (HB.out.new hb hj.lt)
    have hne := hj.lt
    go_wp2_with fail
    refine (rNew_calls room _ (by omega) (by omega)).mono ?_
    rintro e w3 ⟨rfl, hq, hb2⟩
    have H2 : Hid (Two w w3 [w2.heap.size, w1.heap.size] w1.heap.size w2.heap.size (newV room) (newV room)) := ⟨HB.out.new hb2 hq.lt, hj.more hb2 (Nat.le_refl _), hq.new_wide (by simp), by omega⟩
    clear hb hb2 hj hq HB
    go_wp2
    go_loopw [5, 9] (fun pj i wr => ∃ (k p : Nat) (M : List Nat) (s : Jn), k ≤ l.length ∧ i = .int .i64 k ∧ pj = .pointer (some ⟨p, 0, none⟩) ∧ Hid (Two w wr M p w2.heap.size s s)) (fun _ i _ => l.length - (intOf i).toNat)
    case atStart => exact ⟨0, w1.heap.size, _, _, Nat.zero_le _, rfl, rfl, H2.out⟩
    case round =>
      obtain ⟨k, p, M, s, hk, rfl, rfl, H3⟩ := hrel
      by_cases hlt : k < l.length
      · obtain ⟨b, off, rfl, hc, hp⟩ := (H3.out.base.arg HS.out).elemN k hlt
        obtain ⟨⟨op, n, tx⟩, hx⟩ : ∃ x, l[k] = x := ⟨_, rfl⟩
        have hx5 := HF.out.2 _ (List.getElem_mem hlt)
        rw [hx] at hc hp hx5
        have c0 : wr.cell? ⟨b, off + k * 3, none⟩ = some (.int .i64 op) := hc 0 _ rfl
        have c1 : wr.cell? ⟨b, off + k * 3 + 1, none⟩ = some (.int .i64 n) := hc 1 _ rfl
        have c2 : wr.cell? ⟨b, off + k * 3 + 2, none⟩ = some (.string tx) := hc 2 _ rfl
        obtain ⟨hn, htx⟩ := hp
        simp only at hn htx hx5
        clear hc hx
        have H4 : Hid (Two w (wr.alloc (.cells #[.int .i64 op, .int .i64 n, .string tx] 52)) M p w2.heap.size s s) := H3.out.on (alloc_below _ _)
        have gg := blk_last wr (.cells #[.int .i64 op, .int .i64 n, .string tx] 52)
        have HG := Lib.hid gg
        have hgp : wr.heap.size ≠ p := by have := H3.out.j.lt; omega
        have hgq : wr.heap.size ≠ w2.heap.size := by have := H3.out.r.lt; omega
        have HN := Lib.hid (And.intro hgp hgq)
        clear gg hgp hgq
        go_upto_block 2 with fail
        go_cut [5] (fun pj wx => ∃ (p : Nat) (M : List Nat) (s : Jn), pj = .pointer (some ⟨p, 0, none⟩) ∧ Hid (Two w wx M p w2.heap.size s s))
        case first =>
          by_cases o1 : op = 1
          · subst o1
            obtain ⟨s2, e2, he2⟩ : ∃ s2 e2, appendV s tx.data.toList = (s2, e2) := ⟨_, _, rfl⟩
            have HE := Lib.hid he2
            clear he2
            go_upto_region 19 with fail
            replace H4 := Lib.hid (H4.out.on (drewN_below _ 1))
            go_region_with (first
              | (go_at_call 23; refine (jAppend_calls w.heap.size M p s tx _ (by exact H4.out.j) (by exact H4.out.base.lt) (by omega) (by exact H4.out.base.size) (by exact H4.out.base.tab HT.out)).mono ?_; rw [HE.out]; rintro e wa ⟨rfl, hj, hb⟩; replace H4 := Lib.hid (H4.out.left hj hb); replace HG := Lib.hid ((hb.block _ (blk_lt HG.out) (by simpa using HN.out.1)).trans HG.out); have c2' := range_cells HG.out 2 _ rfl; clear hj hb)
              | (go_at_call 24; refine (rAppend_calls M w2.heap.size s tx _ (by exact H4.out.r) (by exact H4.out.base.lt) (by omega)).mono ?_; rw [HE.out]; rintro e wa ⟨rfl, hj, hb⟩; replace H4 := Lib.hid (H4.out.right hj hb); replace HG := Lib.hid ((hb.block _ (blk_lt HG.out) (by simpa using HN.out.2)).trans HG.out); have c2' := range_cells HG.out 2 _ rfl; clear hj hb))
            all_goals
              go_wp2
              go_meet
              exact ⟨p, M, _, rfl, H4.out⟩
          have b1 : (op == 1) = false := by simpa using o1
          by_cases o2 : op = 2
          · subst o2
            clear o1 b1
            go_wp2_with fail
            refine (jSync_calls M p s _ (by exact H4.out.j)).mono ?_
            rintro e wa ⟨rfl, hj, hb⟩
            replace H4 := Lib.hid (H4.out.left hj hb)
            clear hj hb
            go_wp2_with fail
            refine (rSync_calls M w2.heap.size s _ (by exact H4.out.r)).mono ?_
            rintro e wb ⟨rfl, hj, hb⟩
            replace H4 := Lib.hid (H4.out.right hj hb)
            clear hj hb
            go_wp2
            go_meet
            exact ⟨p, M, _, rfl, H4.out⟩
          have b2 : (op == 2) = false := by simpa using o2
          by_cases o3 : op = 3
          · subst o3
            clear o1 b1 o2 b2
            go_wp2_with fail
            refine (jCrash_calls M p s n _ (by exact H4.out.j) (by exact H4.out.base.lt) (by omega) (by omega)).mono ?_
            rintro e wa ⟨rfl, hj, hb⟩
            replace H4 := Lib.hid (H4.out.left hj hb)
            replace HG := Lib.hid ((hb.block _ (blk_lt HG.out) (by simpa using HN.out.1)).trans HG.out)
            have c1' := range_cells HG.out 1 _ rfl
            clear hj hb
            go_wp2_with fail
            refine (rCrash_calls M w2.heap.size s n _ (by exact H4.out.r) (by exact H4.out.base.lt) (by omega) (by omega)).mono ?_
            rintro e wb ⟨rfl, hj, hb⟩
            replace H4 := Lib.hid (H4.out.right hj hb)
            clear hj hb
            go_wp2
            go_meet
            exact ⟨p, M, _, rfl, H4.out⟩
          have b3 : (op == 3) = false := by simpa using o3
          by_cases o4 : op = 4
          · subst o4
            clear o1 b1 o2 b2 o3 b3
            obtain ⟨s2, n2, e2, he2⟩ : ∃ s2 n2 e2, recoverV s = (s2, n2, e2) := ⟨_, _, _, rfl⟩
            have HE := Lib.hid he2
            clear he2
            go_wp2_with fail
            refine (jRecover_calls M p s _ (by exact H4.out.j) (by exact H4.out.base.lt)).mono ?_
            rw [HE.out]
            rintro e wa ⟨rfl, hj, hb⟩
            replace H4 := Lib.hid (H4.out.left hj hb)
            clear hj hb
            go_wp2_with fail
            refine (rRecover_calls M w2.heap.size s _ (by exact H4.out.r) (by exact H4.out.base.lt)).mono ?_
            rw [HE.out]
            rintro e wb ⟨rfl, hj, hb⟩
            replace H4 := Lib.hid (H4.out.right hj hb)
            clear hj hb
            go_wp2
            go_meet
            exact ⟨p, M, _, rfl, H4.out⟩
          have b4 : (op == 4) = false := by simpa using o4
          by_cases o5 : op = 5
          · subst o5
            clear o1 b1 o2 b2 o3 b3 o4 b4
            go_wp2_with fail
            refine (jTwin_calls M p s _ (by exact H4.out.j) (by exact H4.out.base.lt)).mono ?_
            rintro e wa ⟨rfl, hj, hb⟩
            have hz := H4.out.j.lt
            have hjp := H4.out.j.more hb (Nat.le_refl _)
            replace H4 := Lib.hid (H4.out.twin hj hb)
            have HJP := Lib.hid hjp
            have HZ := Lib.hid hz
            clear hj hb hjp hz
            go_wp2_with fail
            refine (jCrash_calls _ p s 0 _ (by exact HJP.out) (by exact H4.out.base.lt) (by omega) (by omega)).mono ?_
            rintro e wb ⟨rfl, hj, hb⟩
            have H5 : Hid (Two w wb _ _ _ _ _) := ⟨H4.out.base.bar HJP.out.ptr hb, H4.out.j.far hb HJP.out.ptr (by have := HZ.out; omega), H4.out.r.far hb HJP.out.ptr (by
              intro e
              have h1 := HJP.out
              have h2 := H4.out.r
              rw [e] at h2
              obtain ⟨_, _, _, _, h3, _⟩ := h1
              obtain ⟨_, _, _, _, h4, _⟩ := h2
              rw [h3] at h4
              injection h4 with h4
              injection h4 with _ h4
              exact absurd h4 (by decide)), H4.out.ne⟩
            clear hj hb
            go_wp2
            go_meet
            exact ⟨_, _, _, rfl, by have h := H5.out; simp only [World.size_alloc] at h; exact h⟩
          have b5 : (op == 5) = false := by simpa using o5
          go_wp2
          go_meet
          exact ⟨p, M, _, rfl, H4.out⟩
        case rest =>
          obtain ⟨p, M, s, rfl, H5⟩ := hcut
          obtain ⟨rs, hrs⟩ : ∃ rs, recordsV s = rs := ⟨_, rfl⟩
          have HRS := Lib.hid hrs
          clear hrs
          go_upto_region 38 with fail
          obtain ⟨-, -, Aq, cq, hq, -⟩ := id H5.out.r
          replace H5 : Hid (Two w wc.drew M p w2.heap.size s s) := H5.out.on (drewN_below _ 1)
          have hq : wc.drew.heap[w2.heap.size]? = _ := hq
          have HQ := Lib.hid hq
          obtain ⟨k0, k1, k2, k3, kf⟩ := four hq
          clear hq
          go_region_held3 (fun w' => w'.cell? ⟨w2.heap.size, 1, none⟩ = some (.slice Aq s.b.length cq) ∧ w'.cell? ⟨w2.heap.size, 3, none⟩ = some (.bool s.down)) (first | go_keep | exact ⟨k1, k3⟩) (first
            | (go_at_call 32; refine (jRecords_calls M p s _ (by exact H5.out.j) (by exact H5.out.base.lt)).mono ?_; rw [HRS.out]; rintro e wa ⟨A1, d1, rfl, s1, hb⟩; replace H5 := Lib.hid (H5.out.on hb); replace HQ := Lib.hid ((hb.block _ (blk_lt HQ.out)).trans HQ.out); obtain ⟨k0, k1, k2, k3, kf⟩ := four HQ.out; have S1 := Lib.hid s1; (try replace S2 := Lib.hid (S2.out.mono (vw_below hb))); clear hb s1)
            | (go_at_call 33; refine (rRecords_calls M w2.heap.size s _ (by exact H5.out.r) (by exact H5.out.base.lt)).mono ?_; rw [HRS.out]; rintro e wa ⟨A2, d2, rfl, s2, hb⟩; replace H5 := Lib.hid (H5.out.on hb); replace HQ := Lib.hid ((hb.block _ (blk_lt HQ.out)).trans HQ.out); obtain ⟨k0, k1, k2, k3, kf⟩ := four HQ.out; have S2 := Lib.hid s2; (try replace S1 := Lib.hid (S1.out.mono (vw_below hb))); clear hb s2)
            | (go_at_call 18; refine (Names_calls _ _ (rs.map bs) (rs.map bs) _ (by exact S1.out.mono (vw_sub (by simp))) (by exact S2.out.mono (vw_sub (by simp)))).mono ?_; rintro e wn ⟨nn, rfl, hw⟩; simp only [decide_true]; have hb : Below wa.heap.size wa wn := by { rw [hw]; exact drewN_below _ nn }; replace H5 := Lib.hid (H5.out.on hb); replace HQ := Lib.hid ((hb.block _ (blk_lt HQ.out)).trans HQ.out); obtain ⟨k0, k1, k2, k3, kf⟩ := four HQ.out; clear hw hb S1 S2)
            | (go_at_call 34; refine (jLasts_calls M p s _ (by exact H5.out.j)).mono ?_; rintro e wa ⟨rfl, hb⟩; replace H5 := Lib.hid (H5.out.on hb); replace HQ := Lib.hid ((hb.block _ (blk_lt HQ.out)).trans HQ.out); obtain ⟨k0, k1, k2, k3, kf⟩ := four HQ.out; clear hb)
            | (go_at_call 35; refine (rLasts_calls M w2.heap.size s _ (by exact H5.out.r)).mono ?_; rintro e wa ⟨rfl, hb⟩; replace H5 := Lib.hid (H5.out.on hb); replace HQ := Lib.hid ((hb.block _ (blk_lt HQ.out)).trans HQ.out); obtain ⟨k0, k1, k2, k3, kf⟩ := four HQ.out; clear hb)
            | (go_at_call 36; refine (jUsed_calls M p s _ (by exact H5.out.j)).mono ?_; rintro e wa ⟨rfl, rfl⟩)
            | (go_at_call 37; refine (jDown_calls M p s _ (by exact H5.out.j)).mono ?_; rintro e wa ⟨rfl, rfl⟩))
          have H6 : Hid (Two w _ M p w2.heap.size s s) := H5.out
          clear HQ k0 k1 k2 k3 kf
          go_wp2
          go_roundw
          case rel => exact ⟨k + 1, p, M, s, by omega, by go_num, rfl, H6.out⟩
          case measure => simp [intOf]; omega
      · go_wp2
        go_ret
        exact ⟨rfl, H3.out.base.below⟩
end Go.Proofs.YthjbhnogndgojaaDoor
