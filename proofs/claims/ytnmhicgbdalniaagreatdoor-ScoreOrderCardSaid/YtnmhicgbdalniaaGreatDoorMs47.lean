import Derived.Test.YtnmhicgbdalniaaGreatDoorMs2
import Derived.Test.YtnmhicgbdalniaaGreatDoorMs30
import Derived.Test.YtnmhicgbdalniaaGreatDoorMs39
import Derived.Test.YtnmhicgbdalniaaGreatDoorMs41
import Derived.Test.YtnmhicgbdalniaaGreatDoorMs42
import Derived.Deep.DeepCutAuto
import Derived.Deep.CutBlock
import Derived.StillTailTactics
namespace Go.Proofs.YtnmhicgbdalniaaGreatDoor
open Go.RowKit Go.Sort

/-! Put: the document's side. -/
set_option maxHeartbeats 8000000 in
set_option maxRecDepth 100000 in
theorem RPut_calls (vs vp : Value) (s : St) (p : Pd) (w : World) (hs : Kd.state.V (vw w []) vs s) (hp : Kd.pod.V (vw w []) vp p) (hl : s.pods.length ≤ 900) (hup : UpN Pd.name s.pods) :
    Calls Tryz.prog 146 #[vs, vp] w (StDone [] (putS s p) w) := by
  obtain ⟨i0, hi, hz0, hz1, hz2⟩ := info_parts info_OfAll7
  obtain ⟨cs, rfl, hks⟩ := hs
  obtain ⟨cp, rfl, hkp⟩ := hp
  have HKP := Lib.hid hkp
  obtain ⟨A1, c1, A2, c2, A3, c3, rfl, s1, s2, s3⟩ := hks
  obtain ⟨P1, p1, P2, p2, P3, p3, P4, p4, rfl, -⟩ := hkp
  obtain ⟨-, f2, f2'⟩ := s2.form
  have S1 := Lib.hid s1
  have S2 := Lib.hid s2
  have S3 := Lib.hid s3
  have HUP := Lib.hid hup
  clear s1 s2 s3 hup
  go_enter Tryz.func146, Tryz.ntmps146
  go_upto_region 1 with fail
  obtain ⟨W, hW, hbw, k1, k2, k3, hWs⟩ := al3 w (.cells #[.slice A1 s.nodes.length c1, .slice A2 s.pods.length c2, .slice A3 s.budgets.length c3] 51) (.cells #[.string p.name, .string p.owner, .int .i64 p.prio, .slice P1 p.need.length p1, .slice P2 p.labels.length p2, .slice P3 p.sel.length p3, .slice P4 p.tols.length p4, .string p.key, .int .i64 p.most, .string p.node, .bool p.hold] 45) (.cells #[.slice none 0 0, .slice none 0 0, .slice none 0 0] 51)
  rw [← hW]
  have HBW := Lib.hid hbw
  have HK := Lib.hid (And.intro k1 (And.intro k2 k3))
  clear hW hbw k1 k2 k3
  go_upto_block 0 with fail
  go_cut [5] (fun v wx => ∃ k : Nat, v = .int .i64 k ∧ k ≤ s.pods.length ∧ Hid (∀ j, (hj : j < s.pods.length) → j < k → ltS s.pods[j].name p.name = true) ∧ Hid (∀ hk : k < s.pods.length, ltS s.pods[k].name p.name = false) ∧ Hid (Below W.heap.size W wx))
  case first =>
    go_wp2
    go_loopw [5] (fun v wr => ∃ k : Nat, v = .int .i64 k ∧ k ≤ s.pods.length ∧ Hid (∀ j, (hj : j < s.pods.length) → j < k → ltS s.pods[j].name p.name = true) ∧ Hid (Below W.heap.size W wr)) (fun v _ => s.pods.length - (intOf v).toNat)
    case atStart => exact ⟨0, rfl, Nat.zero_le _, (fun j _ h => absurd h (by omega)), Below.refl _ _⟩
    case round =>
      obtain ⟨k, rfl, hk, HP, HB⟩ := hrel
      obtain ⟨z, zf⟩ := blk_all ((HB.out.block _ (blk_lt HK.out.1)).trans HK.out.1)
      obtain ⟨y, yf⟩ := blk_all ((HB.out.block _ (blk_lt HK.out.2.1)).trans HK.out.2.1)
      by_cases hlt : k < s.pods.length
      · obtain ⟨pb, off, cs, rfl, hn, hc⟩ := S2.out.bothM (Below.then HBW.out HB.out) k hlt
        obtain ⟨x, hx⟩ : ∃ x, s.pods[k] = x := ⟨_, rfl⟩
        rw [hx] at hn
        obtain ⟨B1, d1, B2, d2, B3, d3, B4, d4, rfl, -⟩ := hn
        have q0 : wr.cell? ⟨pb, off + k * 11, none⟩ = some (.string x.name) := hc 0 _ rfl
        have g0 : decide ((k : Int) < (s.pods.length : Int)) = true := by simp; omega
        have g1 : decide (k < s.pods.length) = true := by simp; omega
        obtain ⟨b, hb⟩ : ∃ b, ltS x.name p.name = b := ⟨_, rfl⟩
        have e1 : Op.bytesLess x.name.toList p.name.toList = b := (less_ltS _ _).trans hb
        have HX := Lib.hid hx
        have HLT := Lib.hid hb
        clear hc hx hb
        go_upto_region 2 with fail
        go_quiet (fail)
        have HB2 : Hid (Below W.heap.size W (wr.drewN nq)) := drewN_then HB.out nq
        clear q0 z zf y yf
        cases b with
        | true =>
          have HP2 : Hid (∀ j, (hj : j < s.pods.length) → j < k + 1 → ltS s.pods[j].name p.name = true) := fun j hj hjk => by
            rcases Nat.lt_or_ge j k with h | h
            · exact HP.out j hj h
            · obtain rfl : j = k := by omega
              rw [HX.out]; exact HLT.out
          go_wp2
          go_roundw
          case rel => exact ⟨k + 1, by go_num, by omega, HP2.out, HB2.out⟩
          case measure => simp [intOf]; omega
        | false =>
          go_wp2
          go_meet
          exact ⟨k, rfl, hk, HP.out, (fun _ => by rw [HX.out]; exact HLT.out), HB2.out⟩
      · have g0 : decide ((k : Int) < (s.pods.length : Int)) = false := decide_eq_false (by omega)
        have g1 : decide (k < s.pods.length) = false := decide_eq_false (by omega)
        go_upto_region 2 with fail
        go_quiet (fail)
        have HB2 : Hid (Below W.heap.size W (wr.drewN nq)) := drewN_then HB.out nq
        clear z zf y yf
        go_wp2
        go_meet
        exact ⟨k, rfl, hk, HP.out, (fun h => absurd h hlt), HB2.out⟩
  case rest =>
    obtain ⟨k, rfl, hk, HP, HN, HB⟩ := hcut
    have HBX := Lib.hid (Below.then HBW.out HB.out)
    have g1 := (HB.out.block _ (blk_lt HK.out.1)).trans HK.out.1
    have g2 := (HB.out.block _ (blk_lt HK.out.2.1)).trans HK.out.2.1
    obtain ⟨z, zf⟩ := blk_all g1
    obtain ⟨y, yf⟩ := blk_all g2
    have lz := blk_lt g1
    have ly := blk_lt g2
    have hps : ∀ k', insN p (s.pods.filter fun x => !isNm p.name x) = s.pods.take k ++ p :: s.pods.drop k' → (putS s p).pods = s.pods.take k ++ p :: s.pods.drop k' := fun k' h => h
    have s1 : (0 : Int) ≤ (k : Int) := by omega
    have s2' : (k : Int) ≤ (c2 : Int) := by omega
    have s3' : (k : Int) ≤ (s.pods.length : Int) := by omega
    have hfr := (S2.out.take k hk)
    clear g1 g2
    go_upto_region 4 with fail
    refine wp_region_slots [25, 26, 27, 28, 29, 30, 31, 32, 33, 6] (fun L vs W' => ∃ s25 s26 s27 s28 s29 s30 s31 s32 s33 s6 : Value, vs = [s25, s26, s27, s28, s29, s30, s31, s32, s33, s6] ∧ (L 1 = true → s26 = .pointer (some ⟨w.heap.size, 1, none⟩)) ∧ (L 2 = true → s27 = .slice A2 s.pods.length c2) ∧ (L 3 = true → s28 = .int .i64 (k : Int)) ∧ (L 4 = true → s29 = .slice A2 k c2) ∧ (L 6 = true → s31 = .agg #[.string p.name, .string p.owner, .int .i64 p.prio, .slice P1 p.need.length p1, .slice P2 p.labels.length p2, .slice P3 p.sel.length p3, .slice P4 p.tols.length p4, .string p.key, .int .i64 p.most, .string p.node, .bool p.hold]) ∧ (L 9 = true → L 8 = true ∧ s6 = s33) ∧ Kd.InsJ Kd.pod w [] wc 45 (s.pods.take k) (p) [.string p.name, .string p.owner, .int .i64 p.prio, .slice P1 p.need.length p1, .slice P2 p.labels.length p2, .slice P3 p.sel.length p3, .slice P4 p.tols.length p4, .string p.key, .int .i64 p.most, .string p.node, .bool p.hold] (L 0) (L 5) (L 7) (L 8) s25 s30 s32 s33 W') (by kernel_rfl) (by kernel_rfl) ?start (And.intro ?o0 (And.intro ?o1 (And.intro ?o2 (And.intro ?o3 (And.intro ?o4 (And.intro ?o5 (And.intro ?o6 (And.intro ?o7 (And.intro ?o8 (And.intro ?o9 trivial)))))))))) ?rest
    case start =>
      intro L vs hL hlen
      obtain ⟨s25, s26, s27, s28, s29, s30, s31, s32, s33, s6, rfl⟩ := list_of10 hlen
      have h0 := hL 0 (by simp)
      have h1 := hL 1 (by simp)
      have h2 := hL 2 (by simp)
      have h3 := hL 3 (by simp)
      have h4 := hL 4 (by simp)
      have h5 := hL 5 (by simp)
      have h6 := hL 6 (by simp)
      have h7 := hL 7 (by simp)
      have h8 := hL 8 (by simp)
      have h9 := hL 9 (by simp)
      refine ⟨s25, s26, s27, s28, s29, s30, s31, s32, s33, s6, rfl, (fun h => by rw [h1] at h; cases h), (fun h => by rw [h2] at h; cases h), (fun h => by rw [h3] at h; cases h), (fun h => by rw [h4] at h; cases h), (fun h => by rw [h6] at h; cases h), (fun h => by rw [h9] at h; cases h), ?_⟩
      rw [h0, h5, h7, h8]; exact Kd.InsJ.start (drew_below _)
    case o0 =>
      rintro L a' W' K ⟨vs, rfl, s25, s26, s27, s28, s29, s30, s31, s32, s33, s6, rfl, f1, f2, f3, f4, f6, d9, hJ⟩ hL hd hK
      simp only [putAll, Act.put, List.setIfInBounds_toArray, List.set_cons_zero, List.set_cons_succ]
      rw [hL] at hJ
      go_simp
      exact hK _ _ ⟨[.slice (some ⟨W'.heap.size, 0, none⟩) 0 0, s26, s27, s28, s29, s30, s31, s32, s33, s6], (by simp only [putAll, Act.put, List.setIfInBounds_toArray, List.set_cons_zero, List.set_cons_succ]), .slice (some ⟨W'.heap.size, 0, none⟩) 0 0, s26, s27, s28, s29, s30, s31, s32, s33, s6, rfl, f1, f2, f3, f4, f6, d9, hJ.alloc0⟩
    case o1 =>
      rintro L a' W' K ⟨vs, rfl, s25, s26, s27, s28, s29, s30, s31, s32, s33, s6, rfl, f1, f2, f3, f4, f6, d9, hJ⟩ hL hd hK
      simp only [putAll, Act.put, List.setIfInBounds_toArray, List.set_cons_zero, List.set_cons_succ]
      go_simp
      exact hK _ _ ⟨[s25, .pointer (some ⟨w.heap.size, 1, none⟩), s27, s28, s29, s30, s31, s32, s33, s6], (by simp only [putAll, Act.put, List.setIfInBounds_toArray, List.set_cons_zero, List.set_cons_succ]), s25, .pointer (some ⟨w.heap.size, 1, none⟩), s27, s28, s29, s30, s31, s32, s33, s6, rfl, (fun _ => rfl), f2, f3, f4, f6, d9, hJ⟩
    case o2 =>
      rintro L a' W' K ⟨vs, rfl, s25, s26, s27, s28, s29, s30, s31, s32, s33, s6, rfl, f1, f2, f3, f4, f6, d9, hJ⟩ hL hd hK
      simp only [putAll, Act.put, List.setIfInBounds_toArray, List.set_cons_zero, List.set_cons_succ]
      obtain rfl := f1 (hd 1 (by decide))
      have zz : ∀ j, W'.cell? ⟨w.heap.size, j, none⟩ = #[.slice A1 s.nodes.length c1, .slice A2 s.pods.length c2, .slice A3 s.budgets.length c3][j]? := fun j => (hJ.1.cell (p := ⟨w.heap.size, j, none⟩) lz).trans (z j)
      go_simp
      exact hK _ _ ⟨[s25, .pointer (some ⟨w.heap.size, 1, none⟩), .slice A2 s.pods.length c2, s28, s29, s30, s31, s32, s33, s6], (by simp only [putAll, Act.put, List.setIfInBounds_toArray, List.set_cons_zero, List.set_cons_succ]), s25, .pointer (some ⟨w.heap.size, 1, none⟩), .slice A2 s.pods.length c2, s28, s29, s30, s31, s32, s33, s6, rfl, f1, (fun _ => rfl), f3, f4, f6, d9, hJ⟩
    case o3 =>
      rintro L a' W' K ⟨vs, rfl, s25, s26, s27, s28, s29, s30, s31, s32, s33, s6, rfl, f1, f2, f3, f4, f6, d9, hJ⟩ hL hd hK
      simp only [putAll, Act.put, List.setIfInBounds_toArray, List.set_cons_zero, List.set_cons_succ]
      go_simp
      exact hK _ _ ⟨[s25, s26, s27, .int .i64 (k : Int), s29, s30, s31, s32, s33, s6], (by simp only [putAll, Act.put, List.setIfInBounds_toArray, List.set_cons_zero, List.set_cons_succ]), s25, s26, s27, .int .i64 (k : Int), s29, s30, s31, s32, s33, s6, rfl, f1, f2, (fun _ => rfl), f4, f6, d9, hJ⟩
    case o4 =>
      rintro L a' W' K ⟨vs, rfl, s25, s26, s27, s28, s29, s30, s31, s32, s33, s6, rfl, f1, f2, f3, f4, f6, d9, hJ⟩ hL hd hK
      simp only [putAll, Act.put, List.setIfInBounds_toArray, List.set_cons_zero, List.set_cons_succ]
      obtain rfl := f2 (hd 2 (by decide))
      obtain rfl := f3 (hd 3 (by decide))
      go_simp
      exact hK _ _ ⟨[s25, s26, .slice A2 s.pods.length c2, .int .i64 (k : Int), .slice A2 k c2, s30, s31, s32, s33, s6], (by simp only [putAll, Act.put, List.setIfInBounds_toArray, List.set_cons_zero, List.set_cons_succ]), s25, s26, .slice A2 s.pods.length c2, .int .i64 (k : Int), .slice A2 k c2, s30, s31, s32, s33, s6, rfl, f1, f2, f3, (fun _ => rfl), f6, d9, hJ⟩
    case o5 =>
      rintro L a' W' K ⟨vs, rfl, s25, s26, s27, s28, s29, s30, s31, s32, s33, s6, rfl, f1, f2, f3, f4, f6, d9, hJ⟩ hL hd hK
      simp only [putAll, Act.put, List.setIfInBounds_toArray, List.set_cons_zero, List.set_cons_succ]
      have h0 := hd 0 (by decide)
      obtain rfl := f4 (hd 4 (by decide))
      rw [hL] at hJ
      rw [if_pos (by rfl)]
      refine Kd.wp_piece (d := Kd.pod) _ w [] wc.heap.size 48 45 i0 _ 184 Tryz.underlying48 hi hz0 hz1 hz2 rfl (by decide) _ [] (hJ.row0 h0) A2 k c2 (s.pods.take k) ((Kd.Piece.of_S hfr HBX.out).below hJ.1) pod_ones (by simp only [maxLen, List.length_nil]; omega) (by simp only [List.length_nil]; omega) hJ.1.size _ _ rfl rfl rfl ?_
      intro v' W2 hr hg _
      exact hK _ _ ⟨[s25, s26, s27, s28, .slice A2 k c2, v', s31, s32, s33, s6], (by simp only [putAll, Act.put, List.setIfInBounds_toArray, List.set_cons_zero, List.set_cons_succ]), s25, s26, s27, s28, .slice A2 k c2, v', s31, s32, s33, s6, rfl, f1, f2, f3, f4, f6, d9, hJ.app h0 (by simpa using hr) hg⟩
    case o6 =>
      rintro L a' W' K ⟨vs, rfl, s25, s26, s27, s28, s29, s30, s31, s32, s33, s6, rfl, f1, f2, f3, f4, f6, d9, hJ⟩ hL hd hK
      simp only [putAll, Act.put, List.setIfInBounds_toArray, List.set_cons_zero, List.set_cons_succ]
      have zz : ∀ j, W'.cell? ⟨w.heap.size + 1, j, none⟩ = #[.string p.name, .string p.owner, .int .i64 p.prio, .slice P1 p.need.length p1, .slice P2 p.labels.length p2, .slice P3 p.sel.length p3, .slice P4 p.tols.length p4, .string p.key, .int .i64 p.most, .string p.node, .bool p.hold][j]? := fun j => (hJ.1.cell (p := ⟨w.heap.size + 1, j, none⟩) ly).trans (y j)
      go_simp
      exact hK _ _ ⟨[s25, s26, s27, s28, s29, s30, .agg #[.string p.name, .string p.owner, .int .i64 p.prio, .slice P1 p.need.length p1, .slice P2 p.labels.length p2, .slice P3 p.sel.length p3, .slice P4 p.tols.length p4, .string p.key, .int .i64 p.most, .string p.node, .bool p.hold], s32, s33, s6], (by simp only [putAll, Act.put, List.setIfInBounds_toArray, List.set_cons_zero, List.set_cons_succ]), s25, s26, s27, s28, s29, s30, .agg #[.string p.name, .string p.owner, .int .i64 p.prio, .slice P1 p.need.length p1, .slice P2 p.labels.length p2, .slice P3 p.sel.length p3, .slice P4 p.tols.length p4, .string p.key, .int .i64 p.most, .string p.node, .bool p.hold], s32, s33, s6, rfl, f1, f2, f3, f4, (fun _ => rfl), d9, hJ⟩
    case o7 =>
      rintro L a' W' K ⟨vs, rfl, s25, s26, s27, s28, s29, s30, s31, s32, s33, s6, rfl, f1, f2, f3, f4, f6, d9, hJ⟩ hL hd hK
      simp only [putAll, Act.put, List.setIfInBounds_toArray, List.set_cons_zero, List.set_cons_succ]
      obtain rfl := f6 (hd 6 (by decide))
      rw [hL] at hJ
      go_simp
      exact hK _ _ ⟨[s25, s26, s27, s28, s29, s30, .agg #[.string p.name, .string p.owner, .int .i64 p.prio, .slice P1 p.need.length p1, .slice P2 p.labels.length p2, .slice P3 p.sel.length p3, .slice P4 p.tols.length p4, .string p.key, .int .i64 p.most, .string p.node, .bool p.hold], .slice (some ⟨W'.heap.size, 0, none⟩) 1 1, s33, s6], (by simp only [putAll, Act.put, List.setIfInBounds_toArray, List.set_cons_zero, List.set_cons_succ]), s25, s26, s27, s28, s29, s30, .agg #[.string p.name, .string p.owner, .int .i64 p.prio, .slice P1 p.need.length p1, .slice P2 p.labels.length p2, .slice P3 p.sel.length p3, .slice P4 p.tols.length p4, .string p.key, .int .i64 p.most, .string p.node, .bool p.hold], .slice (some ⟨W'.heap.size, 0, none⟩) 1 1, s33, s6, rfl, f1, f2, f3, f4, f6, d9, hJ.alloc1⟩
    case o8 =>
      rintro L a' W' K ⟨vs, rfl, s25, s26, s27, s28, s29, s30, s31, s32, s33, s6, rfl, f1, f2, f3, f4, f6, d9, hJ⟩ hL hd hK
      simp only [putAll, Act.put, List.setIfInBounds_toArray, List.set_cons_zero, List.set_cons_succ]
      have h5 := hd 5 (by decide)
      have h7 := hd 7 (by decide)
      rw [hL] at hJ
      obtain ⟨g, rfl, hg1⟩ := hJ.one h7
      rw [if_pos (by rfl)]
      refine Kd.wp_piece (d := Kd.pod) _ w [] wc.heap.size 48 45 i0 _ 184 Tryz.underlying48 hi hz0 hz1 hz2 rfl (by decide) _ _ (hJ.row1 h5) (some ⟨g, 0, none⟩) 1 1 [p] (Kd.Piece.one hg1 HKP.out) pod_ones (by simp only [maxLen, List.length_take]; omega) (by simp only [List.length_take]; omega) hJ.1.size _ _ rfl rfl rfl ?_
      intro v' W2 hr hg _
      exact hK _ _ ⟨[s25, s26, s27, s28, s29, s30, s31, .slice (some ⟨g, 0, none⟩) 1 1, v', s6], (by simp only [putAll, Act.put, List.setIfInBounds_toArray, List.set_cons_zero, List.set_cons_succ]), s25, s26, s27, s28, s29, s30, s31, .slice (some ⟨g, 0, none⟩) 1 1, v', s6, rfl, f1, f2, f3, f4, f6, (fun h => by have := (d9 h).1; rw [hL] at this; cases this), hJ.app2 h5 h7 hr hg⟩
    case o9 =>
      rintro L a' W' K ⟨vs, rfl, s25, s26, s27, s28, s29, s30, s31, s32, s33, s6, rfl, f1, f2, f3, f4, f6, d9, hJ⟩ hL hd hK
      simp only [putAll, Act.put, List.setIfInBounds_toArray, List.set_cons_zero, List.set_cons_succ]
      go_simp
      exact hK _ _ ⟨[s25, s26, s27, s28, s29, s30, s31, s32, s33, s33], (by simp only [putAll, Act.put, List.setIfInBounds_toArray, List.set_cons_zero, List.set_cons_succ]), s25, s26, s27, s28, s29, s30, s31, s32, s33, s33, rfl, f1, f2, f3, f4, f6, (fun _ => ⟨hd 8 (by decide), rfl⟩), hJ⟩
    case rest =>
      rintro L vs W5 ⟨s25, s26, s27, s28, s29, s30, s31, s32, s33, s6, rfl, -, -, -, -, -, d9, hJ⟩ hL
      obtain ⟨-, rfl⟩ := d9 (hL 9)
      rw [hL 8] at hJ
      obtain ⟨hbn, hrow⟩ := hJ.done
      have HBN := Lib.hid hbn
      have HROW := Lib.hid hrow
      have hbns := hbn.size
      have l3 : w.heap.size + 1 + 1 < wc.heap.size := blk_lt ((HB.out.block _ (blk_lt HK.out.2.2)).trans HK.out.2.2)
      simp only [putAll, Act.put, List.setIfInBounds_toArray, List.set_cons_zero, List.set_cons_succ]
      obtain ⟨z, zf⟩ := blk_all ((hbn.block _ lz).trans ((HB.out.block _ (blk_lt HK.out.1)).trans HK.out.1))
      obtain ⟨y, yf⟩ := blk_all ((hbn.block _ ly).trans ((HB.out.block _ (blk_lt HK.out.2.1)).trans HK.out.2.1))
      clear hbn hrow hL hfr s1 s2' s3'
      by_cases hlt : k < s.pods.length
      · obtain ⟨pb, off, cs, rfl, hn, hc⟩ := S2.out.bothM (Below.then HBX.out HBN.out) k hlt
        obtain ⟨x, hx⟩ : ∃ x, s.pods[k] = x := ⟨_, rfl⟩
        rw [hx] at hn
        obtain ⟨B1, d1, B2, d2, B3, d3, B4, d4, rfl, -⟩ := hn
        have q0 : W5.cell? ⟨pb, off + k * 11, none⟩ = some (.string x.name) := hc 0 _ rfl
        have g0 : decide ((k : Int) < (s.pods.length : Int)) = true := by simp; omega
        have g1 : decide (k < s.pods.length) = true := by simp; omega
        by_cases he : x.name = p.name
        · have HEQ : Hid ((putS s p).pods = s.pods.take k ++ p :: s.pods.drop (k + 1)) := hps _ (put_over HUP.out hlt HP.out (by rw [hx]; exact he))
          have hb := str_beq he
          clear hc hx he hps
          go_upto_region 5 with fail
          go_quiet (fail)
          have HBU : Hid (Below wc.heap.size wc (W5.drewN nq)) := drewN_then HBN.out nq
          have HRU := Lib.hid (HROW.out.below (drewN_then (Below.refl W5.heap.size W5) nq))
          generalize W5.drewN nq = U at HBU HRU ⊢
          clear q0 z zf y yf hb
          obtain ⟨j, hj⟩ : ∃ j, k + 1 = j := ⟨_, rfl⟩
          have hjn : j ≤ s.pods.length := by omega
          have hw1 : IntKind.i64.wrap ((k : Int) + 1) = (j : Int) := by
            have e : ((k : Int) + 1) = (j : Int) := by omega
            rw [e]
            exact IntWalk.i64_in (j : Int) (by omega)
          rw [hj] at HEQ
          clear hj
          go_wp2
          clear hw1
          have s1 : (0 : Int) ≤ (j : Int) := by omega
          have s2' : (j : Int) ≤ (s.pods.length : Int) := by omega
          by_cases hck : c2 = j
          · have HPC : Hid (Kd.pod.Piece w [] U.drew (some ⟨pb, off, none⟩) (s.pods.length - j) (s.pods.drop j)) := Kd.Piece.none_left (by omega)
            have HBT := Lib.hid (Below.then HBX.out HBU.out)
            obtain ⟨z, zf⟩ := blk_all ((HBU.out.block _ lz).trans ((HB.out.block _ (blk_lt HK.out.1)).trans HK.out.1))
            go_upto_region 7 with fail
            have HB3 := Lib.hid (Below.then HBU.out (drew_below U))
            have HR3 := Lib.hid (HRU.out.below (drew_below U))
            have HBT3 := Lib.hid (Below.then HBT.out (drew_below U))
            have HRO := Lib.hid (fun q hq => (Kd.Row0.lt HR3.out q hq).1)
            have HSZ := Lib.hid (And.intro lz l3)
            have HN4 : Hid ((putS s p).pods.length ≤ 1000) := by
              show _ ≤ _
              rw [put_len]
              have : (dropS s p.name).pods.length ≤ s.pods.length := List.length_filter_le _ _
              omega
            go_region_held3 (fun w' => ∀ j, w'.cell? ⟨w.heap.size, j, none⟩ = #[.slice A1 s.nodes.length c1, .slice (some ⟨pb, off, none⟩) s.pods.length c2, .slice A3 s.budgets.length c3][j]?)
              (first | with_reducible exact z | with_reducible exact z3 | with_reducible exact z4 | with_reducible exact z5 | go_keep)
              (first
              | (refine Kd.step_piece (d := Kd.pod) _ w [] wc.heap.size 48 45 i0 _ 184 Tryz.underlying48 hi hz0 hz1 hz2 rfl (by decide) _ (s.pods.take k ++ [p]) (by exact HR3.out) (some ⟨pb, off, none⟩) (s.pods.length - j) _ (s.pods.drop j) (by exact HPC.out) pod_ones (by simp only [maxLen, List.length_append, List.length_take, List.length_cons, List.length_nil]; omega) (by simp only [List.length_append, List.length_take, List.length_cons, List.length_nil]; omega) (by exact HB3.out.size) _ _ (by rfl) (by rfl) (by rfl) (by rfl) ?_
                 intro v3 w3 hr3 hg3 _
                 have HB9 := Lib.hid (Below.grown HB3.out hg3 HB3.out.size HRO.out)
                 have hr4 : Kd.pod.Row0 w [] w3 wc.heap.size 45 v3 (putS s p).pods := by
                   rw [HEQ.out]
                   simpa using hr3
                 have HR4 := Lib.hid hr4
                 obtain ⟨css, a1, a2, a3⟩ := hr4
                 obtain ⟨G, gc, rfl⟩ := Kd.row_form0 a3
                 have z3 : ∀ j, w3.cell? ⟨w.heap.size, j, none⟩ = #[.slice A1 s.nodes.length c1, .slice (some ⟨pb, off, none⟩) s.pods.length c2, .slice A3 s.budgets.length c3][j]? := fun j => (HB9.out.cell (p := ⟨w.heap.size, j, none⟩) HSZ.out.1).trans ((HB3.out.cell (p := ⟨w.heap.size, j, none⟩) HSZ.out.1).symm.trans (z j))
                 clear hr3 hg3 a1 a2 a3)
              | (go_at_call 169
                 (with_reducible refine (RWith_calls A1 (some ⟨pb, off, none⟩) A3 G _ c1 _ _ _ c3 _ gc _).mono ?_)
                 rintro e w4 ⟨rfl, hb⟩
                 have HQ : Hid (w4.heap[w.heap.size + 1 + 1]? = some (.cells #[.slice none 0 0, .slice none 0 0, .slice none 0 0] 51 (0, 0))) := (hb.block _ (by have := HB9.out.size; have := HSZ.out.2; omega)).trans ((HB9.out.block _ HSZ.out.2).trans ((HB.out.block _ (blk_lt HK.out.2.2)).trans HK.out.2.2))
                 have HR5 := Lib.hid (HR4.out.below hb)
                 have HB5 := Lib.hid (Below.then HBX.out (Below.then HB9.out hb))
                 have z4 : ∀ j, w4.cell? ⟨w.heap.size, j, none⟩ = #[.slice A1 s.nodes.length c1, .slice (some ⟨pb, off, none⟩) s.pods.length c2, .slice A3 s.budgets.length c3][j]? := fun j => (hb.cell (p := ⟨w.heap.size, j, none⟩) (Nat.lt_of_lt_of_le HSZ.out.1 HB9.out.size)).trans (z3 j)
                 have z5 : ∀ j, (((w4.setCell ⟨w.heap.size + 1 + 1, 0, none⟩ (.slice A1 s.nodes.length c1)).setCell ⟨w.heap.size + 1 + 1, 1, none⟩ (.slice G (putS s p).pods.length gc)).setCell ⟨w.heap.size + 1 + 1, 2, none⟩ (.slice A3 s.budgets.length c3)).cell? ⟨w.heap.size, j, none⟩ = #[.slice A1 s.nodes.length c1, .slice (some ⟨pb, off, none⟩) s.pods.length c2, .slice A3 s.budgets.length c3][j]? := fun j => (World.cell?_of_block (a := ⟨w.heap.size, j, none⟩) (((Below.heap_setCell _ _ _ w.heap.size (by show w.heap.size ≠ w.heap.size + 1 + 1; omega)).trans (Below.heap_setCell _ _ _ w.heap.size (by show w.heap.size ≠ w.heap.size + 1 + 1; omega))).trans (Below.heap_setCell _ _ _ w.heap.size (by show w.heap.size ≠ w.heap.size + 1 + 1; omega)))).trans (z4 j)
                 obtain ⟨q, qf⟩ := blk_all HQ.out
                 clear hb z z3))
            go_wp2
            have l3' := HSZ.out.2
            have hbel := Below.setCell (Below.setCell (Below.setCell HB5.out (p := ⟨w.heap.size + 1 + 1, 0, none⟩) (by show w.heap.size ≤ w.heap.size + 1 + 1; omega) (.slice A1 s.nodes.length c1)) (p := ⟨w.heap.size + 1 + 1, 1, none⟩) (by show w.heap.size ≤ w.heap.size + 1 + 1; omega) (.slice G (putS s p).pods.length gc)) (p := ⟨w.heap.size + 1 + 1, 2, none⟩) (by show w.heap.size ≤ w.heap.size + 1 + 1; omega) (.slice A3 s.budgets.length c3)
            have hr6 := ((HR5.out.setCell (p := ⟨w.heap.size + 1 + 1, 0, none⟩) l3' (.slice A1 s.nodes.length c1)).setCell (p := ⟨w.heap.size + 1 + 1, 1, none⟩) l3' (.slice G (putS s p).pods.length gc)).setCell (p := ⟨w.heap.size + 1 + 1, 2, none⟩) l3' (.slice A3 s.budgets.length c3)
            exact ret_row1 (cs := [.slice A1 s.nodes.length c1, .slice G (putS s p).pods.length gc, .slice A3 s.budgets.length c3]) rfl rfl ((blk_set (blk_set (blk_set HQ.out _) _) _).trans rfl) Tryz.underlying51 rfl (by kernel_rfl) rfl ⟨_, rfl, ⟨A1, c1, G, gc, A3, c3, rfl, S1.out.mono (vw_below hbel), hr6.S hbel (by omega) (by simp) (by have := HN4.out; omega), S3.out.mono (vw_below hbel)⟩, hbel⟩
          · have HPC : Hid (Kd.pod.Piece w [] U.drew (some ⟨pb, off + j * 11, none⟩) (s.pods.length - j) (s.pods.drop j)) := Kd.Piece.of_S (S2.out.drop j hjn) (Below.then (Below.then HBX.out HBU.out) (drew_below U))
            have HBT := Lib.hid (Below.then HBX.out HBU.out)
            obtain ⟨z, zf⟩ := blk_all ((HBU.out.block _ lz).trans ((HB.out.block _ (blk_lt HK.out.1)).trans HK.out.1))
            go_upto_region 7 with fail
            have HB3 := Lib.hid (Below.then HBU.out (drew_below U))
            have HR3 := Lib.hid (HRU.out.below (drew_below U))
            have HBT3 := Lib.hid (Below.then HBT.out (drew_below U))
            have HRO := Lib.hid (fun q hq => (Kd.Row0.lt HR3.out q hq).1)
            have HSZ := Lib.hid (And.intro lz l3)
            have HN4 : Hid ((putS s p).pods.length ≤ 1000) := by
              show _ ≤ _
              rw [put_len]
              have : (dropS s p.name).pods.length ≤ s.pods.length := List.length_filter_le _ _
              omega
            go_region_held3 (fun w' => ∀ j, w'.cell? ⟨w.heap.size, j, none⟩ = #[.slice A1 s.nodes.length c1, .slice (some ⟨pb, off, none⟩) s.pods.length c2, .slice A3 s.budgets.length c3][j]?)
              (first | with_reducible exact z | with_reducible exact z3 | with_reducible exact z4 | with_reducible exact z5 | go_keep)
              (first
              | (refine Kd.step_piece (d := Kd.pod) _ w [] wc.heap.size 48 45 i0 _ 184 Tryz.underlying48 hi hz0 hz1 hz2 rfl (by decide) _ (s.pods.take k ++ [p]) (by exact HR3.out) (some ⟨pb, off + j * 11, none⟩) (s.pods.length - j) _ (s.pods.drop j) (by exact HPC.out) pod_ones (by simp only [maxLen, List.length_append, List.length_take, List.length_cons, List.length_nil]; omega) (by simp only [List.length_append, List.length_take, List.length_cons, List.length_nil]; omega) (by exact HB3.out.size) _ _ (by rfl) (by rfl) (by rfl) (by rfl) ?_
                 intro v3 w3 hr3 hg3 _
                 have HB9 := Lib.hid (Below.grown HB3.out hg3 HB3.out.size HRO.out)
                 have hr4 : Kd.pod.Row0 w [] w3 wc.heap.size 45 v3 (putS s p).pods := by
                   rw [HEQ.out]
                   simpa using hr3
                 have HR4 := Lib.hid hr4
                 obtain ⟨css, a1, a2, a3⟩ := hr4
                 obtain ⟨G, gc, rfl⟩ := Kd.row_form0 a3
                 have z3 : ∀ j, w3.cell? ⟨w.heap.size, j, none⟩ = #[.slice A1 s.nodes.length c1, .slice (some ⟨pb, off, none⟩) s.pods.length c2, .slice A3 s.budgets.length c3][j]? := fun j => (HB9.out.cell (p := ⟨w.heap.size, j, none⟩) HSZ.out.1).trans ((HB3.out.cell (p := ⟨w.heap.size, j, none⟩) HSZ.out.1).symm.trans (z j))
                 clear hr3 hg3 a1 a2 a3)
              | (go_at_call 169
                 (with_reducible refine (RWith_calls A1 (some ⟨pb, off, none⟩) A3 G _ c1 _ _ _ c3 _ gc _).mono ?_)
                 rintro e w4 ⟨rfl, hb⟩
                 have HQ : Hid (w4.heap[w.heap.size + 1 + 1]? = some (.cells #[.slice none 0 0, .slice none 0 0, .slice none 0 0] 51 (0, 0))) := (hb.block _ (by have := HB9.out.size; have := HSZ.out.2; omega)).trans ((HB9.out.block _ HSZ.out.2).trans ((HB.out.block _ (blk_lt HK.out.2.2)).trans HK.out.2.2))
                 have HR5 := Lib.hid (HR4.out.below hb)
                 have HB5 := Lib.hid (Below.then HBX.out (Below.then HB9.out hb))
                 have z4 : ∀ j, w4.cell? ⟨w.heap.size, j, none⟩ = #[.slice A1 s.nodes.length c1, .slice (some ⟨pb, off, none⟩) s.pods.length c2, .slice A3 s.budgets.length c3][j]? := fun j => (hb.cell (p := ⟨w.heap.size, j, none⟩) (Nat.lt_of_lt_of_le HSZ.out.1 HB9.out.size)).trans (z3 j)
                 have z5 : ∀ j, (((w4.setCell ⟨w.heap.size + 1 + 1, 0, none⟩ (.slice A1 s.nodes.length c1)).setCell ⟨w.heap.size + 1 + 1, 1, none⟩ (.slice G (putS s p).pods.length gc)).setCell ⟨w.heap.size + 1 + 1, 2, none⟩ (.slice A3 s.budgets.length c3)).cell? ⟨w.heap.size, j, none⟩ = #[.slice A1 s.nodes.length c1, .slice (some ⟨pb, off, none⟩) s.pods.length c2, .slice A3 s.budgets.length c3][j]? := fun j => (World.cell?_of_block (a := ⟨w.heap.size, j, none⟩) (((Below.heap_setCell _ _ _ w.heap.size (by show w.heap.size ≠ w.heap.size + 1 + 1; omega)).trans (Below.heap_setCell _ _ _ w.heap.size (by show w.heap.size ≠ w.heap.size + 1 + 1; omega))).trans (Below.heap_setCell _ _ _ w.heap.size (by show w.heap.size ≠ w.heap.size + 1 + 1; omega)))).trans (z4 j)
                 obtain ⟨q, qf⟩ := blk_all HQ.out
                 clear hb z z3))
            go_wp2
            have l3' := HSZ.out.2
            have hbel := Below.setCell (Below.setCell (Below.setCell HB5.out (p := ⟨w.heap.size + 1 + 1, 0, none⟩) (by show w.heap.size ≤ w.heap.size + 1 + 1; omega) (.slice A1 s.nodes.length c1)) (p := ⟨w.heap.size + 1 + 1, 1, none⟩) (by show w.heap.size ≤ w.heap.size + 1 + 1; omega) (.slice G (putS s p).pods.length gc)) (p := ⟨w.heap.size + 1 + 1, 2, none⟩) (by show w.heap.size ≤ w.heap.size + 1 + 1; omega) (.slice A3 s.budgets.length c3)
            have hr6 := ((HR5.out.setCell (p := ⟨w.heap.size + 1 + 1, 0, none⟩) l3' (.slice A1 s.nodes.length c1)).setCell (p := ⟨w.heap.size + 1 + 1, 1, none⟩) l3' (.slice G (putS s p).pods.length gc)).setCell (p := ⟨w.heap.size + 1 + 1, 2, none⟩) l3' (.slice A3 s.budgets.length c3)
            exact ret_row1 (cs := [.slice A1 s.nodes.length c1, .slice G (putS s p).pods.length gc, .slice A3 s.budgets.length c3]) rfl rfl ((blk_set (blk_set (blk_set HQ.out _) _) _).trans rfl) Tryz.underlying51 rfl (by kernel_rfl) rfl ⟨_, rfl, ⟨A1, c1, G, gc, A3, c3, rfl, S1.out.mono (vw_below hbel), hr6.S hbel (by omega) (by simp) (by have := HN4.out; omega), S3.out.mono (vw_below hbel)⟩, hbel⟩
        · have HEQ : Hid ((putS s p).pods = s.pods.take k ++ p :: s.pods.drop k) := hps _ (put_fresh HUP.out hk HP.out HN.out (fun h => by rw [hx]; exact he))
          have hb := str_nbeq he
          clear hc hx he hps
          go_upto_region 5 with fail
          go_quiet (fail)
          have HBU : Hid (Below wc.heap.size wc (W5.drewN nq)) := drewN_then HBN.out nq
          have HRU := Lib.hid (HROW.out.below (drewN_then (Below.refl W5.heap.size W5) nq))
          generalize W5.drewN nq = U at HBU HRU ⊢
          clear q0 z zf y yf hb
          have s1 : (0 : Int) ≤ (k : Int) := by omega
          have s2' : (k : Int) ≤ (s.pods.length : Int) := by omega
          have hck : ¬ c2 = k := by omega
          have HPC : Hid (Kd.pod.Piece w [] U.drew (some ⟨pb, off + k * 11, none⟩) (s.pods.length - k) (s.pods.drop k)) := Kd.Piece.of_S (S2.out.drop k hk) (Below.then (Below.then HBX.out HBU.out) (drew_below U))
          have HBT := Lib.hid (Below.then HBX.out HBU.out)
          obtain ⟨z, zf⟩ := blk_all ((HBU.out.block _ lz).trans ((HB.out.block _ (blk_lt HK.out.1)).trans HK.out.1))
          go_upto_region 7 with fail
          have HB3 := Lib.hid (Below.then HBU.out (drew_below U))
          have HR3 := Lib.hid (HRU.out.below (drew_below U))
          have HBT3 := Lib.hid (Below.then HBT.out (drew_below U))
          have HRO := Lib.hid (fun q hq => (Kd.Row0.lt HR3.out q hq).1)
          have HSZ := Lib.hid (And.intro lz l3)
          have HN4 : Hid ((putS s p).pods.length ≤ 1000) := by
            show _ ≤ _
            rw [put_len]
            have : (dropS s p.name).pods.length ≤ s.pods.length := List.length_filter_le _ _
            omega
          go_region_held3 (fun w' => ∀ j, w'.cell? ⟨w.heap.size, j, none⟩ = #[.slice A1 s.nodes.length c1, .slice (some ⟨pb, off, none⟩) s.pods.length c2, .slice A3 s.budgets.length c3][j]?)
            (first | with_reducible exact z | with_reducible exact z3 | with_reducible exact z4 | with_reducible exact z5 | go_keep)
            (first
            | (refine Kd.step_piece (d := Kd.pod) _ w [] wc.heap.size 48 45 i0 _ 184 Tryz.underlying48 hi hz0 hz1 hz2 rfl (by decide) _ (s.pods.take k ++ [p]) (by exact HR3.out) (some ⟨pb, off + k * 11, none⟩) (s.pods.length - k) _ (s.pods.drop k) (by exact HPC.out) pod_ones (by simp only [maxLen, List.length_append, List.length_take, List.length_cons, List.length_nil]; omega) (by simp only [List.length_append, List.length_take, List.length_cons, List.length_nil]; omega) (by exact HB3.out.size) _ _ (by rfl) (by rfl) (by rfl) (by rfl) ?_
               intro v3 w3 hr3 hg3 _
               have HB9 := Lib.hid (Below.grown HB3.out hg3 HB3.out.size HRO.out)
               have hr4 : Kd.pod.Row0 w [] w3 wc.heap.size 45 v3 (putS s p).pods := by
                 rw [HEQ.out]
                 simpa using hr3
               have HR4 := Lib.hid hr4
               obtain ⟨css, a1, a2, a3⟩ := hr4
               obtain ⟨G, gc, rfl⟩ := Kd.row_form0 a3
               have z3 : ∀ j, w3.cell? ⟨w.heap.size, j, none⟩ = #[.slice A1 s.nodes.length c1, .slice (some ⟨pb, off, none⟩) s.pods.length c2, .slice A3 s.budgets.length c3][j]? := fun j => (HB9.out.cell (p := ⟨w.heap.size, j, none⟩) HSZ.out.1).trans ((HB3.out.cell (p := ⟨w.heap.size, j, none⟩) HSZ.out.1).symm.trans (z j))
               clear hr3 hg3 a1 a2 a3)
            | (go_at_call 169
               (with_reducible refine (RWith_calls A1 (some ⟨pb, off, none⟩) A3 G _ c1 _ _ _ c3 _ gc _).mono ?_)
               rintro e w4 ⟨rfl, hb⟩
               have HQ : Hid (w4.heap[w.heap.size + 1 + 1]? = some (.cells #[.slice none 0 0, .slice none 0 0, .slice none 0 0] 51 (0, 0))) := (hb.block _ (by have := HB9.out.size; have := HSZ.out.2; omega)).trans ((HB9.out.block _ HSZ.out.2).trans ((HB.out.block _ (blk_lt HK.out.2.2)).trans HK.out.2.2))
               have HR5 := Lib.hid (HR4.out.below hb)
               have HB5 := Lib.hid (Below.then HBX.out (Below.then HB9.out hb))
               have z4 : ∀ j, w4.cell? ⟨w.heap.size, j, none⟩ = #[.slice A1 s.nodes.length c1, .slice (some ⟨pb, off, none⟩) s.pods.length c2, .slice A3 s.budgets.length c3][j]? := fun j => (hb.cell (p := ⟨w.heap.size, j, none⟩) (Nat.lt_of_lt_of_le HSZ.out.1 HB9.out.size)).trans (z3 j)
               have z5 : ∀ j, (((w4.setCell ⟨w.heap.size + 1 + 1, 0, none⟩ (.slice A1 s.nodes.length c1)).setCell ⟨w.heap.size + 1 + 1, 1, none⟩ (.slice G (putS s p).pods.length gc)).setCell ⟨w.heap.size + 1 + 1, 2, none⟩ (.slice A3 s.budgets.length c3)).cell? ⟨w.heap.size, j, none⟩ = #[.slice A1 s.nodes.length c1, .slice (some ⟨pb, off, none⟩) s.pods.length c2, .slice A3 s.budgets.length c3][j]? := fun j => (World.cell?_of_block (a := ⟨w.heap.size, j, none⟩) (((Below.heap_setCell _ _ _ w.heap.size (by show w.heap.size ≠ w.heap.size + 1 + 1; omega)).trans (Below.heap_setCell _ _ _ w.heap.size (by show w.heap.size ≠ w.heap.size + 1 + 1; omega))).trans (Below.heap_setCell _ _ _ w.heap.size (by show w.heap.size ≠ w.heap.size + 1 + 1; omega)))).trans (z4 j)
               obtain ⟨q, qf⟩ := blk_all HQ.out
               clear hb z z3))
          go_wp2
          have l3' := HSZ.out.2
          have hbel := Below.setCell (Below.setCell (Below.setCell HB5.out (p := ⟨w.heap.size + 1 + 1, 0, none⟩) (by show w.heap.size ≤ w.heap.size + 1 + 1; omega) (.slice A1 s.nodes.length c1)) (p := ⟨w.heap.size + 1 + 1, 1, none⟩) (by show w.heap.size ≤ w.heap.size + 1 + 1; omega) (.slice G (putS s p).pods.length gc)) (p := ⟨w.heap.size + 1 + 1, 2, none⟩) (by show w.heap.size ≤ w.heap.size + 1 + 1; omega) (.slice A3 s.budgets.length c3)
          have hr6 := ((HR5.out.setCell (p := ⟨w.heap.size + 1 + 1, 0, none⟩) l3' (.slice A1 s.nodes.length c1)).setCell (p := ⟨w.heap.size + 1 + 1, 1, none⟩) l3' (.slice G (putS s p).pods.length gc)).setCell (p := ⟨w.heap.size + 1 + 1, 2, none⟩) l3' (.slice A3 s.budgets.length c3)
          exact ret_row1 (cs := [.slice A1 s.nodes.length c1, .slice G (putS s p).pods.length gc, .slice A3 s.budgets.length c3]) rfl rfl ((blk_set (blk_set (blk_set HQ.out _) _) _).trans rfl) Tryz.underlying51 rfl (by kernel_rfl) rfl ⟨_, rfl, ⟨A1, c1, G, gc, A3, c3, rfl, S1.out.mono (vw_below hbel), hr6.S hbel (by omega) (by simp) (by have := HN4.out; omega), S3.out.mono (vw_below hbel)⟩, hbel⟩
      · have HEQ : Hid ((putS s p).pods = s.pods.take k ++ p :: []) := (hps _ (put_fresh HUP.out hk HP.out HN.out (fun h => absurd h hlt))).trans (by rw [List.drop_eq_nil_of_le (by omega)])
        obtain rfl : k = s.pods.length := by omega
        have g0 : decide ((s.pods.length : Int) < (s.pods.length : Int)) = false := decide_eq_false (by omega)
        have g1 : decide (s.pods.length < s.pods.length) = false := decide_eq_false (by omega)
        clear hps
        go_upto_region 5 with fail
        go_quiet (fail)
        have HBU : Hid (Below wc.heap.size wc (W5.drewN nq)) := drewN_then HBN.out nq
        have HRU := Lib.hid (HROW.out.below (drewN_then (Below.refl W5.heap.size W5) nq))
        generalize W5.drewN nq = U at HBU HRU ⊢
        clear z zf y yf
        have HPC : Hid (∀ A, Kd.pod.Piece w [] U.drew A 0 []) := fun A => Kd.Piece.nil _ _ _ _ _
        by_cases hck : c2 = s.pods.length
        · have HBT := Lib.hid (Below.then HBX.out HBU.out)
          obtain ⟨z, zf⟩ := blk_all ((HBU.out.block _ lz).trans ((HB.out.block _ (blk_lt HK.out.1)).trans HK.out.1))
          go_upto_region 7 with fail
          have HB3 := Lib.hid (Below.then HBU.out (drew_below U))
          have HR3 := Lib.hid (HRU.out.below (drew_below U))
          have HBT3 := Lib.hid (Below.then HBT.out (drew_below U))
          have HRO := Lib.hid (fun q hq => (Kd.Row0.lt HR3.out q hq).1)
          have HSZ := Lib.hid (And.intro lz l3)
          have HN4 : Hid ((putS s p).pods.length ≤ 1000) := by
            show _ ≤ _
            rw [put_len]
            have : (dropS s p.name).pods.length ≤ s.pods.length := List.length_filter_le _ _
            omega
          go_region_held3 (fun w' => ∀ j, w'.cell? ⟨w.heap.size, j, none⟩ = #[.slice A1 s.nodes.length c1, .slice A2 s.pods.length c2, .slice A3 s.budgets.length c3][j]?)
            (first | with_reducible exact z | with_reducible exact z3 | with_reducible exact z4 | with_reducible exact z5 | go_keep)
            (first
            | (refine Kd.step_piece (d := Kd.pod) _ w [] wc.heap.size 48 45 i0 _ 184 Tryz.underlying48 hi hz0 hz1 hz2 rfl (by decide) _ (s.pods.take s.pods.length ++ [p]) (by exact HR3.out) _ 0 _ ([]) (HPC.out _) pod_ones (by simp only [maxLen, List.length_append, List.length_take, List.length_cons, List.length_nil]; omega) (by simp only [List.length_append, List.length_take, List.length_cons, List.length_nil]; omega) (by exact HB3.out.size) _ _ (by rfl) (by rfl) (by rfl) (by rfl) ?_
               intro v3 w3 hr3 hg3 _
               have HB9 := Lib.hid (Below.grown HB3.out hg3 HB3.out.size HRO.out)
               have hr4 : Kd.pod.Row0 w [] w3 wc.heap.size 45 v3 (putS s p).pods := by
                 rw [HEQ.out]
                 simpa using hr3
               have HR4 := Lib.hid hr4
               obtain ⟨css, a1, a2, a3⟩ := hr4
               obtain ⟨G, gc, rfl⟩ := Kd.row_form0 a3
               have z3 : ∀ j, w3.cell? ⟨w.heap.size, j, none⟩ = #[.slice A1 s.nodes.length c1, .slice A2 s.pods.length c2, .slice A3 s.budgets.length c3][j]? := fun j => (HB9.out.cell (p := ⟨w.heap.size, j, none⟩) HSZ.out.1).trans ((HB3.out.cell (p := ⟨w.heap.size, j, none⟩) HSZ.out.1).symm.trans (z j))
               clear hr3 hg3 a1 a2 a3)
            | (go_at_call 169
               (with_reducible refine (RWith_calls A1 A2 A3 G _ c1 _ _ _ c3 _ gc _).mono ?_)
               rintro e w4 ⟨rfl, hb⟩
               have HQ : Hid (w4.heap[w.heap.size + 1 + 1]? = some (.cells #[.slice none 0 0, .slice none 0 0, .slice none 0 0] 51 (0, 0))) := (hb.block _ (by have := HB9.out.size; have := HSZ.out.2; omega)).trans ((HB9.out.block _ HSZ.out.2).trans ((HB.out.block _ (blk_lt HK.out.2.2)).trans HK.out.2.2))
               have HR5 := Lib.hid (HR4.out.below hb)
               have HB5 := Lib.hid (Below.then HBX.out (Below.then HB9.out hb))
               have z4 : ∀ j, w4.cell? ⟨w.heap.size, j, none⟩ = #[.slice A1 s.nodes.length c1, .slice A2 s.pods.length c2, .slice A3 s.budgets.length c3][j]? := fun j => (hb.cell (p := ⟨w.heap.size, j, none⟩) (Nat.lt_of_lt_of_le HSZ.out.1 HB9.out.size)).trans (z3 j)
               have z5 : ∀ j, (((w4.setCell ⟨w.heap.size + 1 + 1, 0, none⟩ (.slice A1 s.nodes.length c1)).setCell ⟨w.heap.size + 1 + 1, 1, none⟩ (.slice G (putS s p).pods.length gc)).setCell ⟨w.heap.size + 1 + 1, 2, none⟩ (.slice A3 s.budgets.length c3)).cell? ⟨w.heap.size, j, none⟩ = #[.slice A1 s.nodes.length c1, .slice A2 s.pods.length c2, .slice A3 s.budgets.length c3][j]? := fun j => (World.cell?_of_block (a := ⟨w.heap.size, j, none⟩) (((Below.heap_setCell _ _ _ w.heap.size (by show w.heap.size ≠ w.heap.size + 1 + 1; omega)).trans (Below.heap_setCell _ _ _ w.heap.size (by show w.heap.size ≠ w.heap.size + 1 + 1; omega))).trans (Below.heap_setCell _ _ _ w.heap.size (by show w.heap.size ≠ w.heap.size + 1 + 1; omega)))).trans (z4 j)
               obtain ⟨q, qf⟩ := blk_all HQ.out
               clear hb z z3))
          go_wp2
          have l3' := HSZ.out.2
          have hbel := Below.setCell (Below.setCell (Below.setCell HB5.out (p := ⟨w.heap.size + 1 + 1, 0, none⟩) (by show w.heap.size ≤ w.heap.size + 1 + 1; omega) (.slice A1 s.nodes.length c1)) (p := ⟨w.heap.size + 1 + 1, 1, none⟩) (by show w.heap.size ≤ w.heap.size + 1 + 1; omega) (.slice G (putS s p).pods.length gc)) (p := ⟨w.heap.size + 1 + 1, 2, none⟩) (by show w.heap.size ≤ w.heap.size + 1 + 1; omega) (.slice A3 s.budgets.length c3)
          have hr6 := ((HR5.out.setCell (p := ⟨w.heap.size + 1 + 1, 0, none⟩) l3' (.slice A1 s.nodes.length c1)).setCell (p := ⟨w.heap.size + 1 + 1, 1, none⟩) l3' (.slice G (putS s p).pods.length gc)).setCell (p := ⟨w.heap.size + 1 + 1, 2, none⟩) l3' (.slice A3 s.budgets.length c3)
          exact ret_row1 (cs := [.slice A1 s.nodes.length c1, .slice G (putS s p).pods.length gc, .slice A3 s.budgets.length c3]) rfl rfl ((blk_set (blk_set (blk_set HQ.out _) _) _).trans rfl) Tryz.underlying51 rfl (by kernel_rfl) rfl ⟨_, rfl, ⟨A1, c1, G, gc, A3, c3, rfl, S1.out.mono (vw_below hbel), hr6.S hbel (by omega) (by simp) (by have := HN4.out; omega), S3.out.mono (vw_below hbel)⟩, hbel⟩
        · have HBT := Lib.hid (Below.then HBX.out HBU.out)
          obtain ⟨z, zf⟩ := blk_all ((HBU.out.block _ lz).trans ((HB.out.block _ (blk_lt HK.out.1)).trans HK.out.1))
          go_upto_region 7 with fail
          have HB3 := Lib.hid (Below.then HBU.out (drew_below U))
          have HR3 := Lib.hid (HRU.out.below (drew_below U))
          have HBT3 := Lib.hid (Below.then HBT.out (drew_below U))
          have HRO := Lib.hid (fun q hq => (Kd.Row0.lt HR3.out q hq).1)
          have HSZ := Lib.hid (And.intro lz l3)
          have HN4 : Hid ((putS s p).pods.length ≤ 1000) := by
            show _ ≤ _
            rw [put_len]
            have : (dropS s p.name).pods.length ≤ s.pods.length := List.length_filter_le _ _
            omega
          go_region_held3 (fun w' => ∀ j, w'.cell? ⟨w.heap.size, j, none⟩ = #[.slice A1 s.nodes.length c1, .slice A2 s.pods.length c2, .slice A3 s.budgets.length c3][j]?)
            (first | with_reducible exact z | with_reducible exact z3 | with_reducible exact z4 | with_reducible exact z5 | go_keep)
            (first
            | (refine Kd.step_piece (d := Kd.pod) _ w [] wc.heap.size 48 45 i0 _ 184 Tryz.underlying48 hi hz0 hz1 hz2 rfl (by decide) _ (s.pods.take s.pods.length ++ [p]) (by exact HR3.out) _ 0 _ ([]) (HPC.out _) pod_ones (by simp only [maxLen, List.length_append, List.length_take, List.length_cons, List.length_nil]; omega) (by simp only [List.length_append, List.length_take, List.length_cons, List.length_nil]; omega) (by exact HB3.out.size) _ _ (by rfl) (by rfl) (by rfl) (by rfl) ?_
               intro v3 w3 hr3 hg3 _
               have HB9 := Lib.hid (Below.grown HB3.out hg3 HB3.out.size HRO.out)
               have hr4 : Kd.pod.Row0 w [] w3 wc.heap.size 45 v3 (putS s p).pods := by
                 rw [HEQ.out]
                 simpa using hr3
               have HR4 := Lib.hid hr4
               obtain ⟨css, a1, a2, a3⟩ := hr4
               obtain ⟨G, gc, rfl⟩ := Kd.row_form0 a3
               have z3 : ∀ j, w3.cell? ⟨w.heap.size, j, none⟩ = #[.slice A1 s.nodes.length c1, .slice A2 s.pods.length c2, .slice A3 s.budgets.length c3][j]? := fun j => (HB9.out.cell (p := ⟨w.heap.size, j, none⟩) HSZ.out.1).trans ((HB3.out.cell (p := ⟨w.heap.size, j, none⟩) HSZ.out.1).symm.trans (z j))
               clear hr3 hg3 a1 a2 a3)
            | (go_at_call 169
               (with_reducible refine (RWith_calls A1 A2 A3 G _ c1 _ _ _ c3 _ gc _).mono ?_)
               rintro e w4 ⟨rfl, hb⟩
               have HQ : Hid (w4.heap[w.heap.size + 1 + 1]? = some (.cells #[.slice none 0 0, .slice none 0 0, .slice none 0 0] 51 (0, 0))) := (hb.block _ (by have := HB9.out.size; have := HSZ.out.2; omega)).trans ((HB9.out.block _ HSZ.out.2).trans ((HB.out.block _ (blk_lt HK.out.2.2)).trans HK.out.2.2))
               have HR5 := Lib.hid (HR4.out.below hb)
               have HB5 := Lib.hid (Below.then HBX.out (Below.then HB9.out hb))
               have z4 : ∀ j, w4.cell? ⟨w.heap.size, j, none⟩ = #[.slice A1 s.nodes.length c1, .slice A2 s.pods.length c2, .slice A3 s.budgets.length c3][j]? := fun j => (hb.cell (p := ⟨w.heap.size, j, none⟩) (Nat.lt_of_lt_of_le HSZ.out.1 HB9.out.size)).trans (z3 j)
               have z5 : ∀ j, (((w4.setCell ⟨w.heap.size + 1 + 1, 0, none⟩ (.slice A1 s.nodes.length c1)).setCell ⟨w.heap.size + 1 + 1, 1, none⟩ (.slice G (putS s p).pods.length gc)).setCell ⟨w.heap.size + 1 + 1, 2, none⟩ (.slice A3 s.budgets.length c3)).cell? ⟨w.heap.size, j, none⟩ = #[.slice A1 s.nodes.length c1, .slice A2 s.pods.length c2, .slice A3 s.budgets.length c3][j]? := fun j => (World.cell?_of_block (a := ⟨w.heap.size, j, none⟩) (((Below.heap_setCell _ _ _ w.heap.size (by show w.heap.size ≠ w.heap.size + 1 + 1; omega)).trans (Below.heap_setCell _ _ _ w.heap.size (by show w.heap.size ≠ w.heap.size + 1 + 1; omega))).trans (Below.heap_setCell _ _ _ w.heap.size (by show w.heap.size ≠ w.heap.size + 1 + 1; omega)))).trans (z4 j)
               obtain ⟨q, qf⟩ := blk_all HQ.out
               clear hb z z3))
          go_wp2
          have l3' := HSZ.out.2
          have hbel := Below.setCell (Below.setCell (Below.setCell HB5.out (p := ⟨w.heap.size + 1 + 1, 0, none⟩) (by show w.heap.size ≤ w.heap.size + 1 + 1; omega) (.slice A1 s.nodes.length c1)) (p := ⟨w.heap.size + 1 + 1, 1, none⟩) (by show w.heap.size ≤ w.heap.size + 1 + 1; omega) (.slice G (putS s p).pods.length gc)) (p := ⟨w.heap.size + 1 + 1, 2, none⟩) (by show w.heap.size ≤ w.heap.size + 1 + 1; omega) (.slice A3 s.budgets.length c3)
          have hr6 := ((HR5.out.setCell (p := ⟨w.heap.size + 1 + 1, 0, none⟩) l3' (.slice A1 s.nodes.length c1)).setCell (p := ⟨w.heap.size + 1 + 1, 1, none⟩) l3' (.slice G (putS s p).pods.length gc)).setCell (p := ⟨w.heap.size + 1 + 1, 2, none⟩) l3' (.slice A3 s.budgets.length c3)
          exact ret_row1 (cs := [.slice A1 s.nodes.length c1, .slice G (putS s p).pods.length gc, .slice A3 s.budgets.length c3]) rfl rfl ((blk_set (blk_set (blk_set HQ.out _) _) _).trans rfl) Tryz.underlying51 rfl (by kernel_rfl) rfl ⟨_, rfl, ⟨A1, c1, G, gc, A3, c3, rfl, S1.out.mono (vw_below hbel), hr6.S hbel (by omega) (by simp) (by have := HN4.out; omega), S3.out.mono (vw_below hbel)⟩, hbel⟩
end Go.Proofs.YtnmhicgbdalniaaGreatDoor
