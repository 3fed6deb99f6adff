import Derived.Test.YthjbhnogndgojaaDoorFrameD
import Derived.Test.YthjbhnogndgojaaDoorFrameG
namespace Go.Proofs.YthjbhnogndgojaaDoor
open Go.RowKit

theorem rNext_below (v : Value) (b : List UInt8) (w : World) (hs : Kd.u8.S (vw w []) v b) :
    Calls Tryd.prog 13 #[v] w fun e w' => e = .returned (.tuple #[.string (bs (nextV b).1), .int .i64 (nextV b).2.1, .int .i64 (nextV b).2.2]) ∧ Below w.heap.size w w' :=
  (rNext_calls v b w hs).mono fun _ _ h => ⟨h.1, h.2 ▸ Below.refl _ _⟩

set_option maxHeartbeats 1000000 in
set_option maxRecDepth 100000 in
theorem rAll_calls (v : Value) (b : List UInt8) (w : World) (hs : Kd.u8.S (vw w []) v b) (hb : b.length ≤ 16777216) :
    Calls Tryd.prog 15 #[v] w fun e w' => ∃ sv, e = .returned (.tuple #[sv, .int .i64 (allV b).2]) ∧ w'.ownsRow w.heap.size 9 1 sv (allV b).1.length (strsV (allV b).1) ∧ Below w.heap.size w w' := by
  obtain ⟨i0, hi, hz0, hz1, hz2⟩ := info_parts info_string
  obtain ⟨A, cap, rfl, hcap, hlen, hnil, hcell⟩ := id hs
  clear hcell hnil
  have HS := Lib.hid hs
  clear hs
  go_enter Tryd.func15, Tryd.ntmps15
  go_wp2
  go_loopw [4, 5] (fun o i wr => ∃ (k : Nat) (ts : List (List UInt8)), k ≤ b.length ∧ i = .int .i64 k ∧ Hid (ts.length ≤ k) ∧ Hid (wr.ownsRow w.heap.size 9 1 o ts.length (strsV ts)) ∧ Hid (Below w.heap.size w wr) ∧ Hid (allV b = (ts ++ (allV (b.drop k)).1, k + (allV (b.drop k)).2))) (fun _ i _ => b.length - (intOf i).toNat)
  case atStart => exact ⟨0, [], Nat.zero_le _, rfl, Nat.le_refl _, World.ownsRow_nil _ _ _ _, Below.refl _ _, by show allV b = _; simp⟩
  case round =>
    obtain ⟨k, ts, hk, rfl, HT, HO, HB, HA⟩ := hrel
    have hS := HS.out.mono (vw_below HB.out)
    have HL1 := Lib.hid (hS.low rfl k hk)
    have HL2 := Lib.hid (fun e => hS.low_cap k e hk)
    clear hS
    rcases Classical.em (k = cap) with hck | hck
    · subst hck
      have hkl : k = b.length := by omega
      have hA2 := HA.out
      have hnil : nextV [] = ([], 0, 7) := rfl
      rw [List.drop_eq_nil_of_le (by omega), allV_nil (b := []) (by rw [hnil]; decide), List.append_nil, Nat.add_zero] at hA2
      have HA2 := Lib.hid hA2
      clear hA2 HA HL1 HL2 hkl
      go_wp2_with fail
      refine (rNext_below _ [] _ (Kd.S.empty _ _ _ _ (fun _ => rfl))).mono ?_
      rintro e w1 ⟨rfl, hB1⟩
      have HO1 := Lib.hid (own_below HO.out hB1)
      have HB1 := Lib.hid (HB.out.trans (hB1.mono HB.out.size))
      clear hB1 HO
      rw [hnil]
      simp only
      clear hnil
      go_wp2
      go_ret2
      rw [HA2.out]
      exact ⟨_, rfl, HO1.out, HB1.out⟩
    · have hck' : ¬ cap = k := fun e => hck e.symm
      clear hck
      go_wp2_with fail
      refine (rNext_below _ (b.drop k) _ HL1.out).mono ?_
      rintro e w1 ⟨rfl, hB1⟩
      have HO1 := Lib.hid (own_below HO.out hB1)
      have HB1 := Lib.hid (HB.out.trans (hB1.mono HB.out.size))
      clear hB1 HO HL1 HL2
      simp only
      by_cases hx : (nextV (b.drop k)).2.2 = 0
      · have hl := nextV_len _ hx
        have hA2 := HA.out
        rw [allV_cons hx, List.drop_drop] at hA2
        obtain ⟨t, m, x, hv⟩ : ∃ t m x, nextV (b.drop k) = (t, m, x) := ⟨_, _, _, rfl⟩
        rw [hv] at hA2 hl hx
        simp only at hA2 hl hx
        subst hx
        rw [List.length_drop] at hl
        have HA2 := Lib.hid hA2
        have l1 := hl.1
        have l2 : k + m ≤ b.length := by omega
        have hT := HT.out
        have hsz1 := HB1.out.size
        clear hA2 hl HA
        go_wp2_with (at_builtin; refine wpList_append_own _ rfl _ _ 29 rfl w.heap.size 9 i0 (.string ⟨#[]⟩) 1 16 Tryd.underlying29 hi hz0 hz1 hz2 rfl (by decide) _ _ _ rfl (HO1.out.alloc _) ⟨w1.heap.size, 0, none⟩ 1 1 [.string (bs t)] rfl rfl ?c1 ?c2 ?c3 ?c4 ?c5 ?_)
        · exact one_new _ _ _
        · simp [Value.oneCell']
        · simp only [maxLen]; omega
        · omega
        · simp; omega
        intro v' w2 hown' hgrow _
        have HO2 : Hid (w2.ownsRow w.heap.size 9 1 v' (ts ++ [t]).length (strsV (ts ++ [t]))) := by
          show World.ownsRow _ _ _ _ _ _ _
          rw [List.length_append, strsV, List.map_append]; exact hown'
        have HB2 := Lib.hid ((HB1.out.alloc hsz1 _).grown hgrow (by simp; omega) (fun q hq => (HO1.out.lt q hq).1))
        clear hown' hgrow
        go_wp2
        go_roundw
        case rel => exact ⟨k + m, ts ++ [t], l2, by go_num, by show (ts ++ [t]).length ≤ _; simp; omega, HO2, HB2.out, by rw [List.append_assoc, HA2.out, Nat.add_assoc]; rfl⟩
        case measure => simp [intOf]; omega
      · have hA2 := HA.out
        rw [allV_nil hx, List.append_nil, Nat.add_zero] at hA2
        have HA2 := Lib.hid hA2
        have hxb : ((nextV (b.drop k)).2.2 != 0) = true := by simpa using hx
        clear hx hA2 HA
        go_wp2
        go_ret2
        rw [HA2.out]
        exact ⟨_, rfl, HO1.out, HB1.out⟩
end Go.Proofs.YthjbhnogndgojaaDoor
