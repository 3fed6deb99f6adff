import Derived.Test.YthjbhnogndgojaaDoorFrameF
import Derived.Laws.AppendOwnNone
namespace Go.Proofs.YthjbhnogndgojaaDoor
open Go.RowKit

theorem own_empty (w : World) (T : TypeId) : (w.alloc (.cells #[] T)).ownsRow w.heap.size T 1 (.slice (some ⟨w.heap.size, 0, none⟩) 0 0) 0 [] :=
  ⟨rfl, .inr ⟨w.heap.size, 0, #[], rfl, Nat.le_refl _, blk_last _ _, Nat.le_refl _, by simp [maxLen], rfl, rfl⟩⟩

set_option maxHeartbeats 2000000 in
set_option maxRecDepth 100000 in
theorem rPut_calls (v : Value) (b : List UInt8) (t : ByteArray) (w : World) (hs : Kd.u8.S (vw w []) v b) (hb : b.length ≤ 16777216) (ht : t.size ≤ 140737488351232) :
    Calls Tryd.prog 17 #[v, .string t] w fun e w' => ∃ sv, e = .returned (.tuple #[sv, .int .i64 (putV b t.data.toList).2]) ∧ w'.ownsRow w.heap.size 5 1 sv (putV b t.data.toList).1.length (u8V (putV b t.data.toList).1) ∧ Below w.heap.size w w' := by
  obtain ⟨i0, hi, hz0, hz1, hz2⟩ := info_parts info_u8
  have hl : t.data.toList.length = t.size := by rw [Array.length_toList]; rfl
  obtain ⟨A, cap, rfl, hcap, hlen, hnil, hcell⟩ := id hs
  clear hcell hnil
  have HS := Lib.hid hs
  clear hs
  have HE := fun w => Lib.hid (own_empty w 5)
  have hnews : ∀ (w1 : World) (ad : Addr), A = some ad → Below w.heap.size w w1 → ∀ (j : Nat) (u : Value), (u8V b)[j]? = some u → w1.cell? (ad.add j) = some u := by
    rintro w1 ad rfl hb1
    exact (HS.out.mono (vw_below hb1)).news
  have HN := Lib.hid hnews
  clear hnews
  have hone : ∀ u ∈ u8V b, u.oneCell' = true := by
    intro u hu
    obtain ⟨c, _, rfl⟩ := List.mem_map.1 hu
    rfl
  have H1 := Lib.hid hone
  clear hone
  by_cases hc : 4096 < t.size
  · have hp : putV b t.data.toList = (b, 4) := by unfold putV; rw [hl, if_pos hc]
    rw [hp]
    clear hp hl
    cases A with
    | none =>
      obtain ⟨rfl, rfl⟩ := HS.out.cap_none
      go_enter Tryd.func17, Tryd.ntmps17
      go_wp2_with (at_builtin; refine wpList_append_own_none rfl _ _ 22 rfl w.heap.size 5 i0 1 Tryd.underlying22 hi _ 0 [] rfl (HE w).out rfl ?_)
      go_wp2
      go_ret2
      exact ⟨_, rfl, (HE w).out, (Below.refl _ _).alloc (Nat.le_refl _) _⟩
    | some ad =>
      go_enter Tryd.func17, Tryd.ntmps17
      go_wp2_with (at_builtin; go_must (refine wpList_append_own _ rfl _ _ 22 rfl w.heap.size 5 i0 (.int .u8 0) 1 1 Tryd.underlying22 hi hz0 hz1 hz2 rfl (by decide) _ 0 [] rfl (HE w).out ad b.length cap (u8V b) rfl ?c1 ?c2 ?c3 ?c4 ?c5 ?c6 ?_))
      · simp [u8V]
      · exact HN.out _ ad rfl ((Below.refl _ _).alloc (Nat.le_refl _) _)
      · exact H1.out
      · simp only [maxLen]; omega
      · omega
      · simp
      intro v' w2 hown' hgrow _
      have HO2 := Lib.hid hown'
      have HB2 := Lib.hid (((Below.refl _ _).alloc (Nat.le_refl _) _).grown hgrow (by simp) (fun q hq => ((HE w).out.lt q hq).1))
      clear hown' hgrow
      go_wp2
      go_ret2
      exact ⟨_, rfl, own_congr HO2.out (by simp) (by simp), HB2.out⟩
  · have hp : putV b t.data.toList = (b ++ frm t.data.toList, 0) := by unfold putV; rw [hl, if_neg hc]
    rw [hp]
    clear hp
    have hf : frm t.data.toList = Lib.decDigits t.size ++ [58] ++ (t.data.toList ++ [59]) := by
      unfold frm Lib.itoa; rw [hl, if_neg (by omega)]; simp
    have HF := Lib.hid hf
    have hi1 := Lib.itoa_length_le t.size (by omega) (by omega)
    have hi2 : (Lib.decDigits t.size).length ≤ 21 := by
      unfold Lib.itoa at hi1; rw [if_neg (by omega)] at hi1; simpa using hi1
    clear hf hi1
    have hbs := bs_size
    cases A with
    | none =>
      obtain ⟨rfl, rfl⟩ := HS.out.cap_none
      go_enter Tryd.func17, Tryd.ntmps17
      go_wp2_with (at_builtin; refine wpList_append_own_none rfl _ _ 22 rfl w.heap.size 5 i0 1 Tryd.underlying22 hi _ 0 [] rfl (HE w).out rfl ?_)
      go_wp2_with fail
      refine (Decimal_calls t.size _ (by omega)).mono ?_
      rintro e w3 ⟨rfl, hB⟩
      have HB3 := Lib.hid (((Below.refl w.heap.size w).alloc (Nat.le_refl _) (.cells #[] 5)).trans (hB.mono (by have := ((Below.refl w.heap.size w).alloc (Nat.le_refl _) (.cells #[] 5)).size; simp at *; try omega)))
      have HO3 := Lib.hid (own_below (HE w).out hB)
      have hz3 := HB3.out.size
      clear hB
      have hsz : (bs (Lib.decDigits t.size)).size = (Lib.decDigits t.size).length := bs_size _
      have hTS : (bs (Lib.decDigits t.size) ++ ⟨#[58]⟩ ++ t ++ ⟨#[59]⟩ : ByteArray).size = (Lib.decDigits t.size).length + 1 + t.size + 1 := by
        rw [ByteArray.size_append, ByteArray.size_append, ByteArray.size_append, hsz]; rfl
      have HTS := Lib.hid hTS
      clear hTS
      go_wp2_with (at_builtin; go_must (refine Lib.wpList_append_own_string _ rfl _ _ 22 9 rfl w.heap.size 5 i0 Tryd.underlying22 Tryd.underlying9 hi hz0 hz1 hz2 _ _ _ rfl HO3.out (bs (Lib.decDigits t.size) ++ ⟨#[58]⟩ ++ t ++ ⟨#[59]⟩) rfl ?d1 ?d2 ?d3 ?_))
      · have := HTS.out; (try simp only [maxLen, List.length_nil] at *); omega
      · have := HTS.out; (try simp only [List.length_nil] at *); omega
      · omega
      intro v4 w4 hown4 hgrow _
      have HO4 := Lib.hid hown4
      have HB4 := Lib.hid (HB3.out.grown hgrow hz3 (fun q hq => (HO3.out.lt q hq).1))
      clear hown4 hgrow HO3
      go_wp2
      go_ret2
      refine ⟨_, rfl, ?_, HB4.out⟩
      refine own_congr HO4.out ?_ ?_
      · rw [HF.out]; simp only [List.length_append, List.length_cons, List.length_nil, hl, hsz]; omega
      · rw [HF.out, strCells_u8]; simp [u8V, bs]
    | some ad =>
      go_enter Tryd.func17, Tryd.ntmps17
      go_wp2_with (at_builtin; go_must (refine wpList_append_own _ rfl _ _ 22 rfl w.heap.size 5 i0 (.int .u8 0) 1 1 Tryd.underlying22 hi hz0 hz1 hz2 rfl (by decide) _ 0 [] rfl (HE w).out ad b.length cap (u8V b) rfl ?e1 ?e2 ?e3 ?e4 ?e5 ?e6 ?_))
      · simp [u8V]
      · exact HN.out _ ad rfl ((Below.refl _ _).alloc (Nat.le_refl _) _)
      · exact H1.out
      · simp only [maxLen]; omega
      · omega
      · simp
      intro v' w2 hown' hgrow _
      have HO2 := Lib.hid hown'
      have HB2 := Lib.hid (((Below.refl _ _).alloc (Nat.le_refl _) _).grown hgrow (by simp) (fun q hq => ((HE w).out.lt q hq).1))
      clear hown' hgrow
      go_wp2_with fail
      refine (Decimal_calls t.size _ (by omega)).mono ?_
      rintro e w3 ⟨rfl, hB⟩
      have HB3 := Lib.hid ((HB2.out).trans (hB.mono (by have := (HB2.out).size; simp at *; try omega)))
      have HO3 := Lib.hid (own_below HO2.out hB)
      have hz3 := HB3.out.size
      clear hB
      have hsz : (bs (Lib.decDigits t.size)).size = (Lib.decDigits t.size).length := bs_size _
      have hTS : (bs (Lib.decDigits t.size) ++ ⟨#[58]⟩ ++ t ++ ⟨#[59]⟩ : ByteArray).size = (Lib.decDigits t.size).length + 1 + t.size + 1 := by
        rw [ByteArray.size_append, ByteArray.size_append, ByteArray.size_append, hsz]; rfl
      have HTS := Lib.hid hTS
      clear hTS
      go_wp2_with (at_builtin; go_must (refine Lib.wpList_append_own_string _ rfl _ _ 22 9 rfl w.heap.size 5 i0 Tryd.underlying22 Tryd.underlying9 hi hz0 hz1 hz2 _ _ _ rfl HO3.out (bs (Lib.decDigits t.size) ++ ⟨#[58]⟩ ++ t ++ ⟨#[59]⟩) rfl ?g1 ?g2 ?g3 ?_))
      · have := HTS.out; (try simp only [maxLen, List.length_nil] at *); omega
      · have := HTS.out; (try simp only [List.length_nil] at *); omega
      · omega
      intro v4 w4 hown4 hgrow _
      have HO4 := Lib.hid hown4
      have HB4 := Lib.hid (HB3.out.grown hgrow hz3 (fun q hq => (HO3.out.lt q hq).1))
      clear hown4 hgrow HO3
      go_wp2
      go_ret2
      refine ⟨_, rfl, ?_, HB4.out⟩
      refine own_congr HO4.out ?_ ?_
      · rw [HF.out]; simp only [List.length_append, List.length_cons, List.length_nil, hl, hsz]; omega
      · rw [HF.out, strCells_u8]; simp [u8V, bs]
end Go.Proofs.YthjbhnogndgojaaDoor
