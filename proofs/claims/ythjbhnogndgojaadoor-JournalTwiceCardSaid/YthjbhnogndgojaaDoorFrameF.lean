import Derived.Test.YthjbhnogndgojaaDoorFrameE
import Derived.Lib.AppendStr
import Derived.Lib.ItoaLen
namespace Go.Proofs.YthjbhnogndgojaaDoor
open Go.RowKit

/-- The table that strconv reads lies where it lay. -/
def Tab (B : Nat) (w : World) : Prop := Lib.TabBelow Tryd.prog B w "internal/strconv.uint64pow10" .u64 Lib.pow10Tab
theorem Tab.below {B B' : Nat} {w w' : World} (h : Tab B w) (hb : Below B' w w') (hB : B ≤ B') : Tab B' w' := fun w2 h2 => h w2 ((hb.trans h2).mono hB)

theorem u8V_append (a b : List UInt8) : u8V (a ++ b) = u8V a ++ u8V b := by simp [u8V]
theorem strCells_u8 (s : ByteArray) : Lib.strCells s = u8V s.data.toList := rfl
theorem byteCells_u8 (l : List UInt8) : Lib.byteCells l = u8V l := rfl

set_option maxHeartbeats 2000000 in
set_option maxRecDepth 100000 in
theorem Put_calls (B : Nat) (v : Value) (b : List UInt8) (t : ByteArray) (w : World) (hs : Kd.u8.S (vw w []) v b) (hb : b.length ≤ 16777216) (ht : t.size ≤ 140737488351232) (hB : B ≤ w.heap.size) (htab : Tab B w) :
    Calls Tryd.prog 16 #[v, .string t] w fun e w' => ∃ sv, e = .returned (.tuple #[sv, .int .i64 (putV b t.data.toList).2]) ∧ w'.ownsRow w.heap.size 5 1 sv (putV b t.data.toList).1.length (u8V (putV b t.data.toList).1) ∧ Below w.heap.size w w' := by
  obtain ⟨i0, hi, hz0, hz1, hz2⟩ := info_parts info_u8
  have HT := Lib.hid htab
  have HS := Lib.hid hs
  have hl : t.data.toList.length = t.size := by rw [Array.length_toList]; rfl
  clear hs htab
  by_cases hc : 4096 < t.size
  · have hp : putV b t.data.toList = (b, 4) := by unfold putV; rw [hl, if_pos hc]
    rw [hp]
    clear hp hl
    go_enter Tryd.func16, Tryd.ntmps16
    go_wp2_with fail
    refine (clone_u8 _ b _ HS.out).mono ?_
    rintro e w1 ⟨sv, rfl, hO, hB1⟩
    have HO := Lib.hid hO
    have HB1 := Lib.hid hB1
    clear hO hB1
    go_wp2
    go_ret2
    exact ⟨_, rfl, HO.out, HB1.out⟩
  · have hp : putV b t.data.toList = (b ++ frm t.data.toList, 0) := by unfold putV; rw [hl, if_neg hc]
    rw [hp]
    clear hp
    have hf : frm t.data.toList = Lib.itoa t.size ++ [58] ++ (t.data.toList ++ [59]) := by unfold frm; rw [hl]; simp
    have HF := Lib.hid hf
    have hi1 := Lib.itoa_length_le t.size (by omega) (by omega)
    clear hf
    go_enter Tryd.func16, Tryd.ntmps16
    go_wp2_with fail
    refine (clone_u8 _ b _ HS.out).mono ?_
    rintro e w1 ⟨sv, rfl, hO, hB1⟩
    have HO := Lib.hid hO
    have HB1 := Lib.hid hB1
    have hz1' := hB1.size
    clear hO hB1
    go_wp2_with fail
    refine (Tryd.strconv_AppendInt_10 w.heap.size b.length t.size (by omega) (by omega) _ (u8V b) _ HO.out hz1' (by omega) (HT.out.below HB1.out hB)).mono ?_
    rintro e w2 ⟨sv2, rfl, hO2, hB2, -⟩
    have HO2 := Lib.hid hO2
    have HB2 := Lib.hid (HB1.out.trans hB2)
    have hz2' := (HB1.out.trans hB2).size
    clear hO2 hB2 HO
    go_wp2_with (at_builtin; refine wpList_append_own _ rfl _ _ 22 rfl w.heap.size 5 i0 (.int .u8 0) 1 1 Tryd.underlying22 hi hz0 hz1 hz2 rfl (by decide) _ _ _ rfl (HO2.out.alloc _) ⟨w2.heap.size, 0, none⟩ 1 1 [.int .u8 58] rfl rfl ?c1 ?c2 ?c3 ?c4 ?c5 ?_)
    · exact one_new _ _ _
    · intro u hu; simp at hu; subst hu; rfl
    · simp only [maxLen]; omega
    · omega
    · simp; omega
    intro v3 w3 hown3 hgrow _
    have HO3 := Lib.hid hown3
    have HB3 := Lib.hid ((HB2.out.alloc hz2' _).grown hgrow (by simp; omega) (fun q hq => (HO2.out.lt q hq).1))
    have hz3' := HB3.out.size
    clear hown3 hgrow HO2
    have hts : (t ++ ⟨#[59]⟩ : ByteArray).size = t.size + 1 := by rw [ByteArray.size_append]; rfl
    have HTS := Lib.hid hts
    clear hts
    go_wp2_with (at_builtin; go_must (refine Lib.wpList_append_own_string _ rfl _ _ 22 9 rfl w.heap.size 5 i0 Tryd.underlying22 Tryd.underlying9 hi hz0 hz1 hz2 _ _ _ rfl HO3.out (t ++ ⟨#[59]⟩) rfl ?d1 ?d2 ?d3 ?_))
    · have := HTS.out; simp only [maxLen]; omega
    · have := HTS.out; omega
    · omega
    intro v4 w4 hown4 hgrow _
    have HO4 := Lib.hid hown4
    have HB4 := Lib.hid (HB3.out.grown hgrow hz3' (fun q hq => (HO3.out.lt q hq).1))
    clear hown4 hgrow HO3
    go_wp2
    go_ret2
    refine ⟨_, rfl, ?_, HB4.out⟩
    refine own_congr HO4.out ?_ ?_
    · rw [HF.out]; simp [hl]; omega
    · rw [HF.out, byteCells_u8, strCells_u8]; simp [u8V]
end Go.Proofs.YthjbhnogndgojaaDoor
