import Derived.Test.YtnmhicgbdalniaaGreatDoorShelf
import Derived.Test.YtnmhicgbdalniaaGreatDoorMs8
import Derived.Deep.QuietTactic
import Derived.BigQuiet
namespace Go.Proofs.YtnmhicgbdalniaaGreatDoor
open Go.RowKit

set_option maxHeartbeats 2000000 in
set_option maxRecDepth 100000 in
theorem FindNode_calls (v : Value) (l : List Nd) (key : ByteArray) (w : World) (hs : Kd.node.S (vw w []) v l) :
    Calls Tryz.prog 129 #[v, .string key] w (FindDone l key w) := by
  obtain ⟨A, cap, rfl, hs⟩ := hs.val
  obtain ⟨_, hcap, hlen⟩ := hs.form
  have HS := Lib.hid hs
  have hB := alloc_below w (.cells #[.string ⟨#[]⟩, .slice none 0 0, .slice none 0 0, .slice none 0 0, .bool false] 150)
  have HB := Lib.hid hB
  have HR0 := Lib.hid (blk_last w (.cells #[.string ⟨#[]⟩, .slice none 0 0, .slice none 0 0, .slice none 0 0, .bool false] 150))
  clear hs hB
  go_enter Tryz.func129, Tryz.ntmps129
  go_wp2
  generalize hW : w.alloc (.cells #[.string ⟨#[]⟩, .slice none 0 0, .slice none 0 0, .slice none 0 0, .bool false] 150) = W at HB HR0 ⊢
  clear hW
  obtain ⟨z1, z2⟩ := blk_all HR0.out
  go_loop [6] (fun i => ∃ k : Nat, k ≤ l.length ∧ i = .int .i64 k ∧ Hid (findV (l.drop k) key = findV l key)) (fun i => l.length - (intOf i).toNat)
  case atStart => exact ⟨0, Nat.zero_le _, rfl, rfl⟩
  case round =>
    obtain ⟨k, hk, rfl, HG⟩ := hrel
    by_cases hlt : k < l.length
    · obtain ⟨b, off, cs, rfl, hn, hc⟩ := HS.out.both HB.out k hlt
      have HN := Lib.hid hn
      obtain ⟨A1, d1, A2, d2, A3, d3, rfl, -⟩ := hn
      have hg := HG.out
      rw [findV_at hlt] at hg
      have HG2 := Lib.hid hg
      have HC : Hid (W.rangeAt b (off + k * 5) _) := hc
      have c0 : W.cell? ⟨b, off + k * 5, none⟩ = some (.string l[k].name) := hc 0 _ rfl
      clear hg hc HG
      by_cases he : l[k].name = key
      · have hb := str_beq he
        have hr := HG2.out
        rw [if_pos he] at hr
        have HR := Lib.hid hr
        clear he hr
        go_wp2_with (with_reducible refine wpList_load_mid rfl 150 _ rfl b (off + k * 5) rfl _ _ HC.out Tryz.underlying150 rfl (by kernel_rfl) ?_)
        have hbl := Below.setCell (Below.setCell (Below.setCell (Below.setCell (Below.setCell HB.out (p := ⟨w.heap.size, 0, none⟩) (Nat.le_refl _) (.string l[k].name)) (p := ⟨w.heap.size, 1, none⟩) (Nat.le_refl _) (.slice A1 l[k].cap.length d1)) (p := ⟨w.heap.size, 2, none⟩) (Nat.le_refl _) (.slice A2 l[k].labels.length d2)) (p := ⟨w.heap.size, 3, none⟩) (Nat.le_refl _) (.slice A3 l[k].taints.length d3)) (p := ⟨w.heap.size, 4, none⟩) (Nat.le_refl _) (.bool l[k].cordon)
        have hx := Kd.node.mono (vw_below hbl) HN.out
        refine ret_row2 (cs := [.string l[k].name, .slice A1 l[k].cap.length d1, .slice A2 l[k].labels.length d2, .slice A3 l[k].taints.length d3, .bool l[k].cordon]) rfl rfl
          ((blk_set (blk_set (blk_set (blk_set (blk_set HR0.out _) _) _) _) _).trans rfl) Tryz.underlying150 rfl (by kernel_rfl) rfl
          ⟨[.string l[k].name, .slice A1 l[k].cap.length d1, .slice A2 l[k].labels.length d2, .slice A3 l[k].taints.length d3, .bool l[k].cordon], ?_, ?_, hbl⟩
        · rw [← HR.out]; rfl
        · rw [← HR.out]; exact hx
      · have hb := str_nbeq he
        have hr := HG2.out
        rw [if_neg he] at hr
        have HR := Lib.hid hr
        clear he hr
        go_wp2
        go_round
        case rel => exact ⟨k + 1, by omega, by go_num, HR.out⟩
        case measure => simp [intOf]; omega
    · obtain rfl : k = l.length := by omega
      have hr := HG.out
      rw [List.drop_length] at hr
      have HR := Lib.hid hr
      clear hr
      go_wp2
      have hbl := Below.setCell (Below.setCell (Below.setCell (Below.setCell (Below.setCell HB.out (p := ⟨w.heap.size, 0, none⟩) (Nat.le_refl _) (.string ⟨#[]⟩)) (p := ⟨w.heap.size, 1, none⟩) (Nat.le_refl _) (.slice none 0 0)) (p := ⟨w.heap.size, 2, none⟩) (Nat.le_refl _) (.slice none 0 0)) (p := ⟨w.heap.size, 3, none⟩) (Nat.le_refl _) (.slice none 0 0)) (p := ⟨w.heap.size, 4, none⟩) (Nat.le_refl _) (.bool false)
      refine ret_row2 (cs := [.string ⟨#[]⟩, .slice none 0 0, .slice none 0 0, .slice none 0 0, .bool false]) rfl rfl
        ((blk_set (blk_set (blk_set (blk_set (blk_set HR0.out _) _) _) _) _).trans rfl) Tryz.underlying150 rfl (by kernel_rfl) rfl
        ⟨[.string ⟨#[]⟩, .slice none 0 0, .slice none 0 0, .slice none 0 0, .bool false], ?_, ?_, hbl⟩
      · rw [← HR.out]; rfl
      · rw [← HR.out]; exact K_zNd _

theorem find_none : ∀ {l : List Nd} {k : ByteArray}, (findV l k).2 = false → (findV l k).1 = zNd
  | [], _, _ => rfl
  | n :: r, k, h => by
    unfold findV at *
    by_cases e : n.name = k
    · rw [if_pos e] at h; cases h
    · rw [if_neg e] at h ⊢; exact find_none h
/-- A node's value of a label. -/
def domV (s : St) (name key : ByteArray) : ByteArray × Bool := getV (findV s.nodes name).1.labels key
def DomDone (s : St) (name key : ByteArray) (w : World) (e : Ending) (w' : World) : Prop :=
  Below w.heap.size w w' ∧ (((domV s name key).2 = true ∧ e = .returned (.string (domV s name key).1)) ∨ ((domV s name key).2 = false ∧ e = .panicked [{ v := stopV 10, recovered := false }]))
set_option maxHeartbeats 2000000 in
set_option maxRecDepth 100000 in
theorem domain_calls (v : Value) (s : St) (name key : ByteArray) (w : World) (hv : Kd.state.V (vw w []) v s) :
    Calls Tryz.prog 177 #[v, .string name, .string key] w (DomDone s name key w) := by
  obtain ⟨cs, rfl, A1, c1, A2, c2, A3, c3, rfl, s1, s2, s3⟩ := hv
  have S1 := Lib.hid s1
  clear s1 s2 s3
  go_enter Tryz.func177, Tryz.ntmps177
  go_wp2_with fail
  refine (Find_calls _ s.nodes name _ (S1.out.mono (vw_alloc _))).mono ?_
  rintro e w1 ⟨cs, rfl, hk, hb⟩
  obtain ⟨B1, d1, B2, d2, B3, d3, rfl, -, -, t2, -⟩ := hk
  have HB := Lib.hid (Below.then (alloc_below _ _) hb)
  have T2 := Lib.hid t2
  clear hb t2
  go_wp2_with fail
  refine (Get_calls _ (findV s.nodes name).1.labels key _ (T2.out.mono (vw_alloc _))).mono ?_
  rintro e w2 ⟨rfl, hb⟩
  have HB2 := Lib.hid (Below.then (Below.then HB.out (alloc_below _ _)) hb)
  clear hb
  obtain ⟨d, ok, hd⟩ : ∃ d ok, getV (findV s.nodes name).1.labels key = (d, ok) := ⟨_, _, rfl⟩
  have hdom : domV s name key = (d, ok) := hd
  have HD := Lib.hid hdom
  rw [hd]
  clear hd hdom
  simp only
  cases ok with
  | true =>
    go_wp2
    go_ret
    exact ⟨HB2.out, .inl ⟨by rw [HD.out], by rw [HD.out]; rfl⟩⟩
  | false =>
    go_wp2_with (go_at_call 151; refine (stop_bad _ _ (by omega)).mono ?_; rintro e w' ⟨rfl, rfl⟩)
    exact ⟨rfl, HB2.out, .inr ⟨by rw [HD.out], rfl⟩⟩
end Go.Proofs.YtnmhicgbdalniaaGreatDoor
namespace Go.Proofs.YtnmhicgbdalniaaGreatDoor
open Go.RowKit

/-! cmp.Or of two numbers. -/
end Go.Proofs.YtnmhicgbdalniaaGreatDoor
namespace Go.Proofs.YtnmhicgbdalniaaGreatDoor
open Go.RowKit

/-! Several blocks, one behind the other. -/
theorem al2 (w : World) (a b : Obj) : ∃ W : World, W = ((w.alloc a).alloc b) ∧ Below w.heap.size w W ∧ W.heap[w.heap.size]? = some a ∧ W.heap[w.heap.size + 1]? = some b ∧ W.heap.size = w.heap.size + 2 := by
  refine ⟨_, rfl, Below.then (alloc_below _ _) (alloc_below _ _), ?_, ?_, ?_⟩
  all_goals first | (simp only [heap_alloc, Array.size_push]; done) | (simp only [heap_alloc, Array.getElem?_push, Array.size_push]; repeat (first | rw [if_pos trivial] | rw [if_pos (by omega)] | rw [if_neg (by omega)]))
theorem al3 (w : World) (a b c : Obj) : ∃ W : World, W = (((w.alloc a).alloc b).alloc c) ∧ Below w.heap.size w W ∧ W.heap[w.heap.size]? = some a ∧ W.heap[w.heap.size + 1]? = some b ∧ W.heap[w.heap.size + 1 + 1]? = some c ∧ W.heap.size = w.heap.size + 3 := by
  refine ⟨_, rfl, Below.then (Below.then (alloc_below _ _) (alloc_below _ _)) (alloc_below _ _), ?_, ?_, ?_, ?_⟩
  all_goals first | (simp only [heap_alloc, Array.size_push]; done) | (simp only [heap_alloc, Array.getElem?_push, Array.size_push]; repeat (first | rw [if_pos trivial] | rw [if_pos (by omega)] | rw [if_neg (by omega)]))
theorem al4 (w : World) (a b c d : Obj) : ∃ W : World, W = ((((w.alloc a).alloc b).alloc c).alloc d) ∧ Below w.heap.size w W ∧ W.heap[w.heap.size]? = some a ∧ W.heap[w.heap.size + 1]? = some b ∧ W.heap[w.heap.size + 1 + 1]? = some c ∧ W.heap[w.heap.size + 1 + 1 + 1]? = some d ∧ W.heap.size = w.heap.size + 4 := by
  refine ⟨_, rfl, Below.then (Below.then (Below.then (alloc_below _ _) (alloc_below _ _)) (alloc_below _ _)) (alloc_below _ _), ?_, ?_, ?_, ?_, ?_⟩
  all_goals first | (simp only [heap_alloc, Array.size_push]; done) | (simp only [heap_alloc, Array.getElem?_push, Array.size_push]; repeat (first | rw [if_pos trivial] | rw [if_pos (by omega)] | rw [if_neg (by omega)]))
end Go.Proofs.YtnmhicgbdalniaaGreatDoor
