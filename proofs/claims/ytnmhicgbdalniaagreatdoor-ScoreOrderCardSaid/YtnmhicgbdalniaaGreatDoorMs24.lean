import Derived.Test.YtnmhicgbdalniaaGreatDoorMs19
import Derived.Test.YtnmhicgbdalniaaGreatDoorMs22
import Derived.Test.YtnmhicgbdalniaaGreatDoorMs23
namespace Go.Proofs.YtnmhicgbdalniaaGreatDoor
open Go.RowKit Go.Sort

/-! Is a state small, and such that Check takes it? -/
set_option maxHeartbeats 2000000 in
set_option maxRecDepth 100000 in
theorem Good_calls (v : Value) (s : St) (w : World) (hv : Kd.state.V (vw w []) v s) :
    Calls Tryz.prog 16 #[v] w (FewIfB (s.Few ∧ checkSt s = 0) w) := by
  obtain ⟨cs, rfl, hks⟩ := hv
  have hvs : Kd.state.V (vw w []) (.agg cs.toArray) s := ⟨cs, rfl, hks⟩
  obtain ⟨A1, c1, A2, c2, A3, c3, rfl, -⟩ := hks
  have HVS := Lib.hid hvs
  clear hvs
  go_enter Tryz.func16, Tryz.ntmps16
  have HB : Hid (Below w.heap.size w (w.alloc (.cells #[.slice A1 s.nodes.length c1, .slice A2 s.pods.length c2, .slice A3 s.budgets.length c3] 26))) := alloc_below _ _
  have HQ : Hid ((w.alloc (.cells #[.slice A1 s.nodes.length c1, .slice A2 s.pods.length c2, .slice A3 s.budgets.length c3] 26)).heap[w.heap.size]? = some (.cells #[.slice A1 s.nodes.length c1, .slice A2 s.pods.length c2, .slice A3 s.budgets.length c3] 26 (0, 0))) := blk_last _ _
  go_upto_region 1 with fail
  generalize w.alloc (.cells #[.slice A1 s.nodes.length c1, .slice A2 s.pods.length c2, .slice A3 s.budgets.length c3] 26) = W at HB HQ ⊢
  obtain ⟨z, zf⟩ := blk_all HQ.out
  go_wp2_with fail
  refine (Few9_calls _ s _ (Kd.V.mono (vw_below HB.out) HVS.out)).mono ?_
  rintro e w1 ⟨r, rfl, hr, hb⟩
  replace HQ := Lib.hid ((hb.block _ (blk_lt HQ.out)).trans HQ.out)
  replace HB := Lib.hid (Below.then HB.out hb)
  clear hb z zf
  obtain ⟨z, zf⟩ := blk_all HQ.out
  cases r with
  | false =>
    clear hr
    go_wp2
    go_ret
    exact ⟨_, rfl, (fun h => by cases h), HB.out⟩
  | true =>
    have HF := Lib.hid (hr rfl)
    clear hr
    go_wp2_with fail
    refine (Of9_calls _ s _ (Kd.V.mono (vw_below HB.out) HVS.out) HF.out).mono ?_
    rintro e w2 ⟨cs, rfl, hk, hb⟩
    have hv2 : Kd.state.V (vw w2 []) (.agg cs.toArray) s := ⟨cs, rfl, Kd.state.mono (nx_vw (by simp)) hk⟩
    have HV2 := Lib.hid hv2
    replace HB := Lib.hid (Below.then HB.out hb)
    clear hb hv2 hk z zf HQ
    go_wp2_with fail
    refine (Check_calls _ s _ HV2.out).mono ?_
    rintro e w3 ⟨rfl, hb⟩
    replace HB := Lib.hid (Below.then HB.out hb)
    obtain ⟨n, hn⟩ : ∃ n, checkSt s = n := ⟨_, rfl⟩
    have HN := Lib.hid hn
    rw [hn]
    clear hb hn
    by_cases h0 : n = 0
    · subst h0
      go_wp2
      go_ret
      exact ⟨_, rfl, fun _ => ⟨HF.out, HN.out⟩, HB.out⟩
    · have t1 : (n == 0) = false := by simp [h0]
      go_wp2
      go_ret
      exact ⟨_, rfl, (fun h => by cases h), HB.out⟩
/-! The data that the laws make. -/
def tx (l : List UInt8) : ByteArray := ⟨l.toArray⟩
def ndN (name : ByteArray) (n : Int) : Nd := ⟨name, [⟨tx [99, 112, 117], n⟩], [], [], false⟩
def pdP (name : ByteArray) (n : Int) (on : ByteArray) : Pd := ⟨name, ⟨#[]⟩, 0, [⟨tx [99, 112, 117], n⟩], [], [], [], ⟨#[]⟩, 0, on, false⟩
theorem cpu_ok : sok (tx [99, 112, 117]) := by unfold sok; decide
theorem sok_none : sok ⟨#[]⟩ := by unfold sok; decide
theorem i64_0 : i64 0 := by unfold i64; decide
/-- One element in a block of its own. -/
theorem Kd.S.one {α : Type} {n : Nat} {f : α → List Value} {p : α → Prop} {hn : ∀ x, (f x).length = n} {h : View} {b : Nat} {T : TypeId} {x : α} (hb : h b = some (.cells (f x).toArray T (0, 0))) (hp : p x) :
    (Kd.flat n f p hn).S h (.slice (some ⟨b, 0, none⟩) 1 1) [x] := by
  refine ⟨_, _, rfl, Nat.le_refl _, by simp, fun e => (by cases e), fun _ => ⟨b, 0, rfl, fun j y hj => ?_⟩⟩
  cases j with
  | succ j => simp at hj
  | zero =>
    simp only [List.getElem?_cons_zero, Option.some.injEq] at hj
    subst hj
    refine ⟨f x, ⟨rfl, hp⟩, fun i u hu => ?_⟩
    simp [View.cell?, hb, hu]
set_option maxHeartbeats 2000000 in
theorem N_calls (name : ByteArray) (n : Int) (w : World) (hs : sok name) (hn : i64 n) :
    Calls Tryz.prog 46 #[.string name, .int .i64 n] w (OneDone Kd.node (ndN name n) w) := by
  have HN := Lib.hid hn
  have HS := Lib.hid hs
  clear hn hs
  go_enter Tryz.func46, Tryz.ntmps46
  go_wp2
  have q0 : ((w.alloc (.cells #[.string name, .slice (some ⟨w.heap.size + 1, 0, none⟩) 1 1, .slice none 0 0, .slice none 0 0, .bool false] 94)).alloc (.cells #[.string ⟨#[99, 112, 117]⟩, .int .i64 n] 187)).heap[w.heap.size]? = some (.cells [.string name, .slice (some ⟨w.heap.size + 1, 0, none⟩) 1 1, .slice none 0 0, .slice none 0 0, .bool false].toArray 94 (0, 0)) :=
    (blk_old _ _ (by simp)).trans (blk_last _ _)
  have q1 : ((w.alloc (.cells #[.string name, .slice (some ⟨w.heap.size + 1, 0, none⟩) 1 1, .slice none 0 0, .slice none 0 0, .bool false] 94)).alloc (.cells #[.string ⟨#[99, 112, 117]⟩, .int .i64 n] 187)).heap[w.heap.size + 1]? = some (.cells #[.string ⟨#[99, 112, 117]⟩, .int .i64 n] 187 (0, 0)) := by
    have := blk_last (w.alloc (.cells #[.string name, .slice (some ⟨w.heap.size + 1, 0, none⟩) 1 1, .slice none 0 0, .slice none 0 0, .bool false] 94)) (.cells #[.string ⟨#[99, 112, 117]⟩, .int .i64 n] 187)
    simpa using this
  exact ret_row1 (cs := [.string name, .slice (some ⟨w.heap.size + 1, 0, none⟩) 1 1, .slice none 0 0, .slice none 0 0, .bool false]) rfl rfl q0 Tryz.underlying94 rfl (by kernel_rfl) rfl
    ⟨_, rfl, ⟨_, _, _, _, _, _, rfl, HS.out, Kd.S.one (nx_mk (by omega) (by simp) q1) ⟨cpu_ok, HN.out⟩, Kd.S.nil _ _, Kd.S.nil _ _⟩, Below.then (alloc_below _ _) (alloc_below _ _)⟩
set_option maxHeartbeats 2000000 in
theorem P_calls (name : ByteArray) (n : Int) (on : ByteArray) (w : World) (hs : sok name) (hn : i64 n) (ho : sok on) :
    Calls Tryz.prog 49 #[.string name, .int .i64 n, .string on] w (OneDone Kd.pod (pdP name n on) w) := by
  have HN := Lib.hid hn
  have HS := Lib.hid hs
  have HO := Lib.hid ho
  clear hn hs ho
  go_enter Tryz.func49, Tryz.ntmps49
  go_wp2
  have q0 : ((w.alloc (.cells #[.string name, .string ⟨#[]⟩, .int .i64 0, .slice (some ⟨w.heap.size + 1, 0, none⟩) 1 1, .slice none 0 0, .slice none 0 0, .slice none 0 0, .string ⟨#[]⟩, .int .i64 0, .string on, .bool false] 35)).alloc (.cells #[.string ⟨#[99, 112, 117]⟩, .int .i64 n] 187)).heap[w.heap.size]? = some (.cells [.string name, .string ⟨#[]⟩, .int .i64 0, .slice (some ⟨w.heap.size + 1, 0, none⟩) 1 1, .slice none 0 0, .slice none 0 0, .slice none 0 0, .string ⟨#[]⟩, .int .i64 0, .string on, .bool false].toArray 35 (0, 0)) :=
    (blk_old _ _ (by simp)).trans (blk_last _ _)
  have q1 : ((w.alloc (.cells #[.string name, .string ⟨#[]⟩, .int .i64 0, .slice (some ⟨w.heap.size + 1, 0, none⟩) 1 1, .slice none 0 0, .slice none 0 0, .slice none 0 0, .string ⟨#[]⟩, .int .i64 0, .string on, .bool false] 35)).alloc (.cells #[.string ⟨#[99, 112, 117]⟩, .int .i64 n] 187)).heap[w.heap.size + 1]? = some (.cells #[.string ⟨#[99, 112, 117]⟩, .int .i64 n] 187 (0, 0)) := by
    have := blk_last (w.alloc (.cells #[.string name, .string ⟨#[]⟩, .int .i64 0, .slice (some ⟨w.heap.size + 1, 0, none⟩) 1 1, .slice none 0 0, .slice none 0 0, .slice none 0 0, .string ⟨#[]⟩, .int .i64 0, .string on, .bool false] 35)) (.cells #[.string ⟨#[99, 112, 117]⟩, .int .i64 n] 187)
    simpa using this
  exact ret_row1 (cs := [.string name, .string ⟨#[]⟩, .int .i64 0, .slice (some ⟨w.heap.size + 1, 0, none⟩) 1 1, .slice none 0 0, .slice none 0 0, .slice none 0 0, .string ⟨#[]⟩, .int .i64 0, .string on, .bool false]) rfl rfl q0 Tryz.underlying35 rfl (by kernel_rfl) rfl
    ⟨_, rfl, ⟨_, _, _, _, _, _, _, _, rfl, ⟨⟨HS.out, sok_none, i64_0⟩, sok_none, i64_0, HO.out⟩, Kd.S.one (nx_mk (by omega) (by simp) q1) ⟨cpu_ok, HN.out⟩, Kd.S.nil _ _, Kd.S.nil _ _, Kd.S.nil _ _⟩, Below.then (alloc_below _ _) (alloc_below _ _)⟩
end Go.Proofs.YtnmhicgbdalniaaGreatDoor
namespace Go.Proofs.YtnmhicgbdalniaaGreatDoor
open Go.RowKit Go.Sort

def BoolDone (b : Bool) (w : World) (e : Ending) (w' : World) : Prop := e = .returned (.bool b) ∧ Below w.heap.size w w'
theorem names_eq_at {a b : List ByteArray} {k : Nat} (hl : a.length = b.length) (h : k < a.length) : decide (a.drop k = b.drop k) = (decide (a[k] = b[k]) && decide (a.drop (k + 1) = b.drop (k + 1))) := by
  rw [List.drop_eq_getElem_cons h, List.drop_eq_getElem_cons (show k < b.length by omega), Bool.eq_iff_iff]
  simp only [Bool.and_eq_true, decide_eq_true_eq, List.cons.injEq]
set_option maxHeartbeats 2000000 in
theorem Names_calls (va vb : Value) (a b : List ByteArray) (w : World) (ha : Kd.str.S (vw w []) va a) (hb : Kd.str.S (vw w []) vb b) :
    Calls Tryz.prog 54 #[va, vb] w (BoolDone (decide (a = b)) w) := by
  obtain ⟨A, cap, rfl, ha⟩ := ha.val
  obtain ⟨-, fa1, fa2⟩ := ha.form
  obtain ⟨B, cap2, rfl, hb⟩ := hb.val
  obtain ⟨-, fb1, fb2⟩ := hb.form
  have HA := Lib.hid ha
  have HD := Lib.hid hb
  clear ha hb
  go_enter Tryz.func54, Tryz.ntmps54
  by_cases hl : ¬ a.length = b.length
  · have HX : Hid (decide (a = b) = false) := decide_eq_false fun h => hl (by rw [h])
    have t1 : (a.length == b.length) = false := by simpa using hl
    go_wp2
    go_ret
    exact ⟨ret_bool HX.out.symm, Below.refl _ _⟩
  have HL := Lib.hid (Decidable.not_not.1 hl)
  have t1 : (a.length == b.length) = true := by simpa using HL.out
  clear hl
  go_wp2
  clear t1
  go_loopw [5] (fun i wr => ∃ k : Nat, k ≤ a.length ∧ i = .int .i64 k ∧ Hid (decide (a.drop k = b.drop k) = decide (a = b)) ∧ Hid (Below w.heap.size w wr)) (fun i _ => a.length - (intOf i).toNat)
  case atStart => exact ⟨0, Nat.zero_le _, rfl, rfl, Below.refl _ _⟩
  case round =>
    obtain ⟨k, hk, rfl, HR, HB⟩ := hrel
    by_cases hlt : k < a.length
    · have hlb : k < b.length := by have := HL.out; omega
      obtain ⟨oa, fa, rfl, hca, -⟩ := (HA.out.mono (vw_below HB.out)).elem1 k hlt
      obtain ⟨ob, fb, rfl, hcb, -⟩ := (HD.out.mono (vw_below HB.out)).elem1 k hlb
      have hr := HR.out
      rw [names_eq_at HL.out hlt] at hr
      have e1 := eq_beq a[k] b[k]
      obtain ⟨m, hm⟩ : ∃ m, decide (a[k] = b[k]) = m := ⟨_, rfl⟩
      rw [hm] at e1 hr
      have HX := Lib.hid hr
      clear hm hr
      have b1 : (0 : Int) ≤ (k : Int) := by omega
      have b2 : (k : Int) < (a.length : Int) := by omega
      have b3 : (k : Int) < (b.length : Int) := by omega
      cases m with
      | false =>
        have HY : Hid (false = decide (a = b)) := HX.out
        go_upto_region 6 with fail
        go_quiet (fail)
        go_wp2
        go_ret
        exact ⟨ret_bool HY.out, drewN_then HB.out _⟩
      | true =>
        have HY : Hid (decide (a.drop (k + 1) = b.drop (k + 1)) = decide (a = b)) := HX.out
        go_upto_region 6 with fail
        go_quiet (fail)
        go_wp2
        go_roundw
        case rel => exact ⟨k + 1, by omega, by go_num, HY.out, drewN_then HB.out _⟩
        case measure => simp [intOf]; omega
    · obtain rfl : k = a.length := by omega
      have hr := HR.out
      rw [List.drop_length, HL.out, List.drop_length] at hr
      have HY : Hid (true = decide (a = b)) := by show _ = _; rw [← hr]; simp
      clear hr
      go_wp2
      go_ret
      exact ⟨ret_bool HY.out, HB.out⟩
end Go.Proofs.YtnmhicgbdalniaaGreatDoor
