import Derived.Test.YtfbmfjmnpfidoaaMb1
import Derived.Test.YtfbmfjmnpfidoaaMb3
import Derived.Test.YtfbmfjmnpfidoaaMb4
import Derived.Lib.SliceRun
namespace Go.Proofs.Ytfbmfjmnpfidoaa
open Go.RowKit Go.Sort

/-! Is a state small, and such that Check takes it? -/
set_option maxHeartbeats 2000000 in
set_option maxRecDepth 100000 in
theorem Good_calls (v : Value) (s : St) (w : World) (hv : Kd.state.V (vw w []) v s) :
    Calls Try.prog 8 #[v] w (FewIfB (s.Few ∧ checkSt s = 0) w) := by
  obtain ⟨cs, rfl, hks⟩ := hv
  have hvs : Kd.state.V (vw w []) (.agg cs.toArray) s := ⟨cs, rfl, hks⟩
  obtain ⟨A1, c1, A2, c2, A3, c3, rfl, -⟩ := hks
  have HVS := Lib.hid hvs
  clear hvs
  go_enter Try.func8, Try.ntmps8
  have HB : Hid (Below w.heap.size w (w.alloc (.cells #[.slice A1 s.nodes.length c1, .slice A2 s.pods.length c2, .slice A3 s.budgets.length c3] 26))) := alloc_below _ _
  have HQ : Hid ((w.alloc (.cells #[.slice A1 s.nodes.length c1, .slice A2 s.pods.length c2, .slice A3 s.budgets.length c3] 26)).heap[w.heap.size]? = some (.cells #[.slice A1 s.nodes.length c1, .slice A2 s.pods.length c2, .slice A3 s.budgets.length c3] 26 (0, 0))) := blk_last _ _
  go_upto_region 1 with fail
  generalize w.alloc (.cells #[.slice A1 s.nodes.length c1, .slice A2 s.pods.length c2, .slice A3 s.budgets.length c3] 26) = W at HB HQ ⊢
  obtain ⟨z, zf⟩ := blk_all HQ.out
  go_wp2_with fail
  refine (Few9_calls _ s _ (Kd.V.mono (vw_below HB.out) HVS.out)).mono ?_
  rintro e w1 ⟨r, rfl, hr, hb⟩
  replace HQ := Lib.hid ((hb.block _ (blk_lt HQ.out)).trans HQ.out)
  replace HB := Lib.hid (Below.then HB.out hb)
  clear hb z zf
  obtain ⟨z, zf⟩ := blk_all HQ.out
  cases r with
  | false =>
    clear hr
    go_wp2
    go_ret
    exact ⟨_, rfl, (fun h => by cases h), HB.out⟩
  | true =>
    have HF := Lib.hid (hr rfl)
    clear hr
    go_wp2_with fail
    refine (Of9_calls _ s _ (Kd.V.mono (vw_below HB.out) HVS.out) HF.out).mono ?_
    rintro e w2 ⟨cs, rfl, hk, hb⟩
    have hv2 : Kd.state.V (vw w2 []) (.agg cs.toArray) s := ⟨cs, rfl, Kd.state.mono (nx_vw (by simp)) hk⟩
    have HV2 := Lib.hid hv2
    replace HB := Lib.hid (Below.then HB.out hb)
    clear hb hv2 hk z zf HQ
    go_wp2_with fail
    refine (Check_calls _ s _ HV2.out).mono ?_
    rintro e w3 ⟨rfl, hb⟩
    replace HB := Lib.hid (Below.then HB.out hb)
    obtain ⟨n, hn⟩ : ∃ n, checkSt s = n := ⟨_, rfl⟩
    have HN := Lib.hid hn
    rw [hn]
    clear hb hn
    by_cases h0 : n = 0
    · subst h0
      go_wp2
      go_ret
      exact ⟨_, rfl, fun _ => ⟨HF.out, HN.out⟩, HB.out⟩
    · have t1 : (n == 0) = false := by simp [h0]
      go_wp2
      go_ret
      exact ⟨_, rfl, (fun h => by cases h), HB.out⟩
/-! The data that the laws make. -/
def tx (l : List UInt8) : ByteArray := ⟨l.toArray⟩
def ndN (name : ByteArray) (n : Int) : Nd := ⟨name, [⟨tx [99, 112, 117], n⟩], [], [], false⟩
def pdP (name : ByteArray) (n : Int) (on : ByteArray) : Pd := ⟨name, ⟨#[]⟩, 0, [⟨tx [99, 112, 117], n⟩], [], [], [], ⟨#[]⟩, 0, on, false⟩
def ndZ (name zone : ByteArray) : Nd := { ndN name 100 with labels := [⟨tx [122, 111, 110, 101], zone⟩] }
def pdO (name on : ByteArray) (most : Int) : Pd := { pdP name 1 on with owner := tx [119, 101, 98], key := tx [122, 111, 110, 101], most := most }
theorem cpu_ok : sok (tx [99, 112, 117]) := by unfold sok; decide
theorem zone_ok : sok (tx [122, 111, 110, 101]) := by unfold sok; decide
theorem sok_none : sok ⟨#[]⟩ := by unfold sok; decide
theorem i64_0 : i64 0 := by unfold i64; decide
/-- One element in a block of its own. -/
theorem Kd.S.one {α : Type} {n : Nat} {f : α → List Value} {p : α → Prop} {hn : ∀ x, (f x).length = n} {h : View} {b : Nat} {T : TypeId} {x : α} (hb : h b = some (.cells (f x).toArray T (0, 0))) (hp : p x) :
    (Kd.flat n f p hn).S h (.slice (some ⟨b, 0, none⟩) 1 1) [x] := by
  refine ⟨_, _, rfl, Nat.le_refl _, by simp, fun e => (by cases e), fun _ => ⟨b, 0, rfl, fun j y hj => ?_⟩⟩
  cases j with
  | succ j => simp at hj
  | zero =>
    simp only [List.getElem?_cons_zero, Option.some.injEq] at hj
    subst hj
    refine ⟨f x, ⟨rfl, hp⟩, fun i u hu => ?_⟩
    simp [View.cell?, hb, hu]
set_option maxHeartbeats 2000000 in
theorem N_calls (name : ByteArray) (n : Int) (w : World) (hs : sok name) (hn : i64 n) :
    Calls Try.prog 27 #[.string name, .int .i64 n] w (OneDone Kd.node (ndN name n) w) := by
  have HN := Lib.hid hn
  have HS := Lib.hid hs
  clear hn hs
  go_enter Try.func27, Try.ntmps27
  go_wp2
  have q0 : ((w.alloc (.cells #[.string name, .slice (some ⟨w.heap.size + 1, 0, none⟩) 1 1, .slice none 0 0, .slice none 0 0, .bool false] 68)).alloc (.cells #[.string ⟨#[99, 112, 117]⟩, .int .i64 n] 114)).heap[w.heap.size]? = some (.cells [.string name, .slice (some ⟨w.heap.size + 1, 0, none⟩) 1 1, .slice none 0 0, .slice none 0 0, .bool false].toArray 68 (0, 0)) :=
    (blk_old _ _ (by simp)).trans (blk_last _ _)
  have q1 : ((w.alloc (.cells #[.string name, .slice (some ⟨w.heap.size + 1, 0, none⟩) 1 1, .slice none 0 0, .slice none 0 0, .bool false] 68)).alloc (.cells #[.string ⟨#[99, 112, 117]⟩, .int .i64 n] 114)).heap[w.heap.size + 1]? = some (.cells #[.string ⟨#[99, 112, 117]⟩, .int .i64 n] 114 (0, 0)) := by
    have := blk_last (w.alloc (.cells #[.string name, .slice (some ⟨w.heap.size + 1, 0, none⟩) 1 1, .slice none 0 0, .slice none 0 0, .bool false] 68)) (.cells #[.string ⟨#[99, 112, 117]⟩, .int .i64 n] 114)
    simpa using this
  exact ret_row1 (cs := [.string name, .slice (some ⟨w.heap.size + 1, 0, none⟩) 1 1, .slice none 0 0, .slice none 0 0, .bool false]) rfl rfl q0 Try.underlying68 rfl (by kernel_rfl) rfl
    ⟨_, rfl, ⟨_, _, _, _, _, _, rfl, HS.out, Kd.S.one (nx_mk (by omega) (by simp) q1) ⟨cpu_ok, HN.out⟩, Kd.S.nil _ _, Kd.S.nil _ _⟩, Below.then (alloc_below _ _) (alloc_below _ _)⟩
set_option maxHeartbeats 2000000 in
theorem P_calls (name : ByteArray) (n : Int) (on : ByteArray) (w : World) (hs : sok name) (hn : i64 n) (ho : sok on) :
    Calls Try.prog 28 #[.string name, .int .i64 n, .string on] w (OneDone Kd.pod (pdP name n on) w) := by
  have HN := Lib.hid hn
  have HS := Lib.hid hs
  have HO := Lib.hid ho
  clear hn hs ho
  go_enter Try.func28, Try.ntmps28
  go_wp2
  have q0 : ((w.alloc (.cells #[.string name, .string ⟨#[]⟩, .int .i64 0, .slice (some ⟨w.heap.size + 1, 0, none⟩) 1 1, .slice none 0 0, .slice none 0 0, .slice none 0 0, .string ⟨#[]⟩, .int .i64 0, .string on, .bool false] 35)).alloc (.cells #[.string ⟨#[99, 112, 117]⟩, .int .i64 n] 114)).heap[w.heap.size]? = some (.cells [.string name, .string ⟨#[]⟩, .int .i64 0, .slice (some ⟨w.heap.size + 1, 0, none⟩) 1 1, .slice none 0 0, .slice none 0 0, .slice none 0 0, .string ⟨#[]⟩, .int .i64 0, .string on, .bool false].toArray 35 (0, 0)) :=
    (blk_old _ _ (by simp)).trans (blk_last _ _)
  have q1 : ((w.alloc (.cells #[.string name, .string ⟨#[]⟩, .int .i64 0, .slice (some ⟨w.heap.size + 1, 0, none⟩) 1 1, .slice none 0 0, .slice none 0 0, .slice none 0 0, .string ⟨#[]⟩, .int .i64 0, .string on, .bool false] 35)).alloc (.cells #[.string ⟨#[99, 112, 117]⟩, .int .i64 n] 114)).heap[w.heap.size + 1]? = some (.cells #[.string ⟨#[99, 112, 117]⟩, .int .i64 n] 114 (0, 0)) := by
    have := blk_last (w.alloc (.cells #[.string name, .string ⟨#[]⟩, .int .i64 0, .slice (some ⟨w.heap.size + 1, 0, none⟩) 1 1, .slice none 0 0, .slice none 0 0, .slice none 0 0, .string ⟨#[]⟩, .int .i64 0, .string on, .bool false] 35)) (.cells #[.string ⟨#[99, 112, 117]⟩, .int .i64 n] 114)
    simpa using this
  exact ret_row1 (cs := [.string name, .string ⟨#[]⟩, .int .i64 0, .slice (some ⟨w.heap.size + 1, 0, none⟩) 1 1, .slice none 0 0, .slice none 0 0, .slice none 0 0, .string ⟨#[]⟩, .int .i64 0, .string on, .bool false]) rfl rfl q0 Try.underlying35 rfl (by kernel_rfl) rfl
    ⟨_, rfl, ⟨_, _, _, _, _, _, _, _, rfl, ⟨⟨HS.out, sok_none, i64_0⟩, sok_none, i64_0, HO.out⟩, Kd.S.one (nx_mk (by omega) (by simp) q1) ⟨cpu_ok, HN.out⟩, Kd.S.nil _ _, Kd.S.nil _ _, Kd.S.nil _ _⟩, Below.then (alloc_below _ _) (alloc_below _ _)⟩
set_option maxHeartbeats 4000000 in
set_option maxRecDepth 100000 in
theorem Zoned_calls (name zone : ByteArray) (w : World) (hs : sok name) (hz : sok zone) :
    Calls Try.prog 23 #[.string name, .string zone] w (OneDone Kd.node (ndZ name zone) w) := by
  have HZ := Lib.hid hz
  have HS := Lib.hid hs
  clear hz hs
  go_enter Try.func23, Try.ntmps23
  go_wp2_with fail
  refine (N_calls name 100 _ HS.out ⟨by decide, by decide⟩).mono ?_
  rintro e w1 ⟨cs, rfl, ⟨B1, d1, B2, d2, B3, d3, rfl, -, s1, -, s3⟩, hb⟩
  simp only [ndN, List.length_singleton, List.length_nil] at s1 s3 ⊢
  have hq := (hb.block w.heap.size (by simp)).trans (blk_last w _)
  have HB := Lib.hid (Below.then (alloc_below w _) hb)
  have hlt := blk_lt hq
  have S1 := Lib.hid (s1.mono (nx_lo (lo := w.heap.size + 1) (by simp)))
  have S3 := Lib.hid (s3.mono (nx_lo (lo := w.heap.size + 1) (by simp)))
  have HQ := Lib.hid hq
  obtain ⟨z, zf⟩ := blk_all hq
  clear hb s1 s3 hq
  go_wp2
  obtain ⟨L, hL⟩ : ∃ L : List Value, L = [.string name, .slice B1 1 d1, .slice (some ⟨w1.heap.size + 1, 0, none⟩) 1 1, .slice B3 0 d3, .bool false] := ⟨_, rfl⟩
  have hset := setCells_all (cs := L) HQ.out (by rw [hL]; rfl)
  have hbel := Below.setCells HB.out (Nat.le_refl _) L 0
  have hsz := setCells_size w.heap.size L 0 w1
  have hnx := nx_setCells (w := w1) (lo := w.heap.size + 1) (lo' := w.heap.size) L 0 (Nat.lt_succ_self w.heap.size) (by omega)
  have hgoal : (((((w1.setCell ⟨w.heap.size, 0, none⟩ (.string name)).setCell ⟨w.heap.size, 1, none⟩ (.slice B1 1 d1)).setCell ⟨w.heap.size, 2, none⟩ (.slice (some ⟨w1.heap.size + 1, 0, none⟩) 1 1)).setCell ⟨w.heap.size, 3, none⟩ (.slice B3 0 d3)).setCell ⟨w.heap.size, 4, none⟩ (.bool false)) = w1.setCells w.heap.size 0 L := by rw [hL]; rfl
  rw [hgoal]
  clear hgoal
  generalize w1.setCells w.heap.size 0 L = W at hset hbel hsz hnx ⊢
  have hl2 : w.heap.size < W.heap.size := by omega
  have q0 := (blk_old (W.alloc (.cells #[.string name, .slice B1 1 d1, .slice (some ⟨w1.heap.size + 1, 0, none⟩) 1 1, .slice B3 0 d3, .bool false] 68)) (.cells #[.string ⟨#[122, 111, 110, 101]⟩, .string zone] 109) (by simp; omega)).trans ((blk_old W (.cells #[.string name, .slice B1 1 d1, .slice (some ⟨w1.heap.size + 1, 0, none⟩) 1 1, .slice B3 0 d3, .bool false] 68) hl2).trans hset)
  have q1 := blk_last (W.alloc (.cells #[.string name, .slice B1 1 d1, .slice (some ⟨w1.heap.size + 1, 0, none⟩) 1 1, .slice B3 0 d3, .bool false] 68)) (.cells #[.string ⟨#[122, 111, 110, 101]⟩, .string zone] 109)
  rw [show (W.alloc (.cells #[.string name, .slice B1 1 d1, .slice (some ⟨w1.heap.size + 1, 0, none⟩) 1 1, .slice B3 0 d3, .bool false] 68)).heap.size = w1.heap.size + 1 by simp; omega] at q1
  have hbl : Below W.heap.size W ((W.alloc (.cells #[.string name, .slice B1 1 d1, .slice (some ⟨w1.heap.size + 1, 0, none⟩) 1 1, .slice B3 0 d3, .bool false] 68)).alloc (.cells #[.string ⟨#[122, 111, 110, 101]⟩, .string zone] 109)) := Below.then (alloc_below _ _) (alloc_below _ _)
  subst hL
  exact ret_row1 (cs := [.string name, .slice B1 1 d1, .slice (some ⟨w1.heap.size + 1, 0, none⟩) 1 1, .slice B3 0 d3, .bool false]) rfl rfl q0 Try.underlying68 rfl (by kernel_rfl) rfl
    ⟨_, rfl, ⟨_, _, _, _, _, _, rfl, HS.out, (S1.out.mono hnx).mono (nx_below hbl), Kd.S.one (nx_mk (by omega) (by simp) q1) ⟨zone_ok, HZ.out⟩, (S3.out.mono hnx).mono (nx_below hbl)⟩, Below.then hbel hbl⟩
end Go.Proofs.Ytfbmfjmnpfidoaa
namespace Go.Proofs.Ytfbmfjmnpfidoaa
open Go.RowKit Go.Sort

theorem web_ok : sok (tx [119, 101, 98]) := by unfold sok; decide
set_option maxHeartbeats 4000000 in
set_option maxRecDepth 100000 in
theorem Owned_calls (name on : ByteArray) (most : Int) (w : World) (hs : sok name) (ho : sok on) (hm : i64 most) :
    Calls Try.prog 25 #[.string name, .string on, .int .i64 most] w (OneDone Kd.pod (pdO name on most) w) := by
  have HO := Lib.hid ho
  have HS := Lib.hid hs
  have HM := Lib.hid hm
  clear ho hs hm
  go_enter Try.func25, Try.ntmps25
  go_wp2_with fail
  refine (P_calls name 1 on _ HS.out ⟨by decide, by decide⟩ HO.out).mono ?_
  rintro e w1 ⟨cs, rfl, ⟨B1, d1, B2, d2, B3, d3, B4, d4, rfl, -, s1, s2, s3, s4⟩, hb⟩
  simp only [pdP, List.length_singleton, List.length_nil] at s1 s2 s3 s4 ⊢
  have hq := (hb.block w.heap.size (by simp)).trans (blk_last w _)
  have HB := Lib.hid (Below.then (alloc_below w _) hb)
  have hlt := blk_lt hq
  have S1 := Lib.hid (s1.mono (nx_lo (lo := w.heap.size + 1) (by simp)))
  have S2 := Lib.hid (s2.mono (nx_lo (lo := w.heap.size + 1) (by simp)))
  have S3 := Lib.hid (s3.mono (nx_lo (lo := w.heap.size + 1) (by simp)))
  have S4 := Lib.hid (s4.mono (nx_lo (lo := w.heap.size + 1) (by simp)))
  have HQ := Lib.hid hq
  obtain ⟨z, zf⟩ := blk_all hq
  clear hb s1 s2 s3 s4 hq
  go_wp2
  obtain ⟨L, hL⟩ : ∃ L : List Value, L = [.string name, .string ⟨#[119, 101, 98]⟩, .int .i64 0, .slice B1 1 d1, .slice B2 0 d2, .slice B3 0 d3, .slice B4 0 d4, .string ⟨#[122, 111, 110, 101]⟩, .int .i64 most, .string on, .bool false] := ⟨_, rfl⟩
  have hset := setCells_all (cs := L) HQ.out (by rw [hL]; rfl)
  have hbel := Below.setCells HB.out (Nat.le_refl _) L 0
  have hsz := setCells_size w.heap.size L 0 w1
  have hnx := nx_setCells (w := w1) (lo := w.heap.size + 1) (lo' := w.heap.size) L 0 (Nat.lt_succ_self w.heap.size) (by omega)
  have hgoal : (((((((((((w1.setCell ⟨w.heap.size, 0, none⟩ (.string name)).setCell ⟨w.heap.size, 1, none⟩ (.string ⟨#[119, 101, 98]⟩)).setCell ⟨w.heap.size, 2, none⟩ (.int .i64 0)).setCell ⟨w.heap.size, 3, none⟩ (.slice B1 1 d1)).setCell ⟨w.heap.size, 4, none⟩ (.slice B2 0 d2)).setCell ⟨w.heap.size, 5, none⟩ (.slice B3 0 d3)).setCell ⟨w.heap.size, 6, none⟩ (.slice B4 0 d4)).setCell ⟨w.heap.size, 7, none⟩ (.string ⟨#[122, 111, 110, 101]⟩)).setCell ⟨w.heap.size, 8, none⟩ (.int .i64 most)).setCell ⟨w.heap.size, 9, none⟩ (.string on)).setCell ⟨w.heap.size, 10, none⟩ (.bool false)) = w1.setCells w.heap.size 0 L := by rw [hL]; rfl
  rw [hgoal]
  clear hgoal
  generalize w1.setCells w.heap.size 0 L = W at hset hbel hsz hnx ⊢
  have hl2 : w.heap.size < W.heap.size := by omega
  have q0 := (blk_old W (.cells #[.string name, .string ⟨#[119, 101, 98]⟩, .int .i64 0, .slice B1 1 d1, .slice B2 0 d2, .slice B3 0 d3, .slice B4 0 d4, .string ⟨#[122, 111, 110, 101]⟩, .int .i64 most, .string on, .bool false] 35) hl2).trans hset
  have hbl := alloc_below W (.cells #[.string name, .string ⟨#[119, 101, 98]⟩, .int .i64 0, .slice B1 1 d1, .slice B2 0 d2, .slice B3 0 d3, .slice B4 0 d4, .string ⟨#[122, 111, 110, 101]⟩, .int .i64 most, .string on, .bool false] 35)
  subst hL
  exact ret_row1 (cs := [.string name, .string ⟨#[119, 101, 98]⟩, .int .i64 0, .slice B1 1 d1, .slice B2 0 d2, .slice B3 0 d3, .slice B4 0 d4, .string ⟨#[122, 111, 110, 101]⟩, .int .i64 most, .string on, .bool false]) rfl rfl q0 Try.underlying35 rfl (by kernel_rfl) rfl
    ⟨_, rfl, ⟨_, _, _, _, _, _, _, _, rfl, ⟨⟨HS.out, web_ok, i64_0⟩, zone_ok, HM.out, HO.out⟩, (S1.out.mono hnx).mono (nx_below hbl), (S2.out.mono hnx).mono (nx_below hbl), (S3.out.mono hnx).mono (nx_below hbl), (S4.out.mono hnx).mono (nx_below hbl)⟩, Below.then hbel hbl⟩
def BoolDone (b : Bool) (w : World) (e : Ending) (w' : World) : Prop := e = .returned (.bool b) ∧ Below w.heap.size w w'
theorem names_eq_at {a b : List ByteArray} {k : Nat} (hl : a.length = b.length) (h : k < a.length) : decide (a.drop k = b.drop k) = (decide (a[k] = b[k]) && decide (a.drop (k + 1) = b.drop (k + 1))) := by
  rw [List.drop_eq_getElem_cons h, List.drop_eq_getElem_cons (show k < b.length by omega), Bool.eq_iff_iff]
  simp only [Bool.and_eq_true, decide_eq_true_eq, List.cons.injEq]
set_option maxHeartbeats 2000000 in
theorem Names_calls (va vb : Value) (a b : List ByteArray) (w : World) (ha : Kd.str.S (vw w []) va a) (hb : Kd.str.S (vw w []) vb b) :
    Calls Try.prog 15 #[va, vb] w (BoolDone (decide (a = b)) w) := by
  obtain ⟨A, cap, rfl, ha⟩ := ha.val
  obtain ⟨-, fa1, fa2⟩ := ha.form
  obtain ⟨B, cap2, rfl, hb⟩ := hb.val
  obtain ⟨-, fb1, fb2⟩ := hb.form
  have HA := Lib.hid ha
  have HD := Lib.hid hb
  clear ha hb
  go_enter Try.func15, Try.ntmps15
  by_cases hl : ¬ a.length = b.length
  · have HX : Hid (decide (a = b) = false) := decide_eq_false fun h => hl (by rw [h])
    have t1 : (a.length == b.length) = false := by simpa using hl
    go_wp2
    go_ret
    exact ⟨ret_bool HX.out.symm, Below.refl _ _⟩
  have HL := Lib.hid (Decidable.not_not.1 hl)
  have t1 : (a.length == b.length) = true := by simpa using HL.out
  clear hl
  go_wp2
  clear t1
  go_loopw [5] (fun i wr => ∃ k : Nat, k ≤ a.length ∧ i = .int .i64 k ∧ Hid (decide (a.drop k = b.drop k) = decide (a = b)) ∧ Hid (Below w.heap.size w wr)) (fun i _ => a.length - (intOf i).toNat)
  case atStart => exact ⟨0, Nat.zero_le _, rfl, rfl, Below.refl _ _⟩
  case round =>
    obtain ⟨k, hk, rfl, HR, HB⟩ := hrel
    by_cases hlt : k < a.length
    · have hlb : k < b.length := by have := HL.out; omega
      obtain ⟨oa, fa, rfl, hca, -⟩ := (HA.out.mono (vw_below HB.out)).elem1 k hlt
      obtain ⟨ob, fb, rfl, hcb, -⟩ := (HD.out.mono (vw_below HB.out)).elem1 k hlb
      have hr := HR.out
      rw [names_eq_at HL.out hlt] at hr
      have e1 := eq_beq a[k] b[k]
      obtain ⟨m, hm⟩ : ∃ m, decide (a[k] = b[k]) = m := ⟨_, rfl⟩
      rw [hm] at e1 hr
      have HX := Lib.hid hr
      clear hm hr
      have b1 : (0 : Int) ≤ (k : Int) := by omega
      have b2 : (k : Int) < (a.length : Int) := by omega
      have b3 : (k : Int) < (b.length : Int) := by omega
      cases m with
      | false =>
        have HY : Hid (false = decide (a = b)) := HX.out
        go_upto_region 6 with fail
        go_quiet (fail)
        go_wp2
        go_ret
        exact ⟨ret_bool HY.out, drewN_then HB.out _⟩
      | true =>
        have HY : Hid (decide (a.drop (k + 1) = b.drop (k + 1)) = decide (a = b)) := HX.out
        go_upto_region 6 with fail
        go_quiet (fail)
        go_wp2
        go_roundw
        case rel => exact ⟨k + 1, by omega, by go_num, HY.out, drewN_then HB.out _⟩
        case measure => simp [intOf]; omega
    · obtain rfl : k = a.length := by omega
      have hr := HR.out
      rw [List.drop_length, HL.out, List.drop_length] at hr
      have HY : Hid (true = decide (a = b)) := by show _ = _; rw [← hr]; simp
      clear hr
      go_wp2
      go_ret
      exact ⟨ret_bool HY.out, HB.out⟩
end Go.Proofs.Ytfbmfjmnpfidoaa
namespace Go.Proofs.Ytfbmfjmnpfidoaa
open Go.RowKit Go.Sort

/-! Rows of structs in a block that is written. -/
structure Rw (w : World) (g z : Nat) (css : List (List Value)) : Prop where
  lt : g < w.heap.size
  len : ∀ c ∈ css, c.length = z
  at_ : ∀ (t : Nat) (c : List Value), css[t]? = some c → w.rangeAt g (t * z) c
  free : ∀ x, w.frozen? ⟨g, x, none⟩ = false
theorem Rw.below {w w' : World} {g z : Nat} {css : List (List Value)} (h : Rw w g z css) (hb : Below w.heap.size w w') : Rw w' g z css :=
  ⟨Nat.lt_of_lt_of_le h.lt hb.size, h.len, fun t c hc j v hv => (hb.cell (p := ⟨g, t * z + j, none⟩) h.lt).trans (h.at_ t c hc j v hv), fun x => (hb.frozen (p := ⟨g, x, none⟩) h.lt).trans (h.free x)⟩
theorem Rw.there {w : World} {g z : Nat} {css : List (List Value)} (h : Rw w g z css) {t : Nat} (ht : t < css.length) : w.there g (t * z) z := fun j hj => by
  have hc := h.len css[t] (List.getElem_mem ht)
  have := h.at_ t css[t] (List.getElem?_eq_getElem ht) j (css[t][j]'(by omega)) (List.getElem?_eq_getElem _)
  exact ⟨by rw [this]; rfl, h.free _⟩
theorem apart {s t z j : Nat} (hst : s ≠ t) (hj : j < z) : s * z + j < t * z ∨ t * z + z ≤ s * z + j := by
  rcases Nat.lt_or_gt_of_ne hst with h | h
  · have := Nat.mul_le_mul_right z (show s + 1 ≤ t by omega)
    rw [Nat.add_mul] at this; omega
  · have := Nat.mul_le_mul_right z (show t + 1 ≤ s by omega)
    rw [Nat.add_mul] at this; omega
theorem Rw.set {w : World} {g z : Nat} {css : List (List Value)} (h : Rw w g z css) {t : Nat} (ht : t < css.length) {c : List Value} (hc : c.length = z) : Rw (w.setCells g (t * z) c) g z (css.set t c) := by
  refine ⟨by rw [setCells_size]; exact h.lt, fun d hd => ?_, fun s d hd j v hv => ?_, fun x => by rw [World.frozen?_setCells]; exact h.free x⟩
  · rcases List.mem_or_eq_of_mem_set hd with k | rfl
    · exact h.len d k
    · exact hc
  · rw [List.getElem?_set] at hd
    by_cases e : t = s
    · subst e
      rw [if_pos rfl, if_pos ht] at hd
      injection hd with hd
      subst hd
      have hj := (List.getElem?_eq_some_iff.1 hv).1
      rw [World.cell?_setCells_in g c (t * z) w (fun i hi => (h.there ht i (by omega)).1) j hj, ← hv, List.getElem?_eq_getElem hj]
    · rw [if_neg e] at hd
      have hj := (List.getElem?_eq_some_iff.1 hv).1
      have hl := h.len d (List.mem_of_getElem? hd)
      rw [World.cell?_setCells_out g c (t * z) w ⟨g, s * z + j, none⟩ (fun _ _ => by have := apart (s := s) (t := t) (z := z) (j := j) (Ne.symm e) (by omega); rw [hc]; exact this)]
      exact h.at_ s d hd j v hv
/-- 'clear(s)' of wide elements. -/
theorem run_clear_wide {P : Program} (w : World) (t e ty : TypeId) (z : Value) (ht : P.underlying t = some (.slice e)) (hv : ∀ w, (zeroValue e).run P w = .ok z w) (h1 : ∀ v ∈ z.cells.toList, v.oneCell' = true) (hz : 0 < z.cells.size) (b o n c : Nat) (hn : 0 < n)
    (hc : ∀ j, j < n * z.cells.size → (w.cell? ⟨b, o + j, none⟩).isSome = true) (hf : ∀ j, j < n * z.cells.size → w.frozen? ⟨b, o + j, none⟩ = false) :
    (Builtin.clear_ #[t] ty #[.slice (some ⟨b, o, none⟩) n c]).run P w = .ok (.tuple #[]) (w.setCells b o (Builtin.zeroCells z.cells n).toList) := by
  have hl : (Builtin.zeroCells z.cells n).toList.length = n * z.cells.size := by simp [Builtin.zeroCells]
  have hst := run_storeCells_cells (P := P) b o (Builtin.zeroCells z.cells n).toList 0 w (by rw [hl]; simpa using hc) (by rw [hl]; simpa using hf) (by
    intro v hv'
    simp only [Builtin.zeroCells, Array.toList_map, List.mem_map] at hv'
    obtain ⟨i, -, rfl⟩ := hv'
    refine h1 _ ?_
    have : i % z.cells.size < z.cells.size := Nat.mod_lt _ hz
    rw [getElem!_pos z.cells _ this]
    exact Array.mem_toList_iff.2 (Array.getElem_mem _))
  simp only [Nat.add_zero] at hst
  obtain ⟨m, rfl⟩ : ∃ m, n = m + 1 := ⟨n - 1, by omega⟩
  simp [Builtin.clear_, run_underlying ht, hv, hst]
section
variable {P : Program}
theorem wp_clear {o : Oper} {a : Act} {w : World} {K : Act → World → Prop} {Q : Exit → Act → World → Prop} (t e : TypeId) (s : Operand) (ho : o.op = .call { callee := .builtin .clear, args := #[s], argTypes := #[t] }) (z : Value) (ht : P.underlying t = some (.slice e)) (hv : ∀ w, (zeroValue e).run P w = .ok z w)
    (h1 : ∀ v ∈ z.cells.toList, v.oneCell' = true) (hz : 0 < z.cells.size) (b off n c : Nat) (hn : 0 < n) (hs : a.eval s = .slice (some ⟨b, off, none⟩) n c)
    (hc : ∀ j, j < n * z.cells.size → (w.cell? ⟨b, off + j, none⟩).isSome = true) (hf : ∀ j, j < n * z.cells.size → w.frozen? ⟨b, off + j, none⟩ = false)
    (h : K (a.put o.dst (.tuple #[])) (w.setCells b off (Builtin.zeroCells z.cells n).toList)) : o.wp P a w K Q := by
  have hrun := run_clear_wide w t e o.type z ht hv h1 hz b off n c hn hc hf
  unfold Oper.wp execOp
  simp only [ho, resolve, invoke, builtin, Sem.run_bind, Sem.run_pure, Result.andThen_ok, List.map_toArray, List.map_cons, List.map_nil, hs, hrun]
  exact h
theorem wpList_clear {ops : Array Oper} {rest : List Oper} {o : Oper} {a : Act} {w : World} {Q : Exit → Act → World → Prop} (hgd : o.guard = none) (t e : TypeId) (s : Operand) (ho : o.op = .call { callee := .builtin .clear, args := #[s], argTypes := #[t] }) (z : Value) (ht : P.underlying t = some (.slice e)) (hv : ∀ w, (zeroValue e).run P w = .ok z w)
    (h1 : ∀ v ∈ z.cells.toList, v.oneCell' = true) (hz : 0 < z.cells.size) (b off n c : Nat) (hn : 0 < n) (hs : a.eval s = .slice (some ⟨b, off, none⟩) n c)
    (hc : ∀ j, j < n * z.cells.size → (w.cell? ⟨b, off + j, none⟩).isSome = true) (hf : ∀ j, j < n * z.cells.size → w.frozen? ⟨b, off + j, none⟩ = false)
    (h : wpList P ops Q rest (a.put o.dst (.tuple #[])) (w.setCells b off (Builtin.zeroCells z.cells n).toList)) : wpList P ops Q (o :: rest) a w :=
  wpList_plain hgd fun _ hK => wp_clear t e s ho z ht hv h1 hz b off n c hn hs hc hf (hK _ _ h)
end
/-! A cluster without a pod. -/
def isN (name : ByteArray) (p : Pd) : Bool := decide (p.name = name)
set_option maxHeartbeats 1000000 in
theorem drop1_calls (c : List Value) (x : Pd) (name : ByteArray) (nb : Nat) (w : World) (hk : ∃ h, Kd.pod.K h x c) (hn : w.cell? ⟨nb, 0, none⟩ = some (.string name)) (hlt : nb < w.heap.size) :
    Calls Try.prog 58 #[.agg c.toArray, .pointer (some ⟨nb, 0, none⟩)] w (BoolDone (isN name x) w) := by
  obtain ⟨h, B1, d1, B2, d2, B3, d3, B4, d4, rfl, -⟩ := hk
  have e1 := eq_beq x.name name
  have HX : Hid (isN name x = decide (x.name = name)) := rfl
  obtain ⟨m, hm⟩ : ∃ m, decide (x.name = name) = m := ⟨_, rfl⟩
  rw [hm] at e1
  have HM := Lib.hid hm
  clear hm
  go_enter Try.func58, Try.ntmps58
  go_wp2
  go_ret
  exact ⟨ret_bool (by rw [HX.out, HM.out]), alloc_below _ _⟩
def IdxDone (pd : Pd → Bool) (xs : List Pd) (w : World) (e : Ending) (w' : World) : Prop :=
  Below w.heap.size w w' ∧ (((∀ x ∈ xs, pd x = false) ∧ e = .returned (.int .i64 (-1))) ∨ ∃ i : Nat, ∃ h : i < xs.length, pd xs[i] = true ∧ (∀ x ∈ xs.take i, pd x = false) ∧ e = .returned (.int .i64 (i : Int)))
theorem take_none {xs : List Pd} {pd : Pd → Bool} {k : Nat} (hk : k < xs.length) (h : ∀ x ∈ xs.take k, pd x = false) (h2 : pd xs[k] = false) : ∀ x ∈ xs.take (k + 1), pd x = false := fun x hx => by
  rw [List.take_succ_eq_append_getElem hk, List.mem_append] at hx
  rcases hx with hx | hx
  · exact h x hx
  · obtain rfl : x = xs[k] := by simpa using hx
    exact h2
set_option maxHeartbeats 4000000 in
set_option maxRecDepth 100000 in
theorem index_calls (g cap nb : Nat) (name : ByteArray) (xs : List Pd) (css : List (List Value)) (h0 : View) (w : World) (hl : css.length = xs.length) (hk : ∀ (t : Nat) (ht : t < xs.length) (hc : t < css.length), Kd.pod.K h0 xs[t] css[t])
    (hr : Rw w g 11 css) (hn : w.cell? ⟨nb, 0, none⟩ = some (.string name)) (hnb : nb < w.heap.size) (hx : xs.length ≤ 1000) (hcap : xs.length ≤ cap) :
    Calls Try.prog 73 #[.slice (some ⟨g, 0, none⟩) xs.length cap, .func (.func 58) #[] #[.pointer (some ⟨nb, 0, none⟩)]] w (IdxDone (isN name) xs w) := by
  have HL := Lib.hid hl
  have HK := Lib.hid hk
  have HR := Lib.hid hr
  have HN := Lib.hid hn
  clear hl hk hr hn
  go_enter Try.func73, Try.ntmps73
  go_wp2
  go_loopw [8] (fun i wr => ∃ k : Nat, k ≤ xs.length ∧ i = .int .i64 k ∧ Hid (∀ x ∈ xs.take k, isN name x = false) ∧ Hid (Below w.heap.size w wr)) (fun i _ => xs.length - (intOf i).toNat)
  case atStart => exact ⟨0, Nat.zero_le _, rfl, fun x hx => by simp at hx, Below.refl _ _⟩
  case round =>
    obtain ⟨k, hk, rfl, HP, HB⟩ := hrel
    by_cases hlt : k < xs.length
    · have hlc : k < css.length := by have := HL.out; omega
      obtain ⟨c, hc⟩ : ∃ c, css[k]'hlc = c := ⟨_, rfl⟩
      have hkc := HK.out k hlt hlc
      rw [hc] at hkc
      have HKC := Lib.hid hkc
      have hcl := (HR.out.len c (hc ▸ List.getElem_mem hlc))
      have HC : Hid (wr.rangeAt g (k * 11) c) := (HR.out.below HB.out).at_ k c (by rw [List.getElem?_eq_getElem hlc, hc])
      have hnc : wr.cell? ⟨nb, 0, none⟩ = some (.string name) := keep_cell HB.out HN.out
      have HNC := Lib.hid hnc
      obtain ⟨m, hm⟩ : ∃ m, isN name xs[k] = m := ⟨_, rfl⟩
      have HM := Lib.hid hm
      have hsz := HB.out.size
      clear hc hkc hnc hm
      obtain ⟨B1, d1, B2, d2, B3, d3, B4, d4, rfl, -⟩ := id HKC.out
      clear hcl
      go_wp2_with (with_reducible refine wpList_load_mid rfl 35 _ rfl g (k * 11) rfl _ _ HC.out Try.underlying35 rfl (by kernel_rfl) ?_)
      refine (drop1_calls _ xs[k] name nb _ ⟨_, HKC.out⟩ HNC.out (by omega)).mono ?_
      rintro e w1 ⟨rfl, hb⟩
      rw [HM.out]
      replace HB := Lib.hid (Below.then HB.out hb)
      clear hb
      cases m with
      | true =>
        go_wp2
        go_ret
        exact ⟨HB.out, .inr ⟨k, hlt, HM.out, HP.out, rfl⟩⟩
      | false =>
        have HP2 := Lib.hid (take_none hlt HP.out HM.out)
        go_wp2
        go_roundw
        case rel => exact ⟨k + 1, by omega, by go_num, HP2.out, HB.out⟩
        case measure => simp [intOf]; omega
    · obtain rfl : k = xs.length := by omega
      have hp := HP.out
      rw [List.take_length] at hp
      have HP2 := Lib.hid hp
      clear hp
      go_wp2
      go_ret
      exact ⟨HB.out, .inl ⟨HP2.out, rfl⟩⟩
end Go.Proofs.Ytfbmfjmnpfidoaa
namespace Go.Proofs.Ytfbmfjmnpfidoaa
open Go.RowKit

/-! What Check tells, in plain words; the sums over domains. -/
theorem orV_zero {a b : Int} (h : orV a b = 0) : a = 0 ∧ b = 0 := by
  unfold orV at h
  by_cases k : a ≠ 0
  · rw [if_pos k] at h; exact absurd h k
  · rw [if_neg k] at h; exact ⟨Decidable.not_not.1 k, h⟩
theorem manyV_zero {α : Type} {lim : Nat} {l : List α} {n : Int} (h : manyV lim l n = 0) : l.length ≤ lim ∧ n = 0 := by
  unfold manyV at h
  split at h
  · cases h
  · exact ⟨by omega, h⟩
theorem ltS_trans {a b c : ByteArray} (h : ltS a b = true) (k : ltS b c = true) : ltS a c = true := by
  unfold ltS at *
  simp only [decide_eq_true_eq] at *
  exact Std.lt_of_lt_of_le h (Std.le_of_lt k)
theorem ltS_ne {a b : ByteArray} (h : ltS a b = true) : a ≠ b := by
  rintro rfl
  unfold ltS at h
  simp only [decide_eq_true_eq] at h
  exact Std.lt_irrefl h
theorem rowsV_zero {α : Type} {f : α → Int} {nm : α → ByteArray} : ∀ {l : List α} {p : Option ByteArray}, rowsV f nm p l = 0 →
    (∀ x ∈ l, f x = 0) ∧ l.Pairwise (fun a b => ltS (nm a) (nm b) = true) ∧ ∀ q, p = some q → ∀ x ∈ l, ltS q (nm x) = true
  | [], _, _ => ⟨fun _ h => (by cases h), List.Pairwise.nil, fun _ _ _ h => (by cases h)⟩
  | x :: r, p, h => by
    unfold rowsV at h
    obtain ⟨h1, h2⟩ := orV_zero h
    split at h2
    · cases h2
    · rename_i hl
      obtain ⟨i1, i2, i3⟩ := rowsV_zero h2
      have hx := i3 (nm x) rfl
      refine ⟨fun y hy => ?_, List.pairwise_cons.2 ⟨hx, i2⟩, fun q hq y hy => ?_⟩
      · rcases List.mem_cons.1 hy with rfl | hy
        · exact h1
        · exact i1 y hy
      · subst hq
        have h3 : ltS q (nm x) = true := by
          cases hc : ltS q (nm x) with
          | true => rfl
          | false => exact absurd (show (!ltS q (nm x)) = true by rw [hc]; rfl) hl
        rcases List.mem_cons.1 hy with rfl | hy
        · exact h3
        · exact ltS_trans h3 (hx y hy)
theorem check_parts {s : St} (h : checkSt s = 0) : checkNodes s.nodes = 0 ∧ checkPods s.pods = 0 := by
  unfold checkSt at h
  obtain ⟨h1, h⟩ := orV_zero h
  exact ⟨h1, (orV_zero h).1⟩
theorem check_labels {s : St} (h : checkSt s = 0) : ∀ n ∈ s.nodes, ∀ x ∈ n.labels, isName x.val = true := by
  intro n hn x hx
  have h1 := (manyV_zero (check_parts h).1).2
  have h2 := (rowsV_zero h1).1 n hn
  unfold checkNode at h2
  obtain ⟨-, h2⟩ := orV_zero h2
  obtain ⟨-, h2⟩ := orV_zero h2
  obtain ⟨h2, -⟩ := orV_zero h2
  have h3 := (rowsV_zero (manyV_zero h2).2).1 x hx
  unfold pairV at h3
  cases hv : isName x.val with
  | true => rfl
  | false => rw [hv] at h3; split at h3 <;> cases h3
theorem pods_names {s : St} (h : checkSt s = 0) : s.pods.Pairwise (fun a b => ltS a.name b.name = true) := (rowsV_zero (manyV_zero (check_parts h).2).2).2.1
theorem findV_mem : ∀ {l : List Nd} {k : ByteArray}, (findV l k).2 = true → (findV l k).1 ∈ l
  | n :: r, k, h => by
    unfold findV at *
    by_cases e : n.name = k
    · rw [if_pos e]; exact List.mem_cons_self ..
    · rw [if_neg e] at h ⊢; exact List.mem_cons_of_mem _ (findV_mem h)
theorem getV_mem : ∀ {l : List Pair} {k : ByteArray}, (getV l k).2 = true → ∃ x ∈ l, (getV l k).1 = x.val
  | p :: r, k, h => by
    unfold getV at *
    by_cases e : p.key = k
    · rw [if_pos e]; exact ⟨p, List.mem_cons_self .., rfl⟩
    · rw [if_neg e] at h ⊢
      obtain ⟨x, hx, e⟩ := getV_mem h
      exact ⟨x, List.mem_cons_of_mem _ hx, e⟩
theorem dom_found {s : St} {name key : ByteArray} (h : (domV s name key).2 = true) : (findV s.nodes name).2 = true := by
  cases hf : (findV s.nodes name).2 with
  | true => rfl
  | false =>
    unfold domV at h
    rw [find_none hf] at h
    cases h
theorem dom_mem {s : St} {name key : ByteArray} (h : (domV s name key).2 = true) : bs (domV s name key).1 ∈ domsV s.nodes key := by
  unfold domsV
  rw [insAll_mem]
  refine List.mem_map.2 ⟨(domV s name key).1, ?_, rfl⟩
  unfold domsL
  refine List.mem_filterMap.2 ⟨(findV s.nodes name).1, findV_mem (dom_found h), ?_⟩
  show (if (domV s name key).2 = true then some (domV s name key).1 else none) = _
  rw [if_pos h]
def blank : ByteArray := ⟨#[110, 111, 32, 119, 104, 101, 114, 101]⟩
theorem no_where {s : St} (h : checkSt s = 0) (p : Pd) (l : List Pd) : countV s p blank l = 0 := by
  unfold countV
  rw [List.countP_eq_zero]
  intro x _ hx
  simp only [Bool.and_eq_true] at hx
  obtain ⟨-, hd⟩ := hx
  unfold inDom at hd
  simp only [Bool.and_eq_true, decide_eq_true_eq] at hd
  obtain ⟨h1, h2⟩ := hd
  obtain ⟨y, hy, e⟩ := getV_mem (show (getV (findV s.nodes x.node).1.labels p.key).2 = true from h1)
  have hn := check_labels h _ (findV_mem (dom_found h1)) y hy
  rw [← e, show (getV (findV s.nodes x.node).1.labels p.key).1 = blank from h2] at hn
  revert hn
  decide
def sumC (s : St) (p : Pd) (l : List (List UInt8)) : Nat := (l.map fun d => countV s p (ba d) s.pods).sum
def wantV (s : St) (p : Pd) (l : List Pd) : Nat := l.countP fun x => other p x && (domV s x.node p.key).2
theorem sum_add {α : Type} (f g : α → Nat) : ∀ l : List α, (l.map fun d => f d + g d).sum = (l.map f).sum + (l.map g).sum
  | [] => rfl
  | a :: r => by simp only [List.map_cons, List.sum_cons, sum_add f g r]; omega
theorem sum_none {α : Type} (f : α → Nat) : ∀ l : List α, (∀ x ∈ l, f x = 0) → (l.map f).sum = 0
  | [], _ => rfl
  | a :: r, h => by rw [List.map_cons, List.sum_cons, h a (List.mem_cons_self ..), sum_none f r (fun x hx => h x (List.mem_cons_of_mem _ hx))]
theorem sum_one {v : List UInt8} : ∀ l : List (List UInt8), l.Nodup → v ∈ l → (l.map fun d => if d = v then 1 else 0).sum = 1
  | a :: r, hn, hv => by
    obtain ⟨h1, h2⟩ := List.nodup_cons.1 hn
    rw [List.map_cons, List.sum_cons]
    by_cases e : a = v
    · subst e
      rw [if_pos rfl, sum_none _ r (fun x hx => if_neg (fun k : x = a => h1 (k ▸ hx)))]
    · rw [if_neg e, sum_one r h2 ((List.mem_cons.1 hv).resolve_left (fun k => e k.symm))]
theorem rises_nodup {l : List (List UInt8)} (h : Rises l) : l.Nodup := List.Pairwise.imp (fun k e => by subst e; exact Std.lt_irrefl k) h
theorem one_dom (s : St) (p : Pd) (x : Pd) : ((domsV s.nodes p.key).map fun d => if (other p x && inDom s x.node p.key (ba d)) = true then 1 else 0).sum = if (other p x && (domV s x.node p.key).2) = true then 1 else 0 := by
  cases ho : other p x with
  | false => simp only [Bool.false_and]; exact (sum_none _ _ (fun _ _ => rfl)).trans rfl
  | true =>
    simp only [Bool.true_and]
    cases hd : (domV s x.node p.key).2 with
    | false =>
      rw [sum_none _ _ (fun d _ => by unfold inDom; rw [hd]; rfl)]
      rfl
    | true =>
      have he : ∀ d, (if inDom s x.node p.key (ba d) = true then 1 else 0) = if d = bs (domV s x.node p.key).1 then 1 else 0 := fun d => by
        have : inDom s x.node p.key (ba d) = decide (d = bs (domV s x.node p.key).1) := by
          unfold inDom
          rw [hd, Bool.true_and]
          by_cases e : d = bs (domV s x.node p.key).1
          · rw [decide_eq_true e, decide_eq_true (by rw [e]; rfl)]
          · rw [decide_eq_false e, decide_eq_false (fun k => e (by rw [k]; rfl))]
        rw [this]; simp
      simp only [he]
      rw [sum_one _ (rises_nodup (domsV_rises _ _)) (dom_mem hd)]
      rfl
theorem sums_at (s : St) (p : Pd) : ∀ l : List Pd, ((domsV s.nodes p.key).map fun d => countV s p (ba d) l).sum = wantV s p l
  | [] => sum_none _ _ (fun _ _ => rfl)
  | x :: r => by
    have h1 : ∀ d, countV s p (ba d) (x :: r) = countV s p (ba d) r + if (other p x && inDom s x.node p.key (ba d)) = true then 1 else 0 := fun d => List.countP_cons
    simp only [h1]
    rw [sum_add, sums_at s p r, one_dom]
    exact List.countP_cons.symm
theorem sums_eq (s : St) (p : Pd) : sumC s p (domsV s.nodes p.key) = wantV s p s.pods := sums_at s p s.pods
theorem sumC_snoc (s : St) (p : Pd) {l : List (List UInt8)} {k : Nat} (h : k < l.length) : sumC s p (l.take (k + 1)) = sumC s p (l.take k) + countV s p (ba l[k]) s.pods := by
  unfold sumC
  rw [List.take_succ_eq_append_getElem h, List.map_append, List.sum_append]
  simp
theorem sumC_le (s : St) (p : Pd) : ∀ l : List (List UInt8), sumC s p l ≤ l.length * s.pods.length
  | [] => by simp [sumC]
  | a :: r => by
    have h1 := sumC_le s p r
    have h2 := countV_le s p (ba a) s.pods
    unfold sumC at h1 ⊢
    rw [List.map_cons, List.sum_cons, List.length_cons, Nat.add_mul]
    omega
theorem wantV_snoc (s : St) (p : Pd) {l : List Pd} {k : Nat} (h : k < l.length) : wantV s p (l.take (k + 1)) = wantV s p (l.take k) + if (other p l[k] && (domV s l[k].node p.key).2) = true then 1 else 0 := by
  unfold wantV
  rw [List.take_succ_eq_append_getElem h, List.countP_append, List.countP_singleton]
theorem wantV_le (s : St) (p : Pd) (l : List Pd) : wantV s p l ≤ l.length := List.countP_le_length
end Go.Proofs.Ytfbmfjmnpfidoaa
namespace Go.Proofs.Ytfbmfjmnpfidoaa
open Go.RowKit

/-! Who stands too close: the plain law of what SpreadBad asks. -/
def isNm (name : ByteArray) (p : Pd) : Bool := decide (p.name = name)
def dropS (s : St) (name : ByteArray) : St := { s with pods := s.pods.filter fun p => !isNm name p }
theorem count_drop (s : St) (p : Pd) (dom : ByteArray) : countV (dropS s p.name) p dom (dropS s p.name).pods = countV s p dom s.pods := by
  unfold countV
  show List.countP _ (s.pods.filter _) = _
  rw [List.countP_filter]
  congr 1
  funext x
  show (other p x && inDom s x.node p.key dom && !isNm p.name x) = _
  cases ho : other p x with
  | false => simp
  | true =>
    have : isNm p.name x = false := by
      unfold other at ho
      simp only [Bool.and_eq_true, Bool.not_eq_true', decide_eq_false_iff_not] at ho
      unfold isNm
      exact decide_eq_false ho.2.2.2.1
    rw [this]; simp
theorem skew_drop (s : St) (p : Pd) (n : ByteArray) : skewV (dropS s p.name) p n = skewV s p n := by
  have hl : ∀ (own : ByteArray) (here : Nat) (l : List (List UInt8)), leastV (dropS s p.name) p own here l = leastV s p own here l := fun own here l => by
    unfold leastV
    simp only [count_drop]
  have hh : ∀ own, hereV (dropS s p.name) p own = hereV s p own := fun own => by unfold hereV; rw [count_drop]
  unfold skewV
  simp only [hl, hh]
  rfl
theorem count_lt (s : St) (p : Pd) (dom : ByteArray) : ∀ {l : List Pd}, p ∈ l → countV s p dom l + 1 ≤ l.length
  | x :: r, h => by
    have h1 : countV s p dom (x :: r) = countV s p dom r + if (other p x && inDom s x.node p.key dom) = true then 1 else 0 := List.countP_cons
    rw [h1, List.length_cons]
    have h2 := countV_le s p dom r
    rcases List.mem_cons.1 h with e | e
    · have : other p x = false := by subst e; simp [other]
      rw [this, Bool.false_and, if_neg (by decide)]; omega
    · have := count_lt s p dom e
      split <;> omega
theorem skew_le {s : St} {p : Pd} {n : ByteArray} (h : p ∈ s.pods) : (skewV s p n).1 ≤ s.pods.length := by
  unfold skewV
  split
  · exact Int.natCast_nonneg _
  · split
    · have := count_lt s p (domV s n p.key).1 h
      show ((hereV s p (domV s n p.key).1 : Nat) : Int) - _ ≤ _
      unfold hereV
      omega
    · exact Int.natCast_nonneg _
theorem names_ne {s : St} (h : checkSt s = 0) {i j : Nat} (hi : i < j) (hj : j < s.pods.length) : s.pods[i].name ≠ s.pods[j].name :=
  ltS_ne ((List.pairwise_iff_getElem.1 (pods_names h)) i j (by omega) hj hi)
theorem badL_split (s : St) (i : Nat) : badL s s.pods = badL s (s.pods.take i) ++ badL s (s.pods.drop i) := by
  unfold badL
  rw [← List.map_append, ← List.filter_append, List.take_append_drop]
/-- Is a pod the next one that stands too close? -/
theorem bad_found {s : St} (h : checkSt s = 0) {i : Nat} (hi : i < s.pods.length) :
    (badB s s.pods[i] = true → ∃ hk : (badL s (s.pods.take i)).length < (badL s s.pods).length, (badL s s.pods)[(badL s (s.pods.take i)).length] = s.pods[i].name) ∧
    (badB s s.pods[i] = false → ∀ hk : (badL s (s.pods.take i)).length < (badL s s.pods).length, (badL s s.pods)[(badL s (s.pods.take i)).length] ≠ s.pods[i].name) := by
  have hs := badL_split s i
  obtain ⟨K, hK⟩ : ∃ K, badL s s.pods = K := ⟨_, rfl⟩
  obtain ⟨A, hA⟩ : ∃ A, badL s (s.pods.take i) = A := ⟨_, rfl⟩
  rw [hK, hA] at hs
  rw [hK, hA]
  constructor
  · intro hb
    have hd : badL s (s.pods.drop i) = s.pods[i].name :: badL s (s.pods.drop (i + 1)) := by
      unfold badL
      rw [List.drop_eq_getElem_cons hi, List.filter_cons, if_pos hb, List.map_cons]
    rw [hd] at hs
    subst hs
    exact ⟨by simp, by simp⟩
  · intro hb hk he
    have hd : badL s (s.pods.drop i) = badL s (s.pods.drop (i + 1)) := by
      unfold badL
      rw [List.drop_eq_getElem_cons hi, List.filter_cons, if_neg (by rw [hb]; decide)]
    rw [hd] at hs
    subst hs
    rw [List.getElem_append_right (Nat.le_refl _)] at he
    have hm : s.pods[i].name ∈ badL s (s.pods.drop (i + 1)) := by rw [← he]; exact List.getElem_mem _
    unfold badL at hm
    obtain ⟨x, hx, e⟩ := List.mem_map.1 hm
    obtain ⟨hx, -⟩ := List.mem_filter.1 hx
    obtain ⟨t, ht, rfl⟩ := List.getElem_of_mem hx
    rw [List.length_drop] at ht
    rw [List.getElem_drop] at e
    exact names_ne h (i := i) (j := i + 1 + t) (by omega) (by omega) e.symm
end Go.Proofs.Ytfbmfjmnpfidoaa
namespace Go.Proofs.Ytfbmfjmnpfidoaa
open Go.RowKit Go.Sort

theorem Rw.S {α : Type} {d : Kd α} {w : World} {g cap : Nat} {css : List (List Value)} {ys : List α} (h : Rw w g d.sz css) (hm : ys.length ≤ css.length) (hk : ∀ (t : Nat) (ht : t < ys.length), d.K (vw w []) ys[t] (css[t]'(by omega))) (hc : ys.length ≤ cap) (hl : ys.length ≤ 140737488351232) :
    d.S (vw w []) (.slice (some ⟨g, 0, none⟩) ys.length cap) ys := by
  refine ⟨_, cap, rfl, hc, hl, fun e => (by cases e), fun _ => ⟨g, 0, rfl, fun j x hx => ?_⟩⟩
  have hj := (List.getElem?_eq_some_iff.1 hx).1
  obtain rfl : ys[j] = x := by rw [List.getElem?_eq_getElem hj] at hx; injection hx
  refine ⟨css[j]'(by omega), hk j hj, fun i u hu => ?_⟩
  rw [Nat.zero_add]
  exact Kd.vw_cell (h.at_ j _ (List.getElem?_eq_getElem (by omega)) i u hu)
/-- The cells behind a slice, one list for each element. -/
theorem Kd.S.lists {α : Type} {d : Kd α} {w : World} {A : Option Addr} {n cap : Nat} {xs : List α} (s : d.S (vw w []) (.slice A n cap) xs) :
    ∃ css : List (List Value), css.length = xs.length ∧ (∀ (t : Nat) (ht : t < xs.length) (hc : t < css.length), d.K (vw w []) xs[t] css[t]) ∧ (A = none → xs.length = 0) ∧ ∀ ad, A = some ad → ∀ j u, css.flatten[j]? = some u → w.cell? (ad.add j) = some u := by
  rcases Nat.eq_zero_or_pos xs.length with h0 | hp
  · exact ⟨[], by simp [h0], fun t ht => by omega, fun _ => h0, fun ad _ j u hu => by simp at hu⟩
  · obtain ⟨b, off, cs0, rfl, k0, -⟩ := s.elem 0 hp
    have key : ∀ i, i < xs.length → ∃ cs : List Value, (∀ h : i < xs.length, d.K (vw w []) xs[i] cs) ∧ ∀ j u, cs[j]? = some u → w.cell? ⟨b, off + i * d.sz + j, none⟩ = some u := fun i hi => by
      obtain ⟨b', off', cs, e, k, c⟩ := s.elem i hi
      injection e with e
      injection e with e1 e2
      subst e1 e2
      exact ⟨cs, fun _ => k, fun j u hu => cell_of_vw (c j u hu)⟩
    obtain ⟨Y, hY⟩ := Deep.choose_lt key
    have hlen : ∀ c ∈ (List.range xs.length).map Y, c.length = d.sz := fun c hc => by
      obtain ⟨i, hi, rfl⟩ := List.mem_map.1 hc
      have hi := List.mem_range.1 hi
      exact d.len ((hY i hi).1 hi)
    refine ⟨(List.range xs.length).map Y, by simp, fun t ht hc => (by simpa using (hY t ht).1 ht), fun e => (by cases e), fun ad e j u hu => ?_⟩
    cases e
    rcases Nat.eq_zero_or_pos d.sz with hz | hz
    · have : ((List.range xs.length).map Y).flatten.length = 0 := by rw [flatten_len _ hlen, hz]; simp
      have := (List.getElem?_eq_some_iff.1 hu).1
      omega
    · have hjl := (List.getElem?_eq_some_iff.1 hu).1
      rw [flatten_len _ hlen] at hjl
      have ht : j / d.sz < xs.length := by
        rw [List.length_map, List.length_range] at hjl
        exact Nat.div_lt_of_lt_mul (by rw [Nat.mul_comm]; exact hjl)
      have hmod := Nat.mod_lt j hz
      have hdm := Nat.div_add_mod j d.sz
      have h4 := flatten_get _ hlen (j / d.sz) (j % d.sz) (Y (j / d.sz)) (by rw [List.getElem?_map, List.getElem?_range ht]; rfl) hmod
      rw [Nat.mul_comm, hdm, hu] at h4
      have := (hY _ ht).2 (j % d.sz) u h4.symm
      rw [Kd.addr_add]
      rw [← this]
      congr 2
      rw [Nat.mul_comm (j / d.sz)]; omega
theorem Rw.of_own {w : World} {base : Nat} {e : TypeId} {z : Nat} {v : Value} {n : Nat} {css : List (List Value)} (h : w.ownsRow base e z v n css.flatten) (hl : css.length = n) (hlen : ∀ c ∈ css, c.length = z) (hn : 0 < n) :
    ∃ g cap, v = .slice (some ⟨g, 0, none⟩) n cap ∧ base ≤ g ∧ n ≤ cap ∧ cap ≤ maxLen ∧ Rw w g z css := by
  rcases h.2 with ⟨-, h0⟩ | ⟨g, cap, cur, rfl, hg, hh, hnc, hcm, hs, ht⟩
  · omega
  · refine ⟨g, cap, rfl, hg, hnc, hcm, blk_lt hh, hlen, fun t c hc j u hu => ?_, fun x => by simp [World.frozen?, hh]⟩
    have hj : j < z := by have := (List.getElem?_eq_some_iff.1 hu).1; rw [hlen c (List.mem_of_getElem? hc)] at this; exact this
    have htl := (List.getElem?_eq_some_iff.1 hc).1
    have h4 := flatten_get css hlen t j c hc hj
    rw [hu, ← ht, List.getElem?_take, if_pos (by
      have := Nat.mul_le_mul_right z (show t + 1 ≤ n by omega)
      rw [Nat.add_mul] at this; omega)] at h4
    rw [cell_of_row w g _ _ _ _ hh]
    simpa using h4
theorem info_pod : (Try.prog.info? 35).map (fun i => (i.zero, i.size, i.bytes)) = some (some (.agg #[.string ⟨#[]⟩, .string ⟨#[]⟩, .int .i64 0, .slice none 0 0, .slice none 0 0, .slice none 0 0, .slice none 0 0, .string ⟨#[]⟩, .int .i64 0, .string ⟨#[]⟩, .bool false]), 11, 184) := by kernel_rfl
theorem own_emptyN (w : World) (T : TypeId) (z : Nat) : (w.alloc (.cells #[] T)).ownsRow w.heap.size T z (.slice (some ⟨w.heap.size, 0, none⟩) 0 0) 0 [] :=
  ⟨by simp, .inr ⟨w.heap.size, 0, #[], rfl, Nat.le_refl _, blk_last _ _, Nat.le_refl _, by simp [maxLen], by simp, by simp⟩⟩
def CloneDone (l : List Pd) (w0 w : World) (e : Ending) (w' : World) : Prop := Below w.heap.size w w' ∧
  ((l = [] ∧ ∃ A c, (A = none → c = 0) ∧ e = .returned (.slice A 0 c)) ∨ ∃ g cap css, 0 < l.length ∧ e = .returned (.slice (some ⟨g, 0, none⟩) l.length cap) ∧ w.heap.size ≤ g ∧ l.length ≤ cap ∧ cap ≤ maxLen ∧ Rw w' g 11 css ∧ css.length = l.length ∧ ∀ (t : Nat) (ht : t < l.length) (hc : t < css.length), Kd.pod.K (vw w0 []) l[t] css[t])
theorem clone_none {w0 w w' : World} (h : Below w.heap.size w w') : CloneDone [] w0 w (.returned (.slice none 0 0)) w' := ⟨h, .inl ⟨rfl, none, 0, fun _ => rfl, rfl⟩⟩
set_option maxHeartbeats 4000000 in
set_option maxRecDepth 100000 in
theorem Clone_calls (v : Value) (l : List Pd) (w0 w : World) (hb0 : Below w0.heap.size w0 w) (hs : Kd.pod.S (vw w0 []) v l) (hl : l.length ≤ 1000) :
    Calls Try.prog 57 #[v] w (CloneDone l w0 w) := by
  obtain ⟨i0, hi, hz0, hz1, hz2⟩ := info_parts info_pod
  obtain ⟨A, cap, rfl, hs⟩ := hs.val
  obtain ⟨css, hcl, hck, hcn, hcc⟩ := hs.lists
  cases A with
  | none =>
    obtain ⟨rfl, rfl⟩ := hs.cap_none
    clear hcc hcn hck hcl hs
    have hn : (binOp .eql 23 (.slice none 0 0) (.slice none 0 0)).run Try.prog w = .ok (.bool true) w := Lib.run_eql_slice_nil w 23 35 none 0 0 0 0 Try.underlying23
    go_enter Try.func57, Try.ntmps57
    go_wp2
    go_ret
    exact clone_none (Below.refl _ _)
  | some ad =>
    have hlen : ∀ c ∈ css, c.length = 11 := fun c hc => by
      obtain ⟨t, ht, rfl⟩ := List.getElem_of_mem hc
      exact Kd.pod.len (hck t (by omega) ht)
    have hfl := flatten_len css hlen
    have HCC : Hid (∀ j u, css.flatten[j]? = some u → w.cell? (ad.add j) = some u) := fun j u hu => by
      refine (hb0.cell ?_).trans (hcc ad rfl j u hu)
      have := hcc ad rfl j u hu
      unfold World.cell? at this
      split at this
      · rename_i e; exact blk_lt e
      · cases this
    have HCK := Lib.hid hck
    have HCL := Lib.hid hcl
    have HLEN := Lib.hid hlen
    have hfl2 : css.flatten.length = l.length * 11 := by rw [hfl, hcl]
    have HFL := Lib.hid hfl2
    have HONE : Hid (∀ u ∈ css.flatten, u.oneCell' = true) := fun u hu => by
      obtain ⟨c, hc, hu⟩ := List.mem_flatten.1 hu
      obtain ⟨t, ht, rfl⟩ := List.getElem_of_mem hc
      obtain ⟨B1, d1, B2, d2, B3, d3, B4, d4, e, -⟩ := hck t (by omega) ht
      rw [e] at hu
      simp at hu
      rcases hu with rfl | rfl | rfl | rfl | rfl | rfl | rfl | rfl | rfl | rfl | rfl <;> rfl
    have NEWS : Hid (∀ ad2, some ad = some ad2 → ∀ j u, css.flatten[j]? = some u → (w.alloc (.cells #[] 35)).cell? (ad2.add j) = some u) := fun ad2 e j u hu => by
      cases e
      exact Lib.cell?_alloc_some _ (HCC.out j u hu)
    clear hcc hcn hck hcl hs hlen hfl hfl2
    have hn : (binOp .eql 23 (.slice (some ad) l.length cap) (.slice none 0 0)).run Try.prog w = .ok (.bool false) w := Lib.run_eql_slice_nil w 23 35 (some ad) l.length cap 0 0 Try.underlying23
    go_enter Try.func57, Try.ntmps57
    go_wp2_with (at_builtin; refine wpList_app _ w.heap.size 23 35 i0 _ 11 184 Try.underlying23 hi hz0 hz1 hz2 rfl (by decide) _ 0 [] (own_emptyN w 35 11) (some ad) l.length cap css.flatten HFL.out (fun e => by cases e) NEWS.out HONE.out (by simp only [maxLen]; omega) (by omega) (by simp) _ _ rfl rfl rfl rfl ?_)
    intro v1 w1 ho1 hg1 hv1
    have HB1 := Lib.hid ((alloc_below w (.cells #[] 35)).grown hg1 (by simp) (fun q hq => ((own_emptyN w 35 11).lt q hq).1))
    have HO1 := Lib.hid ho1
    clear ho1 hg1 hv1 hn
    go_wp2
    go_ret
    refine ⟨HB1.out, ?_⟩
    rcases Nat.eq_zero_or_pos l.length with h0 | hp
    · left
      refine ⟨List.eq_nil_of_length_eq_zero h0, ?_⟩
      rcases HO1.out.2 with ⟨e, -⟩ | ⟨g, cp, cur, e, -⟩
      · exact ⟨none, 0, fun _ => rfl, by rw [show Ending.returned (.slice none 0 0) = .returned v1 by rw [e]]; rfl⟩
      · exact ⟨some ⟨g, 0, none⟩, cp, fun e => (by cases e), by rw [show Ending.returned (.slice (some ⟨g, 0, none⟩) 0 cp) = .returned v1 by rw [e, h0]]; rfl⟩
    · right
      obtain ⟨g, cp, rfl, h1, h2, h3, h4⟩ := Rw.of_own HO1.out HCL.out HLEN.out hp
      exact ⟨g, cp, css, hp, rfl, h1, h2, h3, h4, HCL.out, HCK.out⟩
end Go.Proofs.Ytfbmfjmnpfidoaa
namespace Go.Proofs.Ytfbmfjmnpfidoaa
open Go.RowKit Go.Sort

def keepL (name : ByteArray) (l : List Pd) : List Pd := l.filter fun p => !isN name p
theorem keepL_snoc (name : ByteArray) {l : List Pd} {k : Nat} (h : k < l.length) : keepL name (l.take (k + 1)) = keepL name (l.take k) ++ if isN name l[k] = true then [] else [l[k]] := by
  unfold keepL
  rw [List.take_succ_eq_append_getElem h, List.filter_append]
  congr 1
  cases hb : isN name l[k] <;> simp [hb]
theorem keepL_all (name : ByteArray) {l : List Pd} (h : ∀ x ∈ l, isN name x = false) : keepL name l = l := by
  unfold keepL
  rw [List.filter_eq_self]
  intro x hx
  rw [h x hx]; rfl
theorem pod_zero : ∀ w, (zeroValue 35).run Try.prog w = .ok (.agg #[.string ⟨#[]⟩, .string ⟨#[]⟩, .int .i64 0, .slice none 0 0, .slice none 0 0, .slice none 0 0, .slice none 0 0, .string ⟨#[]⟩, .int .i64 0, .string ⟨#[]⟩, .bool false]) w := by
  obtain ⟨i0, hi, hz0, -, -⟩ := info_parts info_pod
  intro w
  simp [zeroValue, typeInfo, hi, hz0]
/-- Where elements lie in a row that was written: those that are kept ahead, those to come as they were. -/
structure Kept (name : ByteArray) (h0 : View) (l : List Pd) (css cur : List (List Value)) (i j : Nat) : Prop where
  len : cur.length = css.length
  ahead : i = (keepL name (l.take j)).length
  kept : ∀ (t : Nat) (ht : t < (keepL name (l.take j)).length) (hc : t < cur.length), Kd.pod.K h0 (keepL name (l.take j))[t] cur[t]
  rest : ∀ t, j ≤ t → cur[t]? = css[t]?
theorem Rw.some {w : World} {g z : Nat} {css : List (List Value)} (h : Rw w g z css) (hz : 0 < z) {x : Nat} (hx : x < css.length * z) : (w.cell? ⟨g, x, none⟩).isSome = true := by
  have ht : x / z < css.length := Nat.div_lt_of_lt_mul (by rw [Nat.mul_comm]; exact hx)
  have hm := Nat.mod_lt x hz
  have := (h.there ht (x % z) hm).1
  rwa [Nat.mul_comm, Nat.div_add_mod] at this
theorem Rw.front {w : World} {g z : Nat} {css : List (List Value)} (h : Rw w g z css) (i : Nat) (cs : List Value) : Rw (w.setCells g (i * z) cs) g z (css.take i) := by
  refine ⟨by rw [setCells_size]; exact h.lt, fun c hc => h.len c (List.mem_of_mem_take hc), fun t c hc j v hv => ?_, fun x => by rw [World.frozen?_setCells]; exact h.free x⟩
  rw [List.getElem?_take] at hc
  split at hc
  · rename_i hti
    have hj := (List.getElem?_eq_some_iff.1 hv).1
    have hl := h.len c (List.mem_of_getElem? hc)
    rw [World.cell?_setCells_out g cs (i * z) w ⟨g, t * z + j, none⟩ (fun _ _ => by
      have := Nat.mul_le_mul_right z (show t + 1 ≤ i by omega)
      rw [Nat.add_mul] at this
      left
      show t * z + j < i * z
      omega)]
    exact h.at_ t c hc j v hv
  · cases hc
def DelDone (l : List Pd) (name : ByteArray) (h0 : View) (w0 w : World) (e : Ending) (w' : World) : Prop := Below w0.heap.size w0 w' ∧
  ∃ g cap cur, w0.heap.size ≤ g ∧ e = .returned (.slice (some ⟨g, 0, none⟩) (keepL name l).length cap) ∧ (keepL name l).length ≤ cap ∧ Rw w' g 11 cur ∧ (keepL name l).length ≤ cur.length ∧ ∀ (t : Nat) (ht : t < (keepL name l).length) (hc : t < cur.length), Kd.pod.K h0 (keepL name l)[t] cur[t]
theorem Below.setCells' {w0 w : World} (h : Below w0.heap.size w0 w) {g : Nat} (hg : w0.heap.size ≤ g) (cs : List Value) (o : Nat) : Below w0.heap.size w0 (w.setCells g o cs) := Below.setCells h hg cs o
set_option maxHeartbeats 8000000 in
set_option maxRecDepth 100000 in
theorem Delete_calls (g cap nb : Nat) (name : ByteArray) (l : List Pd) (css : List (List Value)) (h0 : View) (w0 w : World) (hb0 : Below w0.heap.size w0 w) (hg : w0.heap.size ≤ g) (hl : css.length = l.length) (hk : ∀ (t : Nat) (ht : t < l.length) (hc : t < css.length), Kd.pod.K h0 l[t] css[t])
    (hr : Rw w g 11 css) (hn : w0.cell? ⟨nb, 0, none⟩ = some (.string name)) (hx : l.length ≤ 1000) (hcap : l.length ≤ cap) (hcm : cap ≤ maxLen) :
    Calls Try.prog 56 #[.slice (some ⟨g, 0, none⟩) l.length cap, .func (.func 58) #[] #[.pointer (some ⟨nb, 0, none⟩)]] w (DelDone l name h0 w0 w) := by
  unfold maxLen at hcm
  have hnlt : nb < w0.heap.size := cell_lt hn
  have HL := Lib.hid hl
  have HK := Lib.hid hk
  have HR := Lib.hid hr
  have HN := Lib.hid hn
  have HB := Lib.hid hb0
  clear hl hk hr hn hb0
  go_enter Try.func56, Try.ntmps56
  go_wp2_with fail
  refine (index_calls g cap nb name l css h0 _ HL.out HK.out HR.out (keep_cell HB.out HN.out) (by have := HB.out.size; omega) hx hcap).mono ?_
  rintro e w1 ⟨hb, hor⟩
  replace HR := Lib.hid (HR.out.below hb)
  replace HB := Lib.hid (Below.then HB.out hb)
  clear hb
  rcases hor with ⟨hall, rfl⟩ | ⟨i, hil, hpi, hbi, rfl⟩
  · have hka := keepL_all name hall
    have HKA := Lib.hid hka
    clear hall hka
    go_wp2
    go_ret
    refine ⟨HB.out, g, cap, css, hg, ?_, ?_, HR.out, ?_, ?_⟩
    · rw [HKA.out]; rfl
    · rw [HKA.out]; exact hcap
    · rw [HKA.out, HL.out]; exact Nat.le_refl _
    · rw [HKA.out]; exact HK.out
  have HST : Hid (Kept name h0 l css css i (i + 1)) := by
    have h1 : keepL name (l.take (i + 1)) = l.take i := by rw [keepL_snoc name hil, hpi, if_pos rfl, List.append_nil, keepL_all name hbi]
    refine ⟨rfl, by rw [h1, List.length_take]; omega, ?_, fun _ _ => rfl⟩
    rw [h1]
    intro t ht hc
    rw [List.getElem_take]
    rw [List.length_take] at ht
    exact HK.out t (by omega) hc
  clear hpi hbi
  have ti : ((i : Int) == -1) = false := beq_false_of_ne (by omega)
  go_wp2
  clear ti
  go_loopw [5, 6] (fun a b wr => ∃ (i j : Nat) (cur : List (List Value)), i < j ∧ j ≤ l.length ∧ a = .int .i64 i ∧ b = .int .i64 j ∧ Hid (Kept name h0 l css cur i j) ∧ Hid (Rw wr g 11 cur) ∧ Hid (Below w0.heap.size w0 wr)) (fun _ b _ => l.length - (intOf b).toNat)
  case atStart => exact ⟨i, i + 1, css, by omega, by omega, by go_num, by go_num, HST.out, HR.out, HB.out⟩
  case round =>
    clear HST HR HB
    obtain ⟨i, j, cur, hij, hj, rfl, rfl, HS, HR, HB⟩ := hrel
    by_cases hlt : j < l.length
    · have hlc : j < css.length := by have := HL.out; omega
      have hlcur : j < cur.length := by have := HS.out.len; omega
      have hkj := HK.out j hlt hlc
      have hcj : cur[j]? = some css[j] := by rw [HS.out.rest j (Nat.le_refl _), List.getElem?_eq_getElem hlc]
      obtain ⟨c, hc⟩ : ∃ c, css[j]'hlc = c := ⟨_, rfl⟩
      rw [hc] at hkj hcj
      have HKC := Lib.hid hkj
      have HC : Hid (wr.rangeAt g (j * 11) c) := HR.out.at_ j c hcj
      have HNC : Hid (wr.cell? ⟨nb, 0, none⟩ = some (.string name)) := keep_cell HB.out HN.out
      obtain ⟨m, hm⟩ : ∃ m, isN name l[j] = m := ⟨_, rfl⟩
      have HM := Lib.hid hm
      have hsz := HB.out.size
      have hks := keepL_snoc name hlt
      rw [hm] at hks
      have HKS := Lib.hid hks
      have HCJ := Lib.hid hcj
      clear hc hkj hm hks hcj
      obtain ⟨B1, d1, B2, d2, B3, d3, B4, d4, rfl, -⟩ := id HKC.out
      go_upto_region 8 with (with_reducible refine wpList_load_mid rfl 35 _ rfl g (j * 11) rfl _ _ HC.out Try.underlying35 rfl (by kernel_rfl) ?_)
      obtain ⟨U, hU⟩ : ∃ U : World, U = wr.alloc (.cells #[.string l[j].name, .string l[j].owner, .int .i64 l[j].prio, .slice B1 l[j].need.length d1, .slice B2 l[j].labels.length d2, .slice B3 l[j].sel.length d3, .slice B4 l[j].tols.length d4, .string l[j].key, .int .i64 l[j].most, .string l[j].node, .bool l[j].hold] 35) := ⟨_, rfl⟩
      rw [← hU]
      have hub : U.heap[wr.heap.size]? = some (.cells #[.string l[j].name, .string l[j].owner, .int .i64 l[j].prio, .slice B1 l[j].need.length d1, .slice B2 l[j].labels.length d2, .slice B3 l[j].sel.length d3, .slice B4 l[j].tols.length d4, .string l[j].key, .int .i64 l[j].most, .string l[j].node, .bool l[j].hold] 35 (0, 0)) := by rw [hU]; exact blk_last _ _
      have hue : Below wr.heap.size wr U := by rw [hU]; exact alloc_below _ _
      replace HB := Lib.hid (Below.then HB.out hue)
      replace HR := Lib.hid (HR.out.below hue)
      replace HNC := Lib.hid (keep_cell hue HNC.out)
      have hus := hue.size
      have HUB := Lib.hid hub
      obtain ⟨u, uf⟩ := blk_all hub
      clear hU hub hue HC
      go_wp2_with fail
      refine (drop1_calls _ l[j] name nb _ ⟨_, HKC.out⟩ HNC.out (by omega)).mono ?_
      rintro e w2 ⟨rfl, hb⟩
      rw [HM.out]
      replace HB := Lib.hid (Below.then HB.out hb)
      replace HR := Lib.hid (HR.out.below hb)
      replace HUB := Lib.hid ((hb.block _ (blk_lt HUB.out)).trans HUB.out)
      clear hb u uf HNC
      obtain ⟨u, uf⟩ := blk_all HUB.out
      cases m with
      | true =>
        have HS2 : Hid (Kept name h0 l css cur i (j + 1)) := by
          have h1 : keepL name (l.take (j + 1)) = keepL name (l.take j) := by rw [HKS.out, if_pos rfl, List.append_nil]
          refine ⟨HS.out.len, by rw [h1]; exact HS.out.ahead, ?_, fun t ht => HS.out.rest t (by omega)⟩
          rw [h1]; exact HS.out.kept
        go_wp2
        go_roundw
        case rel => exact ⟨i, j + 1, cur, by omega, by omega, by go_num, by go_num, HS2.out, HR.out, HB.out⟩
        case measure => simp [intOf]; omega
      | false =>
        have hic : i < cur.length := by omega
        have HTH := Lib.hid (HR.out.there hic)
        have HR2 := Lib.hid (HR.out.set (c := [.string l[j].name, .string l[j].owner, .int .i64 l[j].prio, .slice B1 l[j].need.length d1, .slice B2 l[j].labels.length d2, .slice B3 l[j].sel.length d3, .slice B4 l[j].tols.length d4, .string l[j].key, .int .i64 l[j].most, .string l[j].node, .bool l[j].hold]) hic rfl)
        have HB2 := Lib.hid (Below.setCells' HB.out hg [.string l[j].name, .string l[j].owner, .int .i64 l[j].prio, .slice B1 l[j].need.length d1, .slice B2 l[j].labels.length d2, .slice B3 l[j].sel.length d3, .slice B4 l[j].tols.length d4, .string l[j].key, .int .i64 l[j].most, .string l[j].node, .bool l[j].hold] (i * 11))
        have HS2 : Hid (Kept name h0 l css (cur.set i [.string l[j].name, .string l[j].owner, .int .i64 l[j].prio, .slice B1 l[j].need.length d1, .slice B2 l[j].labels.length d2, .slice B3 l[j].sel.length d3, .slice B4 l[j].tols.length d4, .string l[j].key, .int .i64 l[j].most, .string l[j].node, .bool l[j].hold]) (i + 1) (j + 1)) := by
          have h1 : keepL name (l.take (j + 1)) = keepL name (l.take j) ++ [l[j]] := by rw [HKS.out, if_neg (by decide)]
          refine ⟨by rw [List.length_set]; exact HS.out.len, by rw [h1, List.length_append, ← HS.out.ahead]; rfl, ?_, fun t ht => by rw [List.getElem?_set_ne (by omega)]; exact HS.out.rest t (by omega)⟩
          rw [h1]
          intro t ht hc
          rw [List.length_append, ← HS.out.ahead, List.length_singleton] at ht
          by_cases e : t = i
          · subst e
            rw [List.getElem_set_self, List.getElem_append_right (by rw [← HS.out.ahead]; exact Nat.le_refl _)]
            simpa using HKC.out
          · rw [List.getElem_set_ne (Ne.symm e), List.getElem_append_left (by rw [← HS.out.ahead]; omega)]
            exact HS.out.kept t (by rw [← HS.out.ahead]; omega) (by rw [List.length_set] at hc; exact hc)
        have HONE : Hid ((#[.string l[j].name, .string l[j].owner, .int .i64 l[j].prio, .slice B1 l[j].need.length d1, .slice B2 l[j].labels.length d2, .slice B3 l[j].sel.length d3, .slice B4 l[j].tols.length d4, .string l[j].key, .int .i64 l[j].most, .string l[j].node, .bool l[j].hold] : Array Value).all (·.oneCell') = true) := by show _ = true; simp [Value.oneCell']
        have HTH2 : Hid (w2.there g (i * 11) (#[.string l[j].name, .string l[j].owner, .int .i64 l[j].prio, .slice B1 l[j].need.length d1, .slice B2 l[j].labels.length d2, .slice B3 l[j].sel.length d3, .slice B4 l[j].tols.length d4, .string l[j].key, .int .i64 l[j].most, .string l[j].node, .bool l[j].hold] : Array Value).size) := HTH.out
        go_wp2_with (with_reducible refine wpList_store_mid rfl 35 _ _ rfl g (i * 11) _ rfl rfl HTH2.out (by kernel_rfl) HONE.out ?_)
        go_roundw
        case rel => exact ⟨i + 1, j + 1, _, by omega, by omega, by go_num, by go_num, HS2.out, HR2.out, HB2.out⟩
        case measure => simp [intOf]; omega
    · obtain rfl : j = l.length := by omega
      have hcl : cur.length = l.length := by rw [HS.out.len, HL.out]
      have hia := HS.out.ahead
      rw [List.take_length] at hia
      have hkk := HS.out.kept
      rw [List.take_length] at hkk
      have hcap2 : i ≤ cap := by omega
      have hci : ¬ cap = i := by omega
      have HIA := Lib.hid hia
      have HKK := Lib.hid hkk
      have HS1 : Hid (∀ x, x < (l.length - i) * (Value.agg #[.string ⟨#[]⟩, .string ⟨#[]⟩, .int .i64 0, .slice none 0 0, .slice none 0 0, .slice none 0 0, .slice none 0 0, .string ⟨#[]⟩, .int .i64 0, .string ⟨#[]⟩, .bool false]).cells.size → (wr.cell? ⟨g, i * 11 + x, none⟩).isSome = true) := fun x hx => HR.out.some (by decide) (by
        have hx' : x < (l.length - i) * 11 := hx
        rw [hcl]; omega)
      have HS2 : Hid (∀ x, x < (l.length - i) * (Value.agg #[.string ⟨#[]⟩, .string ⟨#[]⟩, .int .i64 0, .slice none 0 0, .slice none 0 0, .slice none 0 0, .slice none 0 0, .string ⟨#[]⟩, .int .i64 0, .string ⟨#[]⟩, .bool false]).cells.size → wr.frozen? ⟨g, i * 11 + x, none⟩ = false) := fun x hx => HR.out.free _
      have HS3 : Hid (∀ v ∈ (Value.agg #[.string ⟨#[]⟩, .string ⟨#[]⟩, .int .i64 0, .slice none 0 0, .slice none 0 0, .slice none 0 0, .slice none 0 0, .string ⟨#[]⟩, .int .i64 0, .string ⟨#[]⟩, .bool false]).cells.toList, v.oneCell' = true) := by
        show ∀ v ∈ ([.string ⟨#[]⟩, .string ⟨#[]⟩, .int .i64 0, .slice none 0 0, .slice none 0 0, .slice none 0 0, .slice none 0 0, .string ⟨#[]⟩, .int .i64 0, .string ⟨#[]⟩, .bool false] : List Value), _
        simp [Value.oneCell']
      have hpos : 0 < l.length - i := by omega
      have HF := Lib.hid (HR.out.front i (Builtin.zeroCells (Value.agg #[.string ⟨#[]⟩, .string ⟨#[]⟩, .int .i64 0, .slice none 0 0, .slice none 0 0, .slice none 0 0, .slice none 0 0, .string ⟨#[]⟩, .int .i64 0, .string ⟨#[]⟩, .bool false]).cells (l.length - i)).toList)
      have HB2 := Lib.hid (Below.setCells' HB.out hg (Builtin.zeroCells (Value.agg #[.string ⟨#[]⟩, .string ⟨#[]⟩, .int .i64 0, .slice none 0 0, .slice none 0 0, .slice none 0 0, .slice none 0 0, .string ⟨#[]⟩, .int .i64 0, .string ⟨#[]⟩, .bool false]).cells (l.length - i)).toList (i * 11))
      clear hia hkk
      go_wp2_with (with_reducible refine wpList_clear rfl 23 35 _ rfl _ Try.underlying23 pod_zero HS3.out (by decide) g (i * 11) (l.length - i) _ hpos rfl HS1.out HS2.out ?_)
      go_ret
      refine ⟨HB2.out, g, cap, cur.take i, hg, ?_, ?_, HF.out, ?_, ?_⟩
      · rw [← HIA.out]; rfl
      · rw [← HIA.out]; exact hcap2
      · rw [← HIA.out, List.length_take]; omega
      · intro t ht hc
        rw [List.getElem_take]
        exact HKK.out t ht (by rw [List.length_take] at hc; omega)
end Go.Proofs.Ytfbmfjmnpfidoaa
namespace Go.Proofs.Ytfbmfjmnpfidoaa
open Go.RowKit Go.Sort

set_option maxHeartbeats 1000000 in
theorem index_none (A : Option Addr) (c nb : Nat) (w : World) :
    Calls Try.prog 73 #[.slice A 0 c, .func (.func 58) #[] #[.pointer (some ⟨nb, 0, none⟩)]] w (SameDone (.int .i64 (-1)) w) := by
  go_enter Try.func73, Try.ntmps73
  go_wp2
  go_loop [8] (fun i => i = .int .i64 0) (fun _ => 0)
  case atStart => rfl
  case round =>
    subst hrel
    go_wp2
    go_ret
    exact ⟨rfl, rfl⟩
set_option maxHeartbeats 1000000 in
theorem delete_none (A : Option Addr) (c nb : Nat) (w : World) :
    Calls Try.prog 56 #[.slice A 0 c, .func (.func 58) #[] #[.pointer (some ⟨nb, 0, none⟩)]] w (SameDone (.slice A 0 c) w) := by
  go_enter Try.func56, Try.ntmps56
  go_wp2_with fail
  refine (index_none A c nb _).mono ?_
  rintro e w' ⟨rfl, rfl⟩
  go_wp2
  go_ret
  exact ⟨rfl, rfl⟩
def DropDone (s : St) (name : ByteArray) (w : World) (e : Ending) (w' : World) : Prop := ∃ cs : List Value, e = .returned (.agg cs.toArray) ∧ Kd.state.V (vw w' []) (.agg cs.toArray) (dropS s name) ∧ Below w.heap.size w w'
theorem Rw.other {w w' : World} {g z : Nat} {css : List (List Value)} (h : Rw w g z css) (hb : w'.heap[g]? = w.heap[g]?) (hs : w.heap.size ≤ w'.heap.size) : Rw w' g z css :=
  ⟨Nat.lt_of_lt_of_le h.lt hs, h.len, fun t c hc j v hv => by rw [show w'.cell? ⟨g, t * z + j, none⟩ = w.cell? ⟨g, t * z + j, none⟩ by simp only [World.cell?, hb]]; exact h.at_ t c hc j v hv, fun x => by rw [show w'.frozen? ⟨g, x, none⟩ = w.frozen? ⟨g, x, none⟩ by simp only [World.frozen?, hb]]; exact h.free x⟩
set_option maxHeartbeats 4000000 in
set_option maxRecDepth 100000 in
theorem Drop_calls (v : Value) (s : St) (name : ByteArray) (w : World) (hv : Kd.state.V (vw w []) v s) (hl : s.pods.length ≤ 1000) :
    Calls Try.prog 26 #[v, .string name] w (DropDone s name w) := by
  have hmf : ∀ (fn : Fn) (first cap : Array Value) (w : World), (Instr.makeFunc fn first cap).run Try.prog w = .ok (.func fn first cap) w := fun _ _ _ _ => rfl
  obtain ⟨cs, rfl, A1, c1, A2, c2, A3, c3, rfl, s1, s2, s3⟩ := hv
  have S1 := Lib.hid s1
  have S2 := Lib.hid s2
  have S3 := Lib.hid s3
  clear s1 s2 s3
  go_enter Try.func26, Try.ntmps26
  go_upto_region 1 with fail
  obtain ⟨W, hW⟩ : ∃ W : World, W = (((w.alloc (.cells #[.slice A1 s.nodes.length c1, .slice A2 s.pods.length c2, .slice A3 s.budgets.length c3] 26)).alloc (.cells #[.string name] 9)).alloc (.cells #[.slice none 0 0, .slice none 0 0, .slice none 0 0] 26)) := ⟨_, rfl⟩
  rw [← hW]
  have HB : Hid (Below w.heap.size w W) := by rw [hW]; exact Below.then (Below.then (alloc_below _ _) (alloc_below _ _)) (alloc_below _ _)
  have k1 : W.heap[w.heap.size]? = some (.cells #[.slice A1 s.nodes.length c1, .slice A2 s.pods.length c2, .slice A3 s.budgets.length c3] 26 (0, 0)) := by
    rw [hW]; exact (blk_old _ _ (by simp; omega)).trans ((blk_old _ _ (by simp)).trans (blk_last _ _))
  have k2 : W.heap[w.heap.size + 1]? = some (.cells #[.string name] 9 (0, 0)) := by
    rw [hW]; exact (blk_old _ _ (by simp)).trans ((show _ = w.heap.size + 1 by simp : (w.alloc (.cells #[.slice A1 s.nodes.length c1, .slice A2 s.pods.length c2, .slice A3 s.budgets.length c3] 26)).heap.size = w.heap.size + 1) ▸ blk_last _ _)
  have k3 : W.heap[w.heap.size + 2]? = some (.cells #[.slice none 0 0, .slice none 0 0, .slice none 0 0] 26 (0, 0)) := by
    rw [hW]
    have := blk_last ((w.alloc (.cells #[.slice A1 s.nodes.length c1, .slice A2 s.pods.length c2, .slice A3 s.budgets.length c3] 26)).alloc (.cells #[.string name] 9)) (.cells #[.slice none 0 0, .slice none 0 0, .slice none 0 0] 26)
    simpa using this
  have hNC : Hid (W.cell? ⟨w.heap.size + 1, 0, none⟩ = some (.string name)) := (blk_all k2).1 0
  have HQ := Lib.hid k1
  have HZ := Lib.hid k3
  have hsz : w.heap.size + 3 ≤ W.heap.size := by have := blk_lt k3; omega
  obtain ⟨z, zf⟩ := blk_all k1
  clear hW k1 k2 k3
  go_wp2_with fail
  refine (Clone_calls _ s.pods w _ HB.out S2.out hl).mono ?_
  rintro e w1 ⟨hb, hor⟩
  have q1 := (hb.block _ (blk_lt HQ.out)).trans HQ.out
  have q3 := (hb.block _ (blk_lt HZ.out)).trans HZ.out
  clear z zf
  rcases hor with ⟨h0, A, c, hAc, rfl⟩ | ⟨g, cap, css, hp, rfl, hg, hc1, hc2, hr, hcl, hck⟩
  · have HE := Lib.hid h0
    have HAC := Lib.hid hAc
    have HB2 := Lib.hid (Below.then HB.out hb)
    have HZ2 := Lib.hid q3
    obtain ⟨z, zf⟩ := blk_all q1
    obtain ⟨y, yf⟩ := blk_all q3
    have hl1 := blk_lt q1
    clear hb h0 q1 q3 hAc
    go_wp2_with fail
    refine (delete_none A c (w.heap.size + 1) _).mono ?_
    rintro e w2 ⟨rfl, rfl⟩
    clear hmf
    go_wp2
    clear z zf y yf
    have hz3 : (w1.setCell ⟨w.heap.size, 1, none⟩ (.slice A 0 c)).heap[w.heap.size + 1 + 1]? = some (.cells [Value.slice none 0 0, .slice none 0 0, .slice none 0 0].toArray 26 (0, 0)) := (Below.heap_setCell w1 ⟨w.heap.size, 1, none⟩ _ _ (by show w.heap.size + 1 + 1 ≠ w.heap.size; omega)).trans HZ2.out
    have hset := setCells_all (cs := [.slice A1 s.nodes.length c1, .slice A 0 c, .slice A3 s.budgets.length c3]) hz3 rfl
    have hbel := Below.setCells (Below.setCell HB2.out (p := ⟨w.heap.size, 1, none⟩) (Nat.le_refl _) (.slice A 0 c)) (show w.heap.size ≤ w.heap.size + 1 + 1 by omega) [.slice A1 s.nodes.length c1, .slice A 0 c, .slice A3 s.budgets.length c3] 0
    have hpe : (dropS s name).pods = [] := by show List.filter _ s.pods = []; rw [HE.out]; rfl
    refine ret_row1 (cs := [.slice A1 s.nodes.length c1, .slice A 0 c, .slice A3 s.budgets.length c3]) rfl rfl hset Try.underlying26 rfl (by kernel_rfl) rfl ⟨_, rfl, ⟨_, rfl, A1, c1, A, c, A3, c3, ?_, S1.out.mono (vw_below hbel), ?_, S3.out.mono (vw_below hbel)⟩, hbel⟩
    · rw [hpe]; rfl
    · rw [hpe]; exact Kd.S.empty _ _ _ _ HAC.out
  · have HB2 := Lib.hid (Below.then HB.out hb)
    have HQ2 := Lib.hid q1
    have HZ2 := Lib.hid q3
    have HR := Lib.hid hr
    have HCL := Lib.hid hcl
    have HCK := Lib.hid hck
    have hbW := Lib.hid hb
    clear hb q1 q3 hr hcl hck
    go_wp2_with fail
    refine (Delete_calls g cap (w.heap.size + 1) name s.pods css (vw w []) W _ hbW.out hg HCL.out HCK.out HR.out hNC.out hl hc1 hc2).mono ?_
    rintro e w2 ⟨hb, g2, cap2, cur, hg2, rfl, hle, hrw, hlc, hkk⟩
    have q1 := (hb.block _ (blk_lt HQ.out)).trans HQ.out
    have q3 := (hb.block _ (blk_lt HZ.out)).trans HZ.out
    have HB3 := Lib.hid (Below.then HB.out hb)
    have HZ3 := Lib.hid q3
    have HRW := Lib.hid hrw
    have HKK := Lib.hid hkk
    obtain ⟨z, zf⟩ := blk_all q1
    obtain ⟨y, yf⟩ := blk_all q3
    have hl1 := blk_lt q1
    clear hb q1 q3 hrw hkk hmf HB2 HQ2 HZ2 HR
    obtain ⟨n, hn⟩ : ∃ n, (keepL name s.pods).length = n := ⟨_, rfl⟩
    have HN := Lib.hid hn
    rw [hn] at hle hlc
    rw [hn]
    clear hn
    go_wp2
    clear z zf y yf
    have hz3 : (w2.setCell ⟨w.heap.size, 1, none⟩ (.slice (some ⟨g2, 0, none⟩) n cap2)).heap[w.heap.size + 1 + 1]? = some (.cells [Value.slice none 0 0, .slice none 0 0, .slice none 0 0].toArray 26 (0, 0)) := (Below.heap_setCell w2 ⟨w.heap.size, 1, none⟩ _ _ (by show w.heap.size + 1 + 1 ≠ w.heap.size; omega)).trans HZ3.out
    have hset := setCells_all (cs := [.slice A1 s.nodes.length c1, .slice (some ⟨g2, 0, none⟩) n cap2, .slice A3 s.budgets.length c3]) hz3 rfl
    have hbel := Below.setCells (Below.setCell HB3.out (p := ⟨w.heap.size, 1, none⟩) (Nat.le_refl _) (.slice (some ⟨g2, 0, none⟩) n cap2)) (show w.heap.size ≤ w.heap.size + 1 + 1 by omega) [.slice A1 s.nodes.length c1, .slice (some ⟨g2, 0, none⟩) n cap2, .slice A3 s.budgets.length c3] 0
    have hoth := HRW.out.other (w' := (w2.setCell ⟨w.heap.size, 1, none⟩ (.slice (some ⟨g2, 0, none⟩) n cap2)).setCells (w.heap.size + 1 + 1) 0 [.slice A1 s.nodes.length c1, .slice (some ⟨g2, 0, none⟩) n cap2, .slice A3 s.budgets.length c3])
      ((setCells_far _ _ _ _ _ (by omega)).trans (Below.heap_setCell w2 ⟨w.heap.size, 1, none⟩ _ _ (by show g2 ≠ w.heap.size; omega))) (by rw [setCells_size]; simp [World.setCell])
    have hkl : (dropS s name).pods = keepL name s.pods := rfl
    refine ret_row1 (cs := [.slice A1 s.nodes.length c1, .slice (some ⟨g2, 0, none⟩) n cap2, .slice A3 s.budgets.length c3]) rfl rfl hset Try.underlying26 rfl (by kernel_rfl) rfl ⟨_, rfl, ⟨_, rfl, A1, c1, some ⟨g2, 0, none⟩, cap2, A3, c3, ?_, S1.out.mono (vw_below hbel), ?_, S3.out.mono (vw_below hbel)⟩, hbel⟩
    · rw [hkl, HN.out]; rfl
    · rw [hkl]
      have hlk : (keepL name s.pods).length ≤ s.pods.length := List.length_filter_le _ _
      exact Rw.S (d := Kd.pod) hoth (by rw [HN.out]; exact hlc) (fun t ht => Kd.pod.mono (vw_below hbel) (HKK.out t ht (by rw [HN.out] at ht; omega))) (by rw [HN.out]; exact hle) (by omega)
end Go.Proofs.Ytfbmfjmnpfidoaa
