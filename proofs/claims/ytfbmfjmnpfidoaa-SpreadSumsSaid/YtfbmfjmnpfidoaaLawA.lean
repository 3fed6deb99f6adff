import Derived.Test.YtfbmfjmnpfidoaaCheck
import Derived.Test.YtfbmfjmnpfidoaaOfE
import Derived.Test.YtfbmfjmnpfidoaaBad
namespace Go.Proofs.Ytfbmfjmnpfidoaa
open Go.RowKit Go.Sort

/-! Is a state small, and such that Check takes it? -/
set_option maxHeartbeats 2000000 in
set_option maxRecDepth 100000 in
theorem Good_calls (v : Value) (s : St) (w : World) (hv : Kd.state.V (vw w []) v s) :
    Calls Try.prog 8 #[v] w (FewIfB (s.Few ∧ checkSt s = 0) w) := by
  obtain ⟨cs, rfl, hks⟩ := hv
  have hvs : Kd.state.V (vw w []) (.agg cs.toArray) s := ⟨cs, rfl, hks⟩
  obtain ⟨A1, c1, A2, c2, A3, c3, rfl, -⟩ := hks
  have HVS := Lib.hid hvs
  clear hvs
  go_enter Try.func8, Try.ntmps8
  have HB : Hid (Below w.heap.size w (w.alloc (.cells #[.slice A1 s.nodes.length c1, .slice A2 s.pods.length c2, .slice A3 s.budgets.length c3] 26))) := alloc_below _ _
  have HQ : Hid ((w.alloc (.cells #[.slice A1 s.nodes.length c1, .slice A2 s.pods.length c2, .slice A3 s.budgets.length c3] 26)).heap[w.heap.size]? = some (.cells #[.slice A1 s.nodes.length c1, .slice A2 s.pods.length c2, .slice A3 s.budgets.length c3] 26 (0, 0))) := blk_last _ _
  go_upto_region 1 with fail
  generalize w.alloc (.cells #[.slice A1 s.nodes.length c1, .slice A2 s.pods.length c2, .slice A3 s.budgets.length c3] 26) = W at HB HQ ⊢
  obtain ⟨z, zf⟩ := blk_all HQ.out
  go_wp2_with fail
  refine (Few9_calls _ s _ (Kd.V.mono (vw_below HB.out) HVS.out)).mono ?_
  rintro e w1 ⟨r, rfl, hr, hb⟩
  replace HQ := Lib.hid ((hb.block _ (blk_lt HQ.out)).trans HQ.out)
  replace HB := Lib.hid (Below.then HB.out hb)
  clear hb z zf
  obtain ⟨z, zf⟩ := blk_all HQ.out
  cases r with
  | false =>
    clear hr
    go_wp2
    go_ret
    exact ⟨_, rfl, (fun h => by cases h), HB.out⟩
  | true =>
    have HF := Lib.hid (hr rfl)
    clear hr
    go_wp2_with fail
    refine (Of9_calls _ s _ (Kd.V.mono (vw_below HB.out) HVS.out) HF.out).mono ?_
    rintro e w2 ⟨cs, rfl, hk, hb⟩
    have hv2 : Kd.state.V (vw w2 []) (.agg cs.toArray) s := ⟨cs, rfl, Kd.state.mono (nx_vw (by simp)) hk⟩
    have HV2 := Lib.hid hv2
    replace HB := Lib.hid (Below.then HB.out hb)
    clear hb hv2 hk z zf HQ
    go_wp2_with fail
    refine (Check_calls _ s _ HV2.out).mono ?_
    rintro e w3 ⟨rfl, hb⟩
    replace HB := Lib.hid (Below.then HB.out hb)
    obtain ⟨n, hn⟩ : ∃ n, checkSt s = n := ⟨_, rfl⟩
    have HN := Lib.hid hn
    rw [hn]
    clear hb hn
    by_cases h0 : n = 0
    · subst h0
      go_wp2
      go_ret
      exact ⟨_, rfl, fun _ => ⟨HF.out, HN.out⟩, HB.out⟩
    · have t1 : (n == 0) = false := by simp [h0]
      go_wp2
      go_ret
      exact ⟨_, rfl, (fun h => by cases h), HB.out⟩
/-! The data that the laws make. -/
def tx (l : List UInt8) : ByteArray := ⟨l.toArray⟩
def ndN (name : ByteArray) (n : Int) : Nd := ⟨name, [⟨tx [99, 112, 117], n⟩], [], [], false⟩
def pdP (name : ByteArray) (n : Int) (on : ByteArray) : Pd := ⟨name, ⟨#[]⟩, 0, [⟨tx [99, 112, 117], n⟩], [], [], [], ⟨#[]⟩, 0, on, false⟩
def ndZ (name zone : ByteArray) : Nd := { ndN name 100 with labels := [⟨tx [122, 111, 110, 101], zone⟩] }
def pdO (name on : ByteArray) (most : Int) : Pd := { pdP name 1 on with owner := tx [119, 101, 98], key := tx [122, 111, 110, 101], most := most }
theorem cpu_ok : sok (tx [99, 112, 117]) := by unfold sok; decide
theorem zone_ok : sok (tx [122, 111, 110, 101]) := by unfold sok; decide
theorem sok_none : sok ⟨#[]⟩ := by unfold sok; decide
theorem i64_0 : i64 0 := by unfold i64; decide
/-- One element in a block of its own. -/
theorem Kd.S.one {α : Type} {n : Nat} {f : α → List Value} {p : α → Prop} {hn : ∀ x, (f x).length = n} {h : View} {b : Nat} {T : TypeId} {x : α} (hb : h b = some (.cells (f x).toArray T (0, 0))) (hp : p x) :
    (Kd.flat n f p hn).S h (.slice (some ⟨b, 0, none⟩) 1 1) [x] := by
  refine ⟨_, _, rfl, Nat.le_refl _, by simp, fun e => (by cases e), fun _ => ⟨b, 0, rfl, fun j y hj => ?_⟩⟩
  cases j with
  | succ j => simp at hj
  | zero =>
    simp only [List.getElem?_cons_zero, Option.some.injEq] at hj
    subst hj
    refine ⟨f x, ⟨rfl, hp⟩, fun i u hu => ?_⟩
    simp [View.cell?, hb, hu]
set_option maxHeartbeats 2000000 in
theorem N_calls (name : ByteArray) (n : Int) (w : World) (hs : sok name) (hn : i64 n) :
    Calls Try.prog 27 #[.string name, .int .i64 n] w (OneDone Kd.node (ndN name n) w) := by
  have HN := Lib.hid hn
  have HS := Lib.hid hs
  clear hn hs
  go_enter Try.func27, Try.ntmps27
  go_wp2
  have q0 : ((w.alloc (.cells #[.string name, .slice (some ⟨w.heap.size + 1, 0, none⟩) 1 1, .slice none 0 0, .slice none 0 0, .bool false] 68)).alloc (.cells #[.string ⟨#[99, 112, 117]⟩, .int .i64 n] 114)).heap[w.heap.size]? = some (.cells [.string name, .slice (some ⟨w.heap.size + 1, 0, none⟩) 1 1, .slice none 0 0, .slice none 0 0, .bool false].toArray 68 (0, 0)) :=
    (blk_old _ _ (by simp)).trans (blk_last _ _)
  have q1 : ((w.alloc (.cells #[.string name, .slice (some ⟨w.heap.size + 1, 0, none⟩) 1 1, .slice none 0 0, .slice none 0 0, .bool false] 68)).alloc (.cells #[.string ⟨#[99, 112, 117]⟩, .int .i64 n] 114)).heap[w.heap.size + 1]? = some (.cells #[.string ⟨#[99, 112, 117]⟩, .int .i64 n] 114 (0, 0)) := by
    have := blk_last (w.alloc (.cells #[.string name, .slice (some ⟨w.heap.size + 1, 0, none⟩) 1 1, .slice none 0 0, .slice none 0 0, .bool false] 68)) (.cells #[.string ⟨#[99, 112, 117]⟩, .int .i64 n] 114)
    simpa using this
  exact ret_row1 (cs := [.string name, .slice (some ⟨w.heap.size + 1, 0, none⟩) 1 1, .slice none 0 0, .slice none 0 0, .bool false]) rfl rfl q0 Try.underlying68 rfl (by kernel_rfl) rfl
    ⟨_, rfl, ⟨_, _, _, _, _, _, rfl, HS.out, Kd.S.one (nx_mk (by omega) (by simp) q1) ⟨cpu_ok, HN.out⟩, Kd.S.nil _ _, Kd.S.nil _ _⟩, Below.then (alloc_below _ _) (alloc_below _ _)⟩
set_option maxHeartbeats 2000000 in
theorem P_calls (name : ByteArray) (n : Int) (on : ByteArray) (w : World) (hs : sok name) (hn : i64 n) (ho : sok on) :
    Calls Try.prog 28 #[.string name, .int .i64 n, .string on] w (OneDone Kd.pod (pdP name n on) w) := by
  have HN := Lib.hid hn
  have HS := Lib.hid hs
  have HO := Lib.hid ho
  clear hn hs ho
  go_enter Try.func28, Try.ntmps28
  go_wp2
  have q0 : ((w.alloc (.cells #[.string name, .string ⟨#[]⟩, .int .i64 0, .slice (some ⟨w.heap.size + 1, 0, none⟩) 1 1, .slice none 0 0, .slice none 0 0, .slice none 0 0, .string ⟨#[]⟩, .int .i64 0, .string on, .bool false] 35)).alloc (.cells #[.string ⟨#[99, 112, 117]⟩, .int .i64 n] 114)).heap[w.heap.size]? = some (.cells [.string name, .string ⟨#[]⟩, .int .i64 0, .slice (some ⟨w.heap.size + 1, 0, none⟩) 1 1, .slice none 0 0, .slice none 0 0, .slice none 0 0, .string ⟨#[]⟩, .int .i64 0, .string on, .bool false].toArray 35 (0, 0)) :=
    (blk_old _ _ (by simp)).trans (blk_last _ _)
  have q1 : ((w.alloc (.cells #[.string name, .string ⟨#[]⟩, .int .i64 0, .slice (some ⟨w.heap.size + 1, 0, none⟩) 1 1, .slice none 0 0, .slice none 0 0, .slice none 0 0, .string ⟨#[]⟩, .int .i64 0, .string on, .bool false] 35)).alloc (.cells #[.string ⟨#[99, 112, 117]⟩, .int .i64 n] 114)).heap[w.heap.size + 1]? = some (.cells #[.string ⟨#[99, 112, 117]⟩, .int .i64 n] 114 (0, 0)) := by
    have := blk_last (w.alloc (.cells #[.string name, .string ⟨#[]⟩, .int .i64 0, .slice (some ⟨w.heap.size + 1, 0, none⟩) 1 1, .slice none 0 0, .slice none 0 0, .slice none 0 0, .string ⟨#[]⟩, .int .i64 0, .string on, .bool false] 35)) (.cells #[.string ⟨#[99, 112, 117]⟩, .int .i64 n] 114)
    simpa using this
  exact ret_row1 (cs := [.string name, .string ⟨#[]⟩, .int .i64 0, .slice (some ⟨w.heap.size + 1, 0, none⟩) 1 1, .slice none 0 0, .slice none 0 0, .slice none 0 0, .string ⟨#[]⟩, .int .i64 0, .string on, .bool false]) rfl rfl q0 Try.underlying35 rfl (by kernel_rfl) rfl
    ⟨_, rfl, ⟨_, _, _, _, _, _, _, _, rfl, ⟨⟨HS.out, sok_none, i64_0⟩, sok_none, i64_0, HO.out⟩, Kd.S.one (nx_mk (by omega) (by simp) q1) ⟨cpu_ok, HN.out⟩, Kd.S.nil _ _, Kd.S.nil _ _, Kd.S.nil _ _⟩, Below.then (alloc_below _ _) (alloc_below _ _)⟩
set_option maxHeartbeats 4000000 in
set_option maxRecDepth 100000 in
theorem Zoned_calls (name zone : ByteArray) (w : World) (hs : sok name) (hz : sok zone) :
    Calls Try.prog 23 #[.string name, .string zone] w (OneDone Kd.node (ndZ name zone) w) := by
  have HZ := Lib.hid hz
  have HS := Lib.hid hs
  clear hz hs
  go_enter Try.func23, Try.ntmps23
  go_wp2_with fail
  refine (N_calls name 100 _ HS.out ⟨by decide, by decide⟩).mono ?_
  rintro e w1 ⟨cs, rfl, ⟨B1, d1, B2, d2, B3, d3, rfl, -, s1, -, s3⟩, hb⟩
  simp only [ndN, List.length_singleton, List.length_nil] at s1 s3 ⊢
  have hq := (hb.block w.heap.size (by simp)).trans (blk_last w _)
  have HB := Lib.hid (Below.then (alloc_below w _) hb)
  have hlt := blk_lt hq
  have S1 := Lib.hid (s1.mono (nx_lo (lo := w.heap.size + 1) (by simp)))
  have S3 := Lib.hid (s3.mono (nx_lo (lo := w.heap.size + 1) (by simp)))
  have HQ := Lib.hid hq
  obtain ⟨z, zf⟩ := blk_all hq
  clear hb s1 s3 hq
  go_wp2
  obtain ⟨L, hL⟩ : ∃ L : List Value, L = [.string name, .slice B1 1 d1, .slice (some ⟨w1.heap.size + 1, 0, none⟩) 1 1, .slice B3 0 d3, .bool false] := ⟨_, rfl⟩
  have hset := setCells_all (cs := L) HQ.out (by rw [hL]; rfl)
  have hbel := Below.setCells HB.out (Nat.le_refl _) L 0
  have hsz := setCells_size w.heap.size L 0 w1
  have hnx := nx_setCells (w := w1) (lo := w.heap.size + 1) (lo' := w.heap.size) L 0 (Nat.lt_succ_self w.heap.size) (by omega)
  have hgoal : (((((w1.setCell ⟨w.heap.size, 0, none⟩ (.string name)).setCell ⟨w.heap.size, 1, none⟩ (.slice B1 1 d1)).setCell ⟨w.heap.size, 2, none⟩ (.slice (some ⟨w1.heap.size + 1, 0, none⟩) 1 1)).setCell ⟨w.heap.size, 3, none⟩ (.slice B3 0 d3)).setCell ⟨w.heap.size, 4, none⟩ (.bool false)) = w1.setCells w.heap.size 0 L := by rw [hL]; rfl
  rw [hgoal]
  clear hgoal
  generalize w1.setCells w.heap.size 0 L = W at hset hbel hsz hnx ⊢
  have hl2 : w.heap.size < W.heap.size := by omega
  have q0 := (blk_old (W.alloc (.cells #[.string name, .slice B1 1 d1, .slice (some ⟨w1.heap.size + 1, 0, none⟩) 1 1, .slice B3 0 d3, .bool false] 68)) (.cells #[.string ⟨#[122, 111, 110, 101]⟩, .string zone] 109) (by simp; omega)).trans ((blk_old W (.cells #[.string name, .slice B1 1 d1, .slice (some ⟨w1.heap.size + 1, 0, none⟩) 1 1, .slice B3 0 d3, .bool false] 68) hl2).trans hset)
  have q1 := blk_last (W.alloc (.cells #[.string name, .slice B1 1 d1, .slice (some ⟨w1.heap.size + 1, 0, none⟩) 1 1, .slice B3 0 d3, .bool false] 68)) (.cells #[.string ⟨#[122, 111, 110, 101]⟩, .string zone] 109)
  rw [show (W.alloc (.cells #[.string name, .slice B1 1 d1, .slice (some ⟨w1.heap.size + 1, 0, none⟩) 1 1, .slice B3 0 d3, .bool false] 68)).heap.size = w1.heap.size + 1 by simp; omega] at q1
  have hbl : Below W.heap.size W ((W.alloc (.cells #[.string name, .slice B1 1 d1, .slice (some ⟨w1.heap.size + 1, 0, none⟩) 1 1, .slice B3 0 d3, .bool false] 68)).alloc (.cells #[.string ⟨#[122, 111, 110, 101]⟩, .string zone] 109)) := Below.then (alloc_below _ _) (alloc_below _ _)
  subst hL
  exact ret_row1 (cs := [.string name, .slice B1 1 d1, .slice (some ⟨w1.heap.size + 1, 0, none⟩) 1 1, .slice B3 0 d3, .bool false]) rfl rfl q0 Try.underlying68 rfl (by kernel_rfl) rfl
    ⟨_, rfl, ⟨_, _, _, _, _, _, rfl, HS.out, (S1.out.mono hnx).mono (nx_below hbl), Kd.S.one (nx_mk (by omega) (by simp) q1) ⟨zone_ok, HZ.out⟩, (S3.out.mono hnx).mono (nx_below hbl)⟩, Below.then hbel hbl⟩
end Go.Proofs.Ytfbmfjmnpfidoaa
