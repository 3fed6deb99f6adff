import Derived.Test.YtfbmfjmnpfidoaaProg
import Derived.Test.YtfbmfjmnpfidoaaMe1
import Derived.Test.YtfbmfjmnpfidoaaMe2
import Derived.Test.YtfbmfjmnpfidoaaMe3
import Derived.Test.YtfbmfjmnpfidoaaMe4
import Derived.Lib.ItoaNum
import Derived.Laws.IdiomStrings
namespace Go.Proofs.Ytfbmfjmnpfidoaa
open Go.RowKit Go.Sort

/-! Is a state small, and such that Check takes it? -/
set_option maxHeartbeats 2000000 in
set_option maxRecDepth 100000 in
theorem Good_calls (v : Value) (s : St) (w : World) (hv : Kd.state.V (vw w []) v s) :
    Calls Try.prog 8 #[v] w (FewIfB (s.Few ∧ checkSt s = 0) w) := by
  obtain ⟨cs, rfl, hks⟩ := hv
  have hvs : Kd.state.V (vw w []) (.agg cs.toArray) s := ⟨cs, rfl, hks⟩
  obtain ⟨A1, c1, A2, c2, A3, c3, rfl, -⟩ := hks
  have HVS := Lib.hid hvs
  clear hvs
  go_enter Try.func8, Try.ntmps8
  have HB : Hid (Below w.heap.size w (w.alloc (.cells #[.slice A1 s.nodes.length c1, .slice A2 s.pods.length c2, .slice A3 s.budgets.length c3] 26))) := alloc_below _ _
  have HQ : Hid ((w.alloc (.cells #[.slice A1 s.nodes.length c1, .slice A2 s.pods.length c2, .slice A3 s.budgets.length c3] 26)).heap[w.heap.size]? = some (.cells #[.slice A1 s.nodes.length c1, .slice A2 s.pods.length c2, .slice A3 s.budgets.length c3] 26 (0, 0))) := blk_last _ _
  go_upto_region 1 with fail
  generalize w.alloc (.cells #[.slice A1 s.nodes.length c1, .slice A2 s.pods.length c2, .slice A3 s.budgets.length c3] 26) = W at HB HQ ⊢
  obtain ⟨z, zf⟩ := blk_all HQ.out
  go_wp2_with fail
  refine (Few9_calls _ s _ (Kd.V.mono (vw_below HB.out) HVS.out)).mono ?_
  rintro e w1 ⟨r, rfl, hr, hb⟩
  replace HQ := Lib.hid ((hb.block _ (blk_lt HQ.out)).trans HQ.out)
  replace HB := Lib.hid (Below.then HB.out hb)
  clear hb z zf
  obtain ⟨z, zf⟩ := blk_all HQ.out
  cases r with
  | false =>
    clear hr
    go_wp2
    go_ret
    exact ⟨_, rfl, (fun h => by cases h), HB.out⟩
  | true =>
    have HF := Lib.hid (hr rfl)
    clear hr
    go_wp2_with fail
    refine (Of9_calls _ s _ (Kd.V.mono (vw_below HB.out) HVS.out) HF.out).mono ?_
    rintro e w2 ⟨cs, rfl, hk, hb⟩
    have hv2 : Kd.state.V (vw w2 []) (.agg cs.toArray) s := ⟨cs, rfl, Kd.state.mono (nx_vw (by simp)) hk⟩
    have HV2 := Lib.hid hv2
    replace HB := Lib.hid (Below.then HB.out hb)
    clear hb hv2 hk z zf HQ
    go_wp2_with fail
    refine (Check_calls _ s _ HV2.out).mono ?_
    rintro e w3 ⟨rfl, hb⟩
    replace HB := Lib.hid (Below.then HB.out hb)
    obtain ⟨n, hn⟩ : ∃ n, checkSt s = n := ⟨_, rfl⟩
    have HN := Lib.hid hn
    rw [hn]
    clear hb hn
    by_cases h0 : n = 0
    · subst h0
      go_wp2
      go_ret
      exact ⟨_, rfl, fun _ => ⟨HF.out, HN.out⟩, HB.out⟩
    · have t1 : (n == 0) = false := by simp [h0]
      go_wp2
      go_ret
      exact ⟨_, rfl, (fun h => by cases h), HB.out⟩
/-! The data that the laws make. -/
def tx (l : List UInt8) : ByteArray := ⟨l.toArray⟩
def ndN (name : ByteArray) (n : Int) : Nd := ⟨name, [⟨tx [99, 112, 117], n⟩], [], [], false⟩
def pdP (name : ByteArray) (n : Int) (on : ByteArray) : Pd := ⟨name, ⟨#[]⟩, 0, [⟨tx [99, 112, 117], n⟩], [], [], [], ⟨#[]⟩, 0, on, false⟩
def ndZ (name zone : ByteArray) : Nd := { ndN name 100 with labels := [⟨tx [122, 111, 110, 101], zone⟩] }
def pdO (name on : ByteArray) (most : Int) : Pd := { pdP name 1 on with owner := tx [119, 101, 98], key := tx [122, 111, 110, 101], most := most }
theorem cpu_ok : sok (tx [99, 112, 117]) := by unfold sok; decide
theorem zone_ok : sok (tx [122, 111, 110, 101]) := by unfold sok; decide
theorem sok_none : sok ⟨#[]⟩ := by unfold sok; decide
theorem i64_0 : i64 0 := by unfold i64; decide
/-- One element in a block of its own. -/
theorem Kd.S.one {α : Type} {n : Nat} {f : α → List Value} {p : α → Prop} {hn : ∀ x, (f x).length = n} {h : View} {b : Nat} {T : TypeId} {x : α} (hb : h b = some (.cells (f x).toArray T (0, 0))) (hp : p x) :
    (Kd.flat n f p hn).S h (.slice (some ⟨b, 0, none⟩) 1 1) [x] := by
  refine ⟨_, _, rfl, Nat.le_refl _, by simp, fun e => (by cases e), fun _ => ⟨b, 0, rfl, fun j y hj => ?_⟩⟩
  cases j with
  | succ j => simp at hj
  | zero =>
    simp only [List.getElem?_cons_zero, Option.some.injEq] at hj
    subst hj
    refine ⟨f x, ⟨rfl, hp⟩, fun i u hu => ?_⟩
    simp [View.cell?, hb, hu]
set_option maxHeartbeats 2000000 in
theorem N_calls (name : ByteArray) (n : Int) (w : World) (hs : sok name) (hn : i64 n) :
    Calls Try.prog 27 #[.string name, .int .i64 n] w (OneDone Kd.node (ndN name n) w) := by
  have HN := Lib.hid hn
  have HS := Lib.hid hs
  clear hn hs
  go_enter Try.func27, Try.ntmps27
  go_wp2
  have q0 : ((w.alloc (.cells #[.string name, .slice (some ⟨w.heap.size + 1, 0, none⟩) 1 1, .slice none 0 0, .slice none 0 0, .bool false] 68)).alloc (.cells #[.string ⟨#[99, 112, 117]⟩, .int .i64 n] 114)).heap[w.heap.size]? = some (.cells [.string name, .slice (some ⟨w.heap.size + 1, 0, none⟩) 1 1, .slice none 0 0, .slice none 0 0, .bool false].toArray 68 (0, 0)) :=
    (blk_old _ _ (by simp)).trans (blk_last _ _)
  have q1 : ((w.alloc (.cells #[.string name, .slice (some ⟨w.heap.size + 1, 0, none⟩) 1 1, .slice none 0 0, .slice none 0 0, .bool false] 68)).alloc (.cells #[.string ⟨#[99, 112, 117]⟩, .int .i64 n] 114)).heap[w.heap.size + 1]? = some (.cells #[.string ⟨#[99, 112, 117]⟩, .int .i64 n] 114 (0, 0)) := by
    have := blk_last (w.alloc (.cells #[.string name, .slice (some ⟨w.heap.size + 1, 0, none⟩) 1 1, .slice none 0 0, .slice none 0 0, .bool false] 68)) (.cells #[.string ⟨#[99, 112, 117]⟩, .int .i64 n] 114)
    simpa using this
  exact ret_row1 (cs := [.string name, .slice (some ⟨w.heap.size + 1, 0, none⟩) 1 1, .slice none 0 0, .slice none 0 0, .bool false]) rfl rfl q0 Try.underlying68 rfl (by kernel_rfl) rfl
    ⟨_, rfl, ⟨_, _, _, _, _, _, rfl, HS.out, Kd.S.one (nx_mk (by omega) (by simp) q1) ⟨cpu_ok, HN.out⟩, Kd.S.nil _ _, Kd.S.nil _ _⟩, Below.then (alloc_below _ _) (alloc_below _ _)⟩
set_option maxHeartbeats 2000000 in
theorem P_calls (name : ByteArray) (n : Int) (on : ByteArray) (w : World) (hs : sok name) (hn : i64 n) (ho : sok on) :
    Calls Try.prog 28 #[.string name, .int .i64 n, .string on] w (OneDone Kd.pod (pdP name n on) w) := by
  have HN := Lib.hid hn
  have HS := Lib.hid hs
  have HO := Lib.hid ho
  clear hn hs ho
  go_enter Try.func28, Try.ntmps28
  go_wp2
  have q0 : ((w.alloc (.cells #[.string name, .string ⟨#[]⟩, .int .i64 0, .slice (some ⟨w.heap.size + 1, 0, none⟩) 1 1, .slice none 0 0, .slice none 0 0, .slice none 0 0, .string ⟨#[]⟩, .int .i64 0, .string on, .bool false] 35)).alloc (.cells #[.string ⟨#[99, 112, 117]⟩, .int .i64 n] 114)).heap[w.heap.size]? = some (.cells [.string name, .string ⟨#[]⟩, .int .i64 0, .slice (some ⟨w.heap.size + 1, 0, none⟩) 1 1, .slice none 0 0, .slice none 0 0, .slice none 0 0, .string ⟨#[]⟩, .int .i64 0, .string on, .bool false].toArray 35 (0, 0)) :=
    (blk_old _ _ (by simp)).trans (blk_last _ _)
  have q1 : ((w.alloc (.cells #[.string name, .string ⟨#[]⟩, .int .i64 0, .slice (some ⟨w.heap.size + 1, 0, none⟩) 1 1, .slice none 0 0, .slice none 0 0, .slice none 0 0, .string ⟨#[]⟩, .int .i64 0, .string on, .bool false] 35)).alloc (.cells #[.string ⟨#[99, 112, 117]⟩, .int .i64 n] 114)).heap[w.heap.size + 1]? = some (.cells #[.string ⟨#[99, 112, 117]⟩, .int .i64 n] 114 (0, 0)) := by
    have := blk_last (w.alloc (.cells #[.string name, .string ⟨#[]⟩, .int .i64 0, .slice (some ⟨w.heap.size + 1, 0, none⟩) 1 1, .slice none 0 0, .slice none 0 0, .slice none 0 0, .string ⟨#[]⟩, .int .i64 0, .string on, .bool false] 35)) (.cells #[.string ⟨#[99, 112, 117]⟩, .int .i64 n] 114)
    simpa using this
  exact ret_row1 (cs := [.string name, .string ⟨#[]⟩, .int .i64 0, .slice (some ⟨w.heap.size + 1, 0, none⟩) 1 1, .slice none 0 0, .slice none 0 0, .slice none 0 0, .string ⟨#[]⟩, .int .i64 0, .string on, .bool false]) rfl rfl q0 Try.underlying35 rfl (by kernel_rfl) rfl
    ⟨_, rfl, ⟨_, _, _, _, _, _, _, _, rfl, ⟨⟨HS.out, sok_none, i64_0⟩, sok_none, i64_0, HO.out⟩, Kd.S.one (nx_mk (by omega) (by simp) q1) ⟨cpu_ok, HN.out⟩, Kd.S.nil _ _, Kd.S.nil _ _, Kd.S.nil _ _⟩, Below.then (alloc_below _ _) (alloc_below _ _)⟩
set_option maxHeartbeats 4000000 in
set_option maxRecDepth 100000 in
theorem Zoned_calls (name zone : ByteArray) (w : World) (hs : sok name) (hz : sok zone) :
    Calls Try.prog 23 #[.string name, .string zone] w (OneDone Kd.node (ndZ name zone) w) := by
  have HZ := Lib.hid hz
  have HS := Lib.hid hs
  clear hz hs
  go_enter Try.func23, Try.ntmps23
  go_wp2_with fail
  refine (N_calls name 100 _ HS.out ⟨by decide, by decide⟩).mono ?_
  rintro e w1 ⟨cs, rfl, ⟨B1, d1, B2, d2, B3, d3, rfl, -, s1, -, s3⟩, hb⟩
  simp only [ndN, List.length_singleton, List.length_nil] at s1 s3 ⊢
  have hq := (hb.block w.heap.size (by simp)).trans (blk_last w _)
  have HB := Lib.hid (Below.then (alloc_below w _) hb)
  have hlt := blk_lt hq
  have S1 := Lib.hid (s1.mono (nx_lo (lo := w.heap.size + 1) (by simp)))
  have S3 := Lib.hid (s3.mono (nx_lo (lo := w.heap.size + 1) (by simp)))
  have HQ := Lib.hid hq
  obtain ⟨z, zf⟩ := blk_all hq
  clear hb s1 s3 hq
  go_wp2
  obtain ⟨L, hL⟩ : ∃ L : List Value, L = [.string name, .slice B1 1 d1, .slice (some ⟨w1.heap.size + 1, 0, none⟩) 1 1, .slice B3 0 d3, .bool false] := ⟨_, rfl⟩
  have hset := setCells_all (cs := L) HQ.out (by rw [hL]; rfl)
  have hbel := Below.setCells HB.out (Nat.le_refl _) L 0
  have hsz := setCells_size w.heap.size L 0 w1
  have hnx := nx_setCells (w := w1) (lo := w.heap.size + 1) (lo' := w.heap.size) L 0 (Nat.lt_succ_self w.heap.size) (by omega)
  have hgoal : (((((w1.setCell ⟨w.heap.size, 0, none⟩ (.string name)).setCell ⟨w.heap.size, 1, none⟩ (.slice B1 1 d1)).setCell ⟨w.heap.size, 2, none⟩ (.slice (some ⟨w1.heap.size + 1, 0, none⟩) 1 1)).setCell ⟨w.heap.size, 3, none⟩ (.slice B3 0 d3)).setCell ⟨w.heap.size, 4, none⟩ (.bool false)) = w1.setCells w.heap.size 0 L := by rw [hL]; rfl
  rw [hgoal]
  clear hgoal
  generalize w1.setCells w.heap.size 0 L = W at hset hbel hsz hnx ⊢
  have hl2 : w.heap.size < W.heap.size := by omega
  have q0 := (blk_old (W.alloc (.cells #[.string name, .slice B1 1 d1, .slice (some ⟨w1.heap.size + 1, 0, none⟩) 1 1, .slice B3 0 d3, .bool false] 68)) (.cells #[.string ⟨#[122, 111, 110, 101]⟩, .string zone] 109) (by simp; omega)).trans ((blk_old W (.cells #[.string name, .slice B1 1 d1, .slice (some ⟨w1.heap.size + 1, 0, none⟩) 1 1, .slice B3 0 d3, .bool false] 68) hl2).trans hset)
  have q1 := blk_last (W.alloc (.cells #[.string name, .slice B1 1 d1, .slice (some ⟨w1.heap.size + 1, 0, none⟩) 1 1, .slice B3 0 d3, .bool false] 68)) (.cells #[.string ⟨#[122, 111, 110, 101]⟩, .string zone] 109)
  rw [show (W.alloc (.cells #[.string name, .slice B1 1 d1, .slice (some ⟨w1.heap.size + 1, 0, none⟩) 1 1, .slice B3 0 d3, .bool false] 68)).heap.size = w1.heap.size + 1 by simp; omega] at q1
  have hbl : Below W.heap.size W ((W.alloc (.cells #[.string name, .slice B1 1 d1, .slice (some ⟨w1.heap.size + 1, 0, none⟩) 1 1, .slice B3 0 d3, .bool false] 68)).alloc (.cells #[.string ⟨#[122, 111, 110, 101]⟩, .string zone] 109)) := Below.then (alloc_below _ _) (alloc_below _ _)
  subst hL
  exact ret_row1 (cs := [.string name, .slice B1 1 d1, .slice (some ⟨w1.heap.size + 1, 0, none⟩) 1 1, .slice B3 0 d3, .bool false]) rfl rfl q0 Try.underlying68 rfl (by kernel_rfl) rfl
    ⟨_, rfl, ⟨_, _, _, _, _, _, rfl, HS.out, (S1.out.mono hnx).mono (nx_below hbl), Kd.S.one (nx_mk (by omega) (by simp) q1) ⟨zone_ok, HZ.out⟩, (S3.out.mono hnx).mono (nx_below hbl)⟩, Below.then hbel hbl⟩
end Go.Proofs.Ytfbmfjmnpfidoaa
namespace Go.Proofs.Ytfbmfjmnpfidoaa
open Go.RowKit

/-! What Check tells, in plain words; the sums over domains. -/
theorem orV_zero {a b : Int} (h : orV a b = 0) : a = 0 ∧ b = 0 := by
  unfold orV at h
  by_cases k : a ≠ 0
  · rw [if_pos k] at h; exact absurd h k
  · rw [if_neg k] at h; exact ⟨Decidable.not_not.1 k, h⟩
theorem manyV_zero {α : Type} {lim : Nat} {l : List α} {n : Int} (h : manyV lim l n = 0) : l.length ≤ lim ∧ n = 0 := by
  unfold manyV at h
  split at h
  · cases h
  · exact ⟨by omega, h⟩
theorem ltS_trans {a b c : ByteArray} (h : ltS a b = true) (k : ltS b c = true) : ltS a c = true := by
  unfold ltS at *
  simp only [decide_eq_true_eq] at *
  exact Std.lt_of_lt_of_le h (Std.le_of_lt k)
theorem ltS_ne {a b : ByteArray} (h : ltS a b = true) : a ≠ b := by
  rintro rfl
  unfold ltS at h
  simp only [decide_eq_true_eq] at h
  exact Std.lt_irrefl h
theorem rowsV_zero {α : Type} {f : α → Int} {nm : α → ByteArray} : ∀ {l : List α} {p : Option ByteArray}, rowsV f nm p l = 0 →
    (∀ x ∈ l, f x = 0) ∧ l.Pairwise (fun a b => ltS (nm a) (nm b) = true) ∧ ∀ q, p = some q → ∀ x ∈ l, ltS q (nm x) = true
  | [], _, _ => ⟨fun _ h => (by cases h), List.Pairwise.nil, fun _ _ _ h => (by cases h)⟩
  | x :: r, p, h => by
    unfold rowsV at h
    obtain ⟨h1, h2⟩ := orV_zero h
    split at h2
    · cases h2
    · rename_i hl
      obtain ⟨i1, i2, i3⟩ := rowsV_zero h2
      have hx := i3 (nm x) rfl
      refine ⟨fun y hy => ?_, List.pairwise_cons.2 ⟨hx, i2⟩, fun q hq y hy => ?_⟩
      · rcases List.mem_cons.1 hy with rfl | hy
        · exact h1
        · exact i1 y hy
      · subst hq
        have h3 : ltS q (nm x) = true := by
          cases hc : ltS q (nm x) with
          | true => rfl
          | false => exact absurd (show (!ltS q (nm x)) = true by rw [hc]; rfl) hl
        rcases List.mem_cons.1 hy with rfl | hy
        · exact h3
        · exact ltS_trans h3 (hx y hy)
theorem check_parts {s : St} (h : checkSt s = 0) : checkNodes s.nodes = 0 ∧ checkPods s.pods = 0 := by
  unfold checkSt at h
  obtain ⟨h1, h⟩ := orV_zero h
  exact ⟨h1, (orV_zero h).1⟩
theorem check_labels {s : St} (h : checkSt s = 0) : ∀ n ∈ s.nodes, ∀ x ∈ n.labels, isName x.val = true := by
  intro n hn x hx
  have h1 := (manyV_zero (check_parts h).1).2
  have h2 := (rowsV_zero h1).1 n hn
  unfold checkNode at h2
  obtain ⟨-, h2⟩ := orV_zero h2
  obtain ⟨-, h2⟩ := orV_zero h2
  obtain ⟨h2, -⟩ := orV_zero h2
  have h3 := (rowsV_zero (manyV_zero h2).2).1 x hx
  unfold pairV at h3
  cases hv : isName x.val with
  | true => rfl
  | false => rw [hv] at h3; split at h3 <;> cases h3
theorem pods_names {s : St} (h : checkSt s = 0) : s.pods.Pairwise (fun a b => ltS a.name b.name = true) := (rowsV_zero (manyV_zero (check_parts h).2).2).2.1
theorem findV_mem : ∀ {l : List Nd} {k : ByteArray}, (findV l k).2 = true → (findV l k).1 ∈ l
  | n :: r, k, h => by
    unfold findV at *
    by_cases e : n.name = k
    · rw [if_pos e]; exact List.mem_cons_self ..
    · rw [if_neg e] at h ⊢; exact List.mem_cons_of_mem _ (findV_mem h)
theorem getV_mem : ∀ {l : List Pair} {k : ByteArray}, (getV l k).2 = true → ∃ x ∈ l, (getV l k).1 = x.val
  | p :: r, k, h => by
    unfold getV at *
    by_cases e : p.key = k
    · rw [if_pos e]; exact ⟨p, List.mem_cons_self .., rfl⟩
    · rw [if_neg e] at h ⊢
      obtain ⟨x, hx, e⟩ := getV_mem h
      exact ⟨x, List.mem_cons_of_mem _ hx, e⟩
theorem dom_found {s : St} {name key : ByteArray} (h : (domV s name key).2 = true) : (findV s.nodes name).2 = true := by
  cases hf : (findV s.nodes name).2 with
  | true => rfl
  | false =>
    unfold domV at h
    rw [find_none hf] at h
    cases h
theorem dom_mem {s : St} {name key : ByteArray} (h : (domV s name key).2 = true) : bs (domV s name key).1 ∈ domsV s.nodes key := by
  unfold domsV
  rw [insAll_mem]
  refine List.mem_map.2 ⟨(domV s name key).1, ?_, rfl⟩
  unfold domsL
  refine List.mem_filterMap.2 ⟨(findV s.nodes name).1, findV_mem (dom_found h), ?_⟩
  show (if (domV s name key).2 = true then some (domV s name key).1 else none) = _
  rw [if_pos h]
def blank : ByteArray := ⟨#[110, 111, 32, 119, 104, 101, 114, 101]⟩
theorem no_where {s : St} (h : checkSt s = 0) (p : Pd) (l : List Pd) : countV s p blank l = 0 := by
  unfold countV
  rw [List.countP_eq_zero]
  intro x _ hx
  simp only [Bool.and_eq_true] at hx
  obtain ⟨-, hd⟩ := hx
  unfold inDom at hd
  simp only [Bool.and_eq_true, decide_eq_true_eq] at hd
  obtain ⟨h1, h2⟩ := hd
  obtain ⟨y, hy, e⟩ := getV_mem (show (getV (findV s.nodes x.node).1.labels p.key).2 = true from h1)
  have hn := check_labels h _ (findV_mem (dom_found h1)) y hy
  rw [← e, show (getV (findV s.nodes x.node).1.labels p.key).1 = blank from h2] at hn
  revert hn
  decide
def sumC (s : St) (p : Pd) (l : List (List UInt8)) : Nat := (l.map fun d => countV s p (ba d) s.pods).sum
def wantV (s : St) (p : Pd) (l : List Pd) : Nat := l.countP fun x => other p x && (domV s x.node p.key).2
theorem sum_add {α : Type} (f g : α → Nat) : ∀ l : List α, (l.map fun d => f d + g d).sum = (l.map f).sum + (l.map g).sum
  | [] => rfl
  | a :: r => by simp only [List.map_cons, List.sum_cons, sum_add f g r]; omega
theorem sum_none {α : Type} (f : α → Nat) : ∀ l : List α, (∀ x ∈ l, f x = 0) → (l.map f).sum = 0
  | [], _ => rfl
  | a :: r, h => by rw [List.map_cons, List.sum_cons, h a (List.mem_cons_self ..), sum_none f r (fun x hx => h x (List.mem_cons_of_mem _ hx))]
theorem sum_one {v : List UInt8} : ∀ l : List (List UInt8), l.Nodup → v ∈ l → (l.map fun d => if d = v then 1 else 0).sum = 1
  | a :: r, hn, hv => by
    obtain ⟨h1, h2⟩ := List.nodup_cons.1 hn
    rw [List.map_cons, List.sum_cons]
    by_cases e : a = v
    · subst e
      rw [if_pos rfl, sum_none _ r (fun x hx => if_neg (fun k : x = a => h1 (k ▸ hx)))]
    · rw [if_neg e, sum_one r h2 ((List.mem_cons.1 hv).resolve_left (fun k => e k.symm))]
theorem rises_nodup {l : List (List UInt8)} (h : Rises l) : l.Nodup := List.Pairwise.imp (fun k e => by subst e; exact Std.lt_irrefl k) h
theorem one_dom (s : St) (p : Pd) (x : Pd) : ((domsV s.nodes p.key).map fun d => if (other p x && inDom s x.node p.key (ba d)) = true then 1 else 0).sum = if (other p x && (domV s x.node p.key).2) = true then 1 else 0 := by
  cases ho : other p x with
  | false => simp only [Bool.false_and]; exact (sum_none _ _ (fun _ _ => rfl)).trans rfl
  | true =>
    simp only [Bool.true_and]
    cases hd : (domV s x.node p.key).2 with
    | false =>
      rw [sum_none _ _ (fun d _ => by unfold inDom; rw [hd]; rfl)]
      rfl
    | true =>
      have he : ∀ d, (if inDom s x.node p.key (ba d) = true then 1 else 0) = if d = bs (domV s x.node p.key).1 then 1 else 0 := fun d => by
        have : inDom s x.node p.key (ba d) = decide (d = bs (domV s x.node p.key).1) := by
          unfold inDom
          rw [hd, Bool.true_and]
          by_cases e : d = bs (domV s x.node p.key).1
          · rw [decide_eq_true e, decide_eq_true (by rw [e]; rfl)]
          · rw [decide_eq_false e, decide_eq_false (fun k => e (by rw [k]; rfl))]
        rw [this]; simp
      simp only [he]
      rw [sum_one _ (rises_nodup (domsV_rises _ _)) (dom_mem hd)]
      rfl
theorem sums_at (s : St) (p : Pd) : ∀ l : List Pd, ((domsV s.nodes p.key).map fun d => countV s p (ba d) l).sum = wantV s p l
  | [] => sum_none _ _ (fun _ _ => rfl)
  | x :: r => by
    have h1 : ∀ d, countV s p (ba d) (x :: r) = countV s p (ba d) r + if (other p x && inDom s x.node p.key (ba d)) = true then 1 else 0 := fun d => List.countP_cons
    simp only [h1]
    rw [sum_add, sums_at s p r, one_dom]
    exact List.countP_cons.symm
theorem sums_eq (s : St) (p : Pd) : sumC s p (domsV s.nodes p.key) = wantV s p s.pods := sums_at s p s.pods
theorem sumC_snoc (s : St) (p : Pd) {l : List (List UInt8)} {k : Nat} (h : k < l.length) : sumC s p (l.take (k + 1)) = sumC s p (l.take k) + countV s p (ba l[k]) s.pods := by
  unfold sumC
  rw [List.take_succ_eq_append_getElem h, List.map_append, List.sum_append]
  simp
theorem sumC_le (s : St) (p : Pd) : ∀ l : List (List UInt8), sumC s p l ≤ l.length * s.pods.length
  | [] => by simp [sumC]
  | a :: r => by
    have h1 := sumC_le s p r
    have h2 := countV_le s p (ba a) s.pods
    unfold sumC at h1 ⊢
    rw [List.map_cons, List.sum_cons, List.length_cons, Nat.add_mul]
    omega
theorem wantV_snoc (s : St) (p : Pd) {l : List Pd} {k : Nat} (h : k < l.length) : wantV s p (l.take (k + 1)) = wantV s p (l.take k) + if (other p l[k] && (domV s l[k].node p.key).2) = true then 1 else 0 := by
  unfold wantV
  rw [List.take_succ_eq_append_getElem h, List.countP_append, List.countP_singleton]
theorem wantV_le (s : St) (p : Pd) (l : List Pd) : wantV s p l ≤ l.length := List.countP_le_length
end Go.Proofs.Ytfbmfjmnpfidoaa
namespace Go.Proofs.Ytfbmfjmnpfidoaa
open Go.RowKit

/-! Pods put one by one where they stand least close: the plain law. -/
def nnm (i : Nat) : ByteArray := tx (110 :: Lib.decDigits i)
def znm (i : Nat) : ByteArray := tx (122 :: Lib.decDigits i)
def pnm (i : Nat) : ByteArray := tx [112, UInt8.ofNat (97 + i)]
def zk : ByteArray := tx [122, 111, 110, 101]
def evN (k : Nat) : List Nd := (List.range k).map fun i => ndZ (nnm i) (znm i)
/-- The pods, by the nodes that they stand on. -/
def evP (L : List Nat) : List Pd := L.mapIdx fun i j => pdO (pnm i) (nnm j) 1
def evS (k : Nat) (L : List Nat) : St := ⟨evN k, evP L, []⟩
theorem ev_dom_table : ∀ k, k < 7 → ∀ j, j < k → domV ⟨evN k, [], []⟩ (nnm j) zk = (znm j, true) := by decide +kernel
theorem ev_dom {k j : Nat} (hk : k < 7) (hj : j < k) (L : List Nat) : domV (evS k L) (nnm j) zk = (znm j, true) := ev_dom_table k hk j hj
theorem ev_doms_table : ∀ k, k < 7 → domsV (evN k) zk = (List.range k).map fun i => 122 :: Lib.decDigits i := by decide +kernel
theorem znm_table : ∀ i, i < 7 → ∀ j, j < 7 → znm i = znm j → i = j := by decide +kernel
theorem nnm_table : ∀ i, i < 7 → ∀ j, j < 7 → nnm i = nnm j → i = j := by decide +kernel
theorem pnm_table : ∀ i, i < 21 → ∀ j, j < 21 → pnm i = pnm j → i = j := by decide +kernel
def zz : ByteArray := tx [122, 122]
theorem zz_table : ∀ i, i < 21 → pnm i ≠ zz := by decide +kernel
/-- How many stand on a node. -/
def cn (L : List Nat) (j : Nat) : Nat := L.count j
theorem ev_other (p : Pd) (i j : Nat) (hp : p.owner = tx [119, 101, 98]) (hn : pnm i ≠ p.name) : other p (pdO (pnm i) (nnm j) 1) = true := by
  have h1 : (pdO (pnm i) (nnm j) 1).owner = tx [119, 101, 98] := rfl
  have h2 : (pdO (pnm i) (nnm j) 1).name = pnm i := rfl
  have h3 : (pdO (pnm i) (nnm j) 1).node = nnm j := rfl
  have h4 : (pdO (pnm i) (nnm j) 1).hold = false := rfl
  have h5 : nnm j ≠ ⟨#[]⟩ := fun h => by
    have := congrArg ByteArray.size h
    have h6 : (nnm j).size = (Lib.decDigits j).length + 1 := rfl
    rw [h6] at this
    cases this
  have h6 : tx [119, 101, 98] ≠ ⟨#[]⟩ := by decide
  unfold other
  rw [h1, h2, h3, h4, hp, decide_eq_false h6, decide_eq_false hn, decide_eq_false h5]
  simp
theorem ev_self (p : Pd) (i j : Nat) (hn : pnm i = p.name) : other p (pdO (pnm i) (nnm j) 1) = false := by
  have h2 : (pdO (pnm i) (nnm j) 1).name = p.name := hn
  unfold other
  rw [h2]; simp
theorem mapIdx_cons' {α β : Type} (f : Nat → α → β) (a : α) (l : List α) : (a :: l).mapIdx f = f 0 a :: l.mapIdx (fun i => f (i + 1)) := List.mapIdx_cons
/-- How many of the pods from number b on count for p: all that stand in the zone but the one of its own name. -/
theorem ev_count_from {k : Nat} (hk : k < 7) (M : List Nat) (p : Pd) (hp : p.owner = tx [119, 101, 98]) (hkey : p.key = zk) {d : Nat} (hd : d < k) :
    ∀ (L : List Nat) (b : Nat), (∀ j ∈ L, j < k) → (∀ i, b ≤ i → i < b + L.length → pnm i ≠ p.name) →
      countV (evS k M) p (znm d) (L.mapIdx fun i j => pdO (pnm (b + i)) (nnm j) 1) = cn L d
  | [], _, _, _ => rfl
  | j :: L, b, hL, hn => by
    have hj := hL j (List.mem_cons_self ..)
    have ih := ev_count_from hk M p hp hkey hd L (b + 1) (fun x hx => hL x (List.mem_cons_of_mem _ hx)) (fun i h1 h2 => hn i (by omega) (by simp only [List.length_cons]; omega))
    have he : (j :: L).mapIdx (fun i j => pdO (pnm (b + i)) (nnm j) 1) = pdO (pnm b) (nnm j) 1 :: L.mapIdx (fun i j => pdO (pnm (b + 1 + i)) (nnm j) 1) := by
      rw [mapIdx_cons']
      congr 1
      congr 1
      funext i j
      rw [show b + (i + 1) = b + 1 + i by omega]
    rw [he]
    unfold countV at ih ⊢
    rw [List.countP_cons, ih]
    have ho := ev_other p b j hp (hn b (Nat.le_refl _) (by simp))
    have hi : inDom (evS k M) (pdO (pnm b) (nnm j) 1).node p.key (znm d) = decide (j = d) := by
      unfold inDom
      rw [hkey, show (pdO (pnm b) (nnm j) 1).node = nnm j from rfl, ev_dom hk hj, Bool.true_and]
      by_cases e : j = d
      · subst e; simp
      · rw [decide_eq_false e, decide_eq_false (fun h => e (znm_table j (by omega) d (by omega) h))]
    rw [ho, hi, Bool.true_and]
    unfold cn
    rw [List.count_cons]
    congr 1
theorem ev_count {k : Nat} (hk : k < 7) (L M : List Nat) (p : Pd) (hp : p.owner = tx [119, 101, 98]) (hkey : p.key = zk) {d : Nat} (hd : d < k) (hL : ∀ j ∈ L, j < k) (hn : ∀ i, i < L.length → pnm i ≠ p.name) :
    countV (evS k M) p (znm d) (evP L) = cn L d := by
  have := ev_count_from hk M p hp hkey hd L 0 hL (fun i _ h => hn i (by omega))
  simpa [evP] using this
/-! The same on counts alone. -/
def leastC (c : Nat → Nat) (j here : Nat) (l : List Nat) : Nat := l.foldl (fun a d => if d = j then a else min a (c d)) here
def skC (c : Nat → Nat) (k j : Nat) : Int := ((c j + 1 : Nat) : Int) - (leastC c j (c j + 1) (List.range k) : Int)
theorem least_bridge {k : Nat} (hk : k < 7) (s : St) (p : Pd) (c : Nat → Nat) {j : Nat} (hj : j < k) (hc : ∀ d, d < k → countV s p (znm d) s.pods = c d) :
    ∀ (l : List Nat) (here : Nat), (∀ d ∈ l, d < k) → leastV s p (znm j) here (l.map fun i => 122 :: Lib.decDigits i) = leastC c j here l
  | [], _, _ => rfl
  | d :: l, here, h => by
    have hd := h d (List.mem_cons_self ..)
    have ih := fun here => least_bridge hk s p c hj hc l here (fun x hx => h x (List.mem_cons_of_mem _ hx))
    unfold leastV leastC at ih ⊢
    rw [List.map_cons, List.foldl_cons, List.foldl_cons, ih]
    congr 1
    have e1 : ba (122 :: Lib.decDigits d) = znm d := rfl
    rw [e1, hc d hd]
    by_cases e : d = j
    · subst e; simp
    · rw [if_neg e, if_neg (fun h => e (znm_table d (by omega) j (by omega) h))]
theorem ev_skew {k : Nat} (hk : k < 7) {s : St} (hs : s.nodes = evN k) {p : Pd} (hkey : p.key = zk) (c : Nat → Nat) {j : Nat} (hj : j < k) (hc : ∀ d, d < k → countV s p (znm d) s.pods = c d) :
    skewV s p (nnm j) = (skC c k j, true) := by
  have hd : domV s (nnm j) p.key = (znm j, true) := by
    rw [hkey]
    show getV (findV s.nodes (nnm j)).1.labels zk = _
    rw [hs]
    exact ev_dom hk hj []
  have hds : domsV s.nodes p.key = (List.range k).map fun i => 122 :: Lib.decDigits i := by rw [hs, hkey]; exact ev_doms_table k hk
  unfold skewV
  rw [if_neg (by rw [hkey]; decide), hd, if_pos rfl, hds]
  have hh : hereV s p (znm j) = c j + 1 := by unfold hereV; rw [hc j hj]
  rw [hh, least_bridge hk s p c hj hc _ _ (fun d hd => List.mem_range.1 hd)]
  rfl
def bestC (c : Nat → Nat) (k : Nat) : Nat → Nat
  | 0 => 0
  | j + 1 => if skC c k j < skC c k (bestC c k j) then j else bestC c k j
/-- They go round. -/
def evL (k n : Nat) : List Nat := (List.range n).map (· % k)
def evC (n k d : Nat) : Nat := n / k + if d < n % k then 1 else 0
theorem evL_count : ∀ k, k < 7 → 0 < k → ∀ n, n < 20 → ∀ d, d < k → cn (evL k n) d = evC n k d := by decide +kernel
theorem evC_best : ∀ k, k < 7 → 0 < k → ∀ n, n < 20 → bestC (evC n k) k k = n % k := by decide +kernel
theorem evC_pos : ∀ k, k < 7 → 0 < k → ∀ n, n < 20 → ∀ j, j < k → 0 ≤ skC (evC n k) k j := by decide +kernel
theorem evC_bad : ∀ k, k < 7 → 0 < k → ∀ n, n < 20 → ∀ j, j < k → 0 < evC n k j → skC (fun d => if d = j then evC n k d - 1 else evC n k d) k j ≤ 1 := by decide +kernel
theorem evC_end (n k j : Nat) : (evC n k j = n / k ∨ evC n k j = n / k + 1) ∧ (n % k = 0 → evC n k j = n / k) := by
  unfold evC
  split
  · exact ⟨.inr rfl, fun h => by omega⟩
  · exact ⟨.inl rfl, fun _ => rfl⟩
theorem evL_lt {k n : Nat} (hk : 0 < k) : ∀ j ∈ evL k n, j < k := fun j hj => by
  obtain ⟨i, -, rfl⟩ := List.mem_map.1 hj
  exact Nat.mod_lt _ hk
theorem evL_len (k n : Nat) : (evL k n).length = n := by simp [evL]
theorem evP_len (L : List Nat) : (evP L).length = L.length := by simp [evP]
theorem evP_snoc (k n : Nat) : evP (evL k (n + 1)) = evP (evL k n) ++ [pdO (pnm n) (nnm (n % k)) 1] := by
  unfold evP evL
  rw [List.range_succ, List.map_append, List.mapIdx_append]
  simp
theorem evN_len (k : Nat) : (evN k).length = k := by simp [evN]
theorem evN_at {k j : Nat} (h : j < (evN k).length) : (evN k)[j].name = nnm j := by simp [evN, ndZ, ndN]
theorem evN_snoc (k : Nat) : evN (k + 1) = evN k ++ [ndZ (nnm k) (znm k)] := by
  unfold evN
  rw [List.range_succ, List.map_append]; rfl
theorem least_congr (c c' : Nat → Nat) (j k : Nat) (h : ∀ d, d < k → c d = c' d) : ∀ (l : List Nat) (here : Nat), (∀ d ∈ l, d < k) → leastC c j here l = leastC c' j here l
  | [], _, _ => rfl
  | d :: l, here, hl => by
    have ih := fun here => least_congr c c' j k h l here (fun x hx => hl x (List.mem_cons_of_mem _ hx))
    unfold leastC at ih ⊢
    rw [List.foldl_cons, List.foldl_cons, ih, h d (hl d (List.mem_cons_self ..))]
theorem skC_congr {c c' : Nat → Nat} {k j : Nat} (hj : j < k) (h : ∀ d, d < k → c d = c' d) : skC c k j = skC c' k j := by
  unfold skC
  rw [h j hj, least_congr c c' j k h _ _ (fun d hd => List.mem_range.1 hd)]
/-- A pod that is put next. -/
theorem ev_next {k n : Nat} (hk : k < 7) (h0 : 0 < k) (hn : n < 20) {p : Pd} (hp : p.owner = tx [119, 101, 98]) (hkey : p.key = zk) (hname : ∀ i, i < n → pnm i ≠ p.name) {j : Nat} (hj : j < k) :
    skewV (evS k (evL k n)) p (nnm j) = (skC (evC n k) k j, true) :=
  ev_skew hk rfl hkey (evC n k) hj (fun d hd => by
    show countV (evS k (evL k n)) p (znm d) (evP (evL k n)) = _
    rw [ev_count hk _ _ p hp hkey hd (evL_lt h0) (fun i hi => hname i (by rw [evL_len] at hi; exact hi)), evL_count k hk h0 n hn d hd])
theorem ev_count_own {k : Nat} (hk : k < 7) (M : List Nat) (p : Pd) (i0 : Nat) (h21 : i0 < 21) (hp : p.owner = tx [119, 101, 98]) (hkey : p.key = zk) (hname : p.name = pnm i0) {d : Nat} (hd : d < k) :
    ∀ (L : List Nat) (b : Nat), b + L.length ≤ 21 → (∀ j ∈ L, j < k) →
      countV (evS k M) p (znm d) (L.mapIdx fun i j => pdO (pnm (b + i)) (nnm j) 1) + (if b ≤ i0 ∧ L[i0 - b]? = some d then 1 else 0) = cn L d
  | [], _, _, _ => by simp [countV, cn]
  | j :: L, b, hb, hL => by
    have hj := hL j (List.mem_cons_self ..)
    simp only [List.length_cons] at hb
    have he : (j :: L).mapIdx (fun i j => pdO (pnm (b + i)) (nnm j) 1) = pdO (pnm b) (nnm j) 1 :: L.mapIdx (fun i j => pdO (pnm (b + 1 + i)) (nnm j) 1) := by
      rw [mapIdx_cons']
      congr 1
      congr 1
      funext i j
      rw [show b + (i + 1) = b + 1 + i by omega]
    rw [he]
    by_cases hbi : b = i0
    · subst hbi
      have ih := ev_count_from hk M p hp hkey hd L (b + 1) (fun x hx => hL x (List.mem_cons_of_mem _ hx)) (fun i h1 h2 => fun e => by
        rw [hname] at e
        have := pnm_table i (by omega) b (by omega) e
        omega)
      have ho := ev_self p b j hname.symm
      unfold countV at ih ⊢
      rw [List.countP_cons, ih, ho]
      unfold cn
      rw [List.count_cons]
      simp
    · have ih := ev_count_own hk M p i0 h21 hp hkey hname hd L (b + 1) (by omega) (fun x hx => hL x (List.mem_cons_of_mem _ hx))
      have hne : pnm b ≠ p.name := fun e => by
        rw [hname] at e
        exact hbi (pnm_table b (by omega) i0 h21 e)
      have ho := ev_other p b j hp hne
      have hi : inDom (evS k M) (pdO (pnm b) (nnm j) 1).node p.key (znm d) = decide (j = d) := by
        unfold inDom
        rw [hkey, show (pdO (pnm b) (nnm j) 1).node = nnm j from rfl, ev_dom hk hj, Bool.true_and]
        by_cases e : j = d
        · subst e; simp
        · rw [decide_eq_false e, decide_eq_false (fun h => e (znm_table j (by omega) d (by omega) h))]
      have hif : (if b ≤ i0 ∧ (j :: L)[i0 - b]? = some d then 1 else 0) = if b + 1 ≤ i0 ∧ L[i0 - (b + 1)]? = some d then 1 else 0 := by
        by_cases hle : b + 1 ≤ i0
        · rw [show i0 - b = (i0 - (b + 1)) + 1 by omega, List.getElem?_cons_succ]
          simp only [hle, show b ≤ i0 by omega, true_and]
        · have : ¬ b ≤ i0 := by omega
          simp [hle, this]
      rw [hif]
      unfold countV at ih ⊢
      rw [List.countP_cons, ho, hi, Bool.true_and]
      unfold cn at ih ⊢
      rw [List.count_cons, ← ih]
      by_cases e : j = d <;> simp [e] <;> omega
theorem ev_bad {k n : Nat} (hk : k < 7) (h0 : 0 < k) (hn : n < 20) : badL (evS k (evL k n)) (evS k (evL k n)).pods = [] := by
  unfold badL
  rw [List.map_eq_nil_iff, List.filter_eq_nil_iff]
  intro x hx hb
  obtain ⟨i, hi, rfl⟩ := List.getElem_of_mem (show x ∈ evP (evL k n) from hx)
  have hil : i < (evL k n).length := by rw [evP_len] at hi; exact hi
  have hin : i < n := by rw [evL_len] at hil; exact hil
  obtain ⟨j, hj⟩ : ∃ j, (evL k n)[i] = j := ⟨_, rfl⟩
  have hjk : j < k := by rw [← hj]; exact evL_lt h0 _ (List.getElem_mem hil)
  have hxe : (evP (evL k n))[i] = pdO (pnm i) (nnm j) 1 := by
    rw [← hj]
    exact List.getElem_mapIdx ..
  rw [hxe] at hb
  have hc : ∀ d, d < k → countV (evS k (evL k n)) (pdO (pnm i) (nnm j) 1) (znm d) (evS k (evL k n)).pods = (fun d => if d = j then evC n k d - 1 else evC n k d) d := fun d hd => by
    have h1 := ev_count_own hk (evL k n) (pdO (pnm i) (nnm j) 1) i (by omega) rfl rfl rfl hd (evL k n) 0 (by rw [evL_len]; omega) (evL_lt h0)
    rw [evL_count k hk h0 n hn d hd] at h1
    simp only [Nat.zero_add, Nat.zero_le, true_and, Nat.sub_zero, List.getElem?_eq_getElem hil, hj, Option.some.injEq] at h1
    show countV _ _ _ (evP (evL k n)) = if d = j then _ else _
    unfold evP
    by_cases e : d = j
    · rw [if_pos e.symm] at h1
      rw [if_pos e]; omega
    · rw [if_neg (Ne.symm e)] at h1
      rw [if_neg e]; omega
  have hpos : 0 < evC n k j := by
    rw [← evL_count k hk h0 n hn j hjk]
    unfold cn
    rw [List.count_pos_iff]
    rw [← hj]; exact List.getElem_mem hil
  have hs := ev_skew hk (s := evS k (evL k n)) rfl (p := pdO (pnm i) (nnm j) 1) rfl _ hjk hc
  have hle := evC_bad k hk h0 n hn j hjk hpos
  unfold badB at hb
  rw [show (pdO (pnm i) (nnm j) 1).node = nnm j from rfl, hs] at hb
  have hm : (pdO (pnm i) (nnm j) 1).most = 1 := rfl
  rw [hm] at hb
  simp at hb
  omega
end Go.Proofs.Ytfbmfjmnpfidoaa
namespace Go.Proofs.Ytfbmfjmnpfidoaa
open Go.RowKit Go.Sort

theorem web_ok : sok (tx [119, 101, 98]) := by unfold sok; decide
set_option maxHeartbeats 4000000 in
set_option maxRecDepth 100000 in
theorem Owned_calls (name on : ByteArray) (most : Int) (w : World) (hs : sok name) (ho : sok on) (hm : i64 most) :
    Calls Try.prog 25 #[.string name, .string on, .int .i64 most] w (OneDone Kd.pod (pdO name on most) w) := by
  have HO := Lib.hid ho
  have HS := Lib.hid hs
  have HM := Lib.hid hm
  clear ho hs hm
  go_enter Try.func25, Try.ntmps25
  go_wp2_with fail
  refine (P_calls name 1 on _ HS.out ⟨by decide, by decide⟩ HO.out).mono ?_
  rintro e w1 ⟨cs, rfl, ⟨B1, d1, B2, d2, B3, d3, B4, d4, rfl, -, s1, s2, s3, s4⟩, hb⟩
  simp only [pdP, List.length_singleton, List.length_nil] at s1 s2 s3 s4 ⊢
  have hq := (hb.block w.heap.size (by simp)).trans (blk_last w _)
  have HB := Lib.hid (Below.then (alloc_below w _) hb)
  have hlt := blk_lt hq
  have S1 := Lib.hid (s1.mono (nx_lo (lo := w.heap.size + 1) (by simp)))
  have S2 := Lib.hid (s2.mono (nx_lo (lo := w.heap.size + 1) (by simp)))
  have S3 := Lib.hid (s3.mono (nx_lo (lo := w.heap.size + 1) (by simp)))
  have S4 := Lib.hid (s4.mono (nx_lo (lo := w.heap.size + 1) (by simp)))
  have HQ := Lib.hid hq
  obtain ⟨z, zf⟩ := blk_all hq
  clear hb s1 s2 s3 s4 hq
  go_wp2
  obtain ⟨L, hL⟩ : ∃ L : List Value, L = [.string name, .string ⟨#[119, 101, 98]⟩, .int .i64 0, .slice B1 1 d1, .slice B2 0 d2, .slice B3 0 d3, .slice B4 0 d4, .string ⟨#[122, 111, 110, 101]⟩, .int .i64 most, .string on, .bool false] := ⟨_, rfl⟩
  have hset := setCells_all (cs := L) HQ.out (by rw [hL]; rfl)
  have hbel := Below.setCells HB.out (Nat.le_refl _) L 0
  have hsz := setCells_size w.heap.size L 0 w1
  have hnx := nx_setCells (w := w1) (lo := w.heap.size + 1) (lo' := w.heap.size) L 0 (Nat.lt_succ_self w.heap.size) (by omega)
  have hgoal : (((((((((((w1.setCell ⟨w.heap.size, 0, none⟩ (.string name)).setCell ⟨w.heap.size, 1, none⟩ (.string ⟨#[119, 101, 98]⟩)).setCell ⟨w.heap.size, 2, none⟩ (.int .i64 0)).setCell ⟨w.heap.size, 3, none⟩ (.slice B1 1 d1)).setCell ⟨w.heap.size, 4, none⟩ (.slice B2 0 d2)).setCell ⟨w.heap.size, 5, none⟩ (.slice B3 0 d3)).setCell ⟨w.heap.size, 6, none⟩ (.slice B4 0 d4)).setCell ⟨w.heap.size, 7, none⟩ (.string ⟨#[122, 111, 110, 101]⟩)).setCell ⟨w.heap.size, 8, none⟩ (.int .i64 most)).setCell ⟨w.heap.size, 9, none⟩ (.string on)).setCell ⟨w.heap.size, 10, none⟩ (.bool false)) = w1.setCells w.heap.size 0 L := by rw [hL]; rfl
  rw [hgoal]
  clear hgoal
  generalize w1.setCells w.heap.size 0 L = W at hset hbel hsz hnx ⊢
  have hl2 : w.heap.size < W.heap.size := by omega
  have q0 := (blk_old W (.cells #[.string name, .string ⟨#[119, 101, 98]⟩, .int .i64 0, .slice B1 1 d1, .slice B2 0 d2, .slice B3 0 d3, .slice B4 0 d4, .string ⟨#[122, 111, 110, 101]⟩, .int .i64 most, .string on, .bool false] 35) hl2).trans hset
  have hbl := alloc_below W (.cells #[.string name, .string ⟨#[119, 101, 98]⟩, .int .i64 0, .slice B1 1 d1, .slice B2 0 d2, .slice B3 0 d3, .slice B4 0 d4, .string ⟨#[122, 111, 110, 101]⟩, .int .i64 most, .string on, .bool false] 35)
  subst hL
  exact ret_row1 (cs := [.string name, .string ⟨#[119, 101, 98]⟩, .int .i64 0, .slice B1 1 d1, .slice B2 0 d2, .slice B3 0 d3, .slice B4 0 d4, .string ⟨#[122, 111, 110, 101]⟩, .int .i64 most, .string on, .bool false]) rfl rfl q0 Try.underlying35 rfl (by kernel_rfl) rfl
    ⟨_, rfl, ⟨_, _, _, _, _, _, _, _, rfl, ⟨⟨HS.out, web_ok, i64_0⟩, zone_ok, HM.out, HO.out⟩, (S1.out.mono hnx).mono (nx_below hbl), (S2.out.mono hnx).mono (nx_below hbl), (S3.out.mono hnx).mono (nx_below hbl), (S4.out.mono hnx).mono (nx_below hbl)⟩, Below.then hbel hbl⟩
def BoolDone (b : Bool) (w : World) (e : Ending) (w' : World) : Prop := e = .returned (.bool b) ∧ Below w.heap.size w w'
theorem names_eq_at {a b : List ByteArray} {k : Nat} (hl : a.length = b.length) (h : k < a.length) : decide (a.drop k = b.drop k) = (decide (a[k] = b[k]) && decide (a.drop (k + 1) = b.drop (k + 1))) := by
  rw [List.drop_eq_getElem_cons h, List.drop_eq_getElem_cons (show k < b.length by omega), Bool.eq_iff_iff]
  simp only [Bool.and_eq_true, decide_eq_true_eq, List.cons.injEq]
set_option maxHeartbeats 2000000 in
theorem Names_calls (va vb : Value) (a b : List ByteArray) (w : World) (ha : Kd.str.S (vw w []) va a) (hb : Kd.str.S (vw w []) vb b) :
    Calls Try.prog 15 #[va, vb] w (BoolDone (decide (a = b)) w) := by
  obtain ⟨A, cap, rfl, ha⟩ := ha.val
  obtain ⟨-, fa1, fa2⟩ := ha.form
  obtain ⟨B, cap2, rfl, hb⟩ := hb.val
  obtain ⟨-, fb1, fb2⟩ := hb.form
  have HA := Lib.hid ha
  have HD := Lib.hid hb
  clear ha hb
  go_enter Try.func15, Try.ntmps15
  by_cases hl : ¬ a.length = b.length
  · have HX : Hid (decide (a = b) = false) := decide_eq_false fun h => hl (by rw [h])
    have t1 : (a.length == b.length) = false := by simpa using hl
    go_wp2
    go_ret
    exact ⟨ret_bool HX.out.symm, Below.refl _ _⟩
  have HL := Lib.hid (Decidable.not_not.1 hl)
  have t1 : (a.length == b.length) = true := by simpa using HL.out
  clear hl
  go_wp2
  clear t1
  go_loopw [5] (fun i wr => ∃ k : Nat, k ≤ a.length ∧ i = .int .i64 k ∧ Hid (decide (a.drop k = b.drop k) = decide (a = b)) ∧ Hid (Below w.heap.size w wr)) (fun i _ => a.length - (intOf i).toNat)
  case atStart => exact ⟨0, Nat.zero_le _, rfl, rfl, Below.refl _ _⟩
  case round =>
    obtain ⟨k, hk, rfl, HR, HB⟩ := hrel
    by_cases hlt : k < a.length
    · have hlb : k < b.length := by have := HL.out; omega
      obtain ⟨oa, fa, rfl, hca, -⟩ := (HA.out.mono (vw_below HB.out)).elem1 k hlt
      obtain ⟨ob, fb, rfl, hcb, -⟩ := (HD.out.mono (vw_below HB.out)).elem1 k hlb
      have hr := HR.out
      rw [names_eq_at HL.out hlt] at hr
      have e1 := eq_beq a[k] b[k]
      obtain ⟨m, hm⟩ : ∃ m, decide (a[k] = b[k]) = m := ⟨_, rfl⟩
      rw [hm] at e1 hr
      have HX := Lib.hid hr
      clear hm hr
      have b1 : (0 : Int) ≤ (k : Int) := by omega
      have b2 : (k : Int) < (a.length : Int) := by omega
      have b3 : (k : Int) < (b.length : Int) := by omega
      cases m with
      | false =>
        have HY : Hid (false = decide (a = b)) := HX.out
        go_upto_region 6 with fail
        go_quiet (fail)
        go_wp2
        go_ret
        exact ⟨ret_bool HY.out, drewN_then HB.out _⟩
      | true =>
        have HY : Hid (decide (a.drop (k + 1) = b.drop (k + 1)) = decide (a = b)) := HX.out
        go_upto_region 6 with fail
        go_quiet (fail)
        go_wp2
        go_roundw
        case rel => exact ⟨k + 1, by omega, by go_num, HY.out, drewN_then HB.out _⟩
        case measure => simp [intOf]; omega
    · obtain rfl : k = a.length := by omega
      have hr := HR.out
      rw [List.drop_length, HL.out, List.drop_length] at hr
      have HY : Hid (true = decide (a = b)) := by show _ = _; rw [← hr]; simp
      clear hr
      go_wp2
      go_ret
      exact ⟨ret_bool HY.out, HB.out⟩
end Go.Proofs.Ytfbmfjmnpfidoaa
namespace Go.Proofs.Ytfbmfjmnpfidoaa
open Go.RowKit Go.Sort

/-- Elements side by side in a block. -/
theorem Kd.S.cells {α : Type} {d : Kd α} {h : View} {b : Nat} {T : TypeId} {css : List (List Value)} {xs : List α} (hb : h b = some (.cells css.flatten.toArray T (0, 0))) (hl : css.length = xs.length)
    (hk : ∀ (j : Nat) (x : α), xs[j]? = some x → ∃ cs, css[j]? = some cs ∧ d.K h x cs) (hx : xs.length ≤ 140737488351232) : d.S h (.slice (some ⟨b, 0, none⟩) xs.length xs.length) xs := by
  have hlen : ∀ c ∈ css, c.length = d.sz := fun c hc => by
    obtain ⟨j, hj, rfl⟩ := List.getElem_of_mem hc
    obtain ⟨cs, a, b⟩ := hk j xs[j] (List.getElem?_eq_getElem (by omega))
    rw [List.getElem?_eq_getElem hj] at a
    injection a with a
    rw [a]; exact d.len b
  refine ⟨_, _, rfl, Nat.le_refl _, hx, fun e => (by cases e), fun _ => ⟨b, 0, rfl, fun j x hj => ?_⟩⟩
  obtain ⟨cs, a, k⟩ := hk j x hj
  refine ⟨cs, k, fun i u hu => ?_⟩
  have hi : i < d.sz := by have := (List.getElem?_eq_some_iff.1 hu).1; rw [d.len k] at this; exact this
  have h4 := flatten_get css hlen j i cs a hi
  rw [hu] at h4
  simp [View.cell?, hb]
  simpa using h4
def k0 : St := ⟨[ndZ (tx [97]) (tx [120]), ndZ (tx [98]) (tx [121]), ndZ (tx [99]) (tx [120]), ndN (tx [100]) 9], [pdO (tx [112]) (tx [97]) 1, pdO (tx [113]) (tx [99]) 1, pdO (tx [114]) ⟨#[]⟩ 1], []⟩
theorem k0_b : skewV k0 (pdO (tx [114]) ⟨#[]⟩ 1) (tx [98]) = (0, true) := by decide +kernel
theorem k0_a : skewV k0 (pdO (tx [114]) ⟨#[]⟩ 1) (tx [97]) = (3, true) := by decide +kernel
theorem k0_d : skewV k0 (pdO (tx [114]) ⟨#[]⟩ 1) (tx [100]) = (0, false) := by decide +kernel
theorem k0_k : skewV k0 (pdP (tx [107]) 1 ⟨#[]⟩) (tx [100]) = (0, true) := by decide +kernel
theorem k0_doms : domsV k0.nodes (tx [122, 111, 110, 101]) = [[120], [121]] := by decide +kernel
theorem k0_c2 : countV k0 (pdO (tx [114]) ⟨#[]⟩ 1) (tx [120]) k0.pods = 2 := by decide +kernel
theorem k0_c1 : countV k0 (pdO (tx [112]) (tx [97]) 1) (tx [120]) k0.pods = 1 := by decide +kernel
theorem k0_bad : badL k0 k0.pods = [tx [112], tx [113]] := by decide +kernel
theorem sok_small {l : List UInt8} (h : l.length ≤ 50) : sok (tx l) := by
  show (tx l).size ≤ _
  have : (tx l).size = l.length := rfl
  omega
theorem doms_S {w : World} {base : Nat} {e : TypeId} {v : Value} {l : List (List UInt8)} (h : w.ownsRow base e 1 v l.length (l.map encStr)) (hl : l.length ≤ 140737488351232) (hp : ∀ x ∈ l, x.length ≤ 140737488351232) : Kd.str.S (vw w []) v (l.map ba) := by
  refine Kd.S.of_own (f := Value.string) (base := base) (e := e) (n := l.length) ?_ (by simpa using hl) (fun x hx => ?_) (by simp)
  · rw [List.map_map]; exact h
  · obtain ⟨y, hy, rfl⟩ := List.mem_map.1 hx
    exact hp y hy
theorem bad_S {w : World} {base : Nat} {e : TypeId} {v : Value} {l : List ByteArray} (h : w.ownsRow base e 1 v l.length (l.map Value.string)) (hl : l.length ≤ 140737488351232) (hp : ∀ x ∈ l, sok x) : Kd.str.S (vw w []) v l :=
  Kd.S.of_own (f := Value.string) h hl hp (by simp)
theorem strs_two {w : World} {b : Nat} {a c : ByteArray} {T : TypeId} (h : w.heap[b]? = some (.cells #[.string a, .string c] T (0, 0))) (ha : sok a := by (unfold sok; decide)) (hc : sok c := by (unfold sok; decide)) : Kd.str.S (vw w []) (.slice (some ⟨b, 0, none⟩) 2 2) [a, c] :=
  Kd.S.of_block (f := Value.string) (xs := [a, c]) h (by simp) (by simp) (fun x hx => by
    rcases List.mem_cons.1 hx with rfl | hx
    · exact ha
    · obtain rfl : x = c := by simpa using hx
      exact hc)
theorem two_ok : ∀ x ∈ [tx [112], tx [113]], sok x := fun x hx => by
  rcases List.mem_cons.1 hx with rfl | hx
  · exact sok_small (by decide)
  · obtain rfl : x = tx [113] := by simpa using hx
    exact sok_small (by decide)
theorem Names_same (va vb : Value) (a : List ByteArray) (w : World) (ha : Kd.str.S (vw w []) va a) (hb : Kd.str.S (vw w []) vb a) : Calls Try.prog 15 #[va, vb] w (BoolDone true w) :=
  (Names_calls va vb a a w ha hb).mono fun _ _ h => ⟨h.1.trans (by simp), h.2⟩
structure KAt (ss ps : Nat) (sc pc c1 c3 : Array Value) (W : World) : Prop where
  qs : W.heap[ss]? = some (.cells sc 26 (0, 0))
  qp : W.heap[ps]? = some (.cells pc 35 (0, 0))
  hv : Kd.state.V (vw W []) (.agg sc) k0
  h1 : Kd.pod.V (vw W []) (.agg c1) (pdO (tx [112]) (tx [97]) 1)
  h3 : Kd.pod.V (vw W []) (.agg c3) (pdO (tx [114]) ⟨#[]⟩ 1)
theorem KAt.below {ss ps : Nat} {sc pc c1 c3 : Array Value} {W W' : World} (h : KAt ss ps sc pc c1 c3 W) (hb : Below W.heap.size W W') : KAt ss ps sc pc c1 c3 W' :=
  ⟨(hb.block _ (blk_lt h.qs)).trans h.qs, (hb.block _ (blk_lt h.qp)).trans h.qp, h.hv.mono (vw_below hb), h.h1.mono (vw_below hb), h.h3.mono (vw_below hb)⟩
theorem kat_alloc {ss ps : Nat} {sc pc c1 c3 : Array Value} {W : World} (h : KAt ss ps sc pc c1 c3 W) (o : Obj) : (∀ j, (W.alloc o).cell? ⟨ss, j, none⟩ = sc[j]?) ∧ ∀ j, (W.alloc o).cell? ⟨ps, j, none⟩ = pc[j]? :=
  ⟨(blk_all ((blk_old _ _ (blk_lt h.qs)).trans h.qs)).1, (blk_all ((blk_old _ _ (blk_lt h.qp)).trans h.qp)).1⟩
theorem kat_alloc_drew {ss ps : Nat} {sc pc c1 c3 : Array Value} {W : World} (h : KAt ss ps sc pc c1 c3 W) (o : Obj) : (∀ j, (W.alloc o).drew.cell? ⟨ss, j, none⟩ = sc[j]?) ∧ ∀ j, (W.alloc o).drew.cell? ⟨ps, j, none⟩ = pc[j]? := kat_alloc h o
set_option maxHeartbeats 8000000 in
set_option maxRecDepth 100000 in
theorem known_calls (w : World) : Calls Try.prog 7 #[] w (BoolDone true w) := by
  go_enter Try.func7, Try.ntmps7
  go_wp2_with fail
  refine (Zoned_calls (tx [97]) (tx [120]) _ (sok_small (by decide)) (sok_small (by decide))).mono ?_
  rintro e w1 ⟨cs, rfl, hk, hb⟩
  have HB1 := Lib.hid (hb)
  have HK1 := Lib.hid (Kd.node.mono (nx_vw (M := []) (by simp)) hk)
  obtain ⟨A1, a1, A2, a2, A3, a3, rfl, -⟩ := hk
  change Hid (Kd.node.K _ _ [.string (tx [97]), .slice A1 1 a1, .slice A2 1 a2, .slice A3 0 a3, .bool false]) at HK1
  clear hb
  go_wp2_with fail
  refine (Zoned_calls (tx [98]) (tx [121]) _ (sok_small (by decide)) (sok_small (by decide))).mono ?_
  rintro e w2 ⟨cs, rfl, hk, hb⟩
  have HB2 := Lib.hid (Below.then HB1.out hb)
  have HK2 := Lib.hid (Kd.node.mono (nx_vw (M := []) (by simp)) hk)
  replace HK1 := Lib.hid (Kd.node.mono (vw_below hb) HK1.out)
  obtain ⟨B1, b1, B2, b2, B3, b3, rfl, -⟩ := hk
  change Hid (Kd.node.K _ _ [.string (tx [98]), .slice B1 1 b1, .slice B2 1 b2, .slice B3 0 b3, .bool false]) at HK2
  clear hb HB1
  go_wp2_with fail
  refine (Zoned_calls (tx [99]) (tx [120]) _ (sok_small (by decide)) (sok_small (by decide))).mono ?_
  rintro e w3 ⟨cs, rfl, hk, hb⟩
  have HB3 := Lib.hid (Below.then HB2.out hb)
  have HK3 := Lib.hid (Kd.node.mono (nx_vw (M := []) (by simp)) hk)
  replace HK1 := Lib.hid (Kd.node.mono (vw_below hb) HK1.out)
  replace HK2 := Lib.hid (Kd.node.mono (vw_below hb) HK2.out)
  obtain ⟨C1, c1, C2, c2, C3, c3, rfl, -⟩ := hk
  change Hid (Kd.node.K _ _ [.string (tx [99]), .slice C1 1 c1, .slice C2 1 c2, .slice C3 0 c3, .bool false]) at HK3
  clear hb HB2
  go_wp2_with fail
  refine (N_calls (tx [100]) 9 _ (sok_small (by decide)) ⟨by decide, by decide⟩).mono ?_
  rintro e w4 ⟨cs, rfl, hk, hb⟩
  have HB4 := Lib.hid (Below.then HB3.out hb)
  have HK4 := Lib.hid (Kd.node.mono (nx_vw (M := []) (by simp)) hk)
  replace HK1 := Lib.hid (Kd.node.mono (vw_below hb) HK1.out)
  replace HK2 := Lib.hid (Kd.node.mono (vw_below hb) HK2.out)
  replace HK3 := Lib.hid (Kd.node.mono (vw_below hb) HK3.out)
  obtain ⟨D1, d1, D2, d2, D3, d3, rfl, -⟩ := hk
  change Hid (Kd.node.K _ _ [.string (tx [100]), .slice D1 1 d1, .slice D2 0 d2, .slice D3 0 d3, .bool false]) at HK4
  clear hb HB3
  go_wp2_with fail
  refine (Owned_calls (tx [112]) (tx [97]) 1 _ (sok_small (by decide)) (sok_small (by decide)) ⟨by decide, by decide⟩).mono ?_
  rintro e w5 ⟨cs, rfl, hk, hb⟩
  have HB5 := Lib.hid (Below.then (alloc_then HB4.out _) hb)
  have hq := (hb.block w4.heap.size (by simp)).trans (blk_last w4 _)
  have HN := Lib.hid hq
  clear hq
  have HK5 := Lib.hid (Kd.pod.mono (nx_vw (M := []) (by simp)) hk)
  replace HK1 := Lib.hid (Kd.node.mono (vw_below (Below.then (alloc_below _ _) hb)) HK1.out)
  replace HK2 := Lib.hid (Kd.node.mono (vw_below (Below.then (alloc_below _ _) hb)) HK2.out)
  replace HK3 := Lib.hid (Kd.node.mono (vw_below (Below.then (alloc_below _ _) hb)) HK3.out)
  replace HK4 := Lib.hid (Kd.node.mono (vw_below (Below.then (alloc_below _ _) hb)) HK4.out)
  obtain ⟨E1, e1, E2, e2, E3, e3, E4, e4, rfl, -⟩ := hk
  change Hid (Kd.pod.K _ _ [.string (tx [112]), .string (tx [119, 101, 98]), .int .i64 0, .slice E1 1 e1, .slice E2 0 e2, .slice E3 0 e3, .slice E4 0 e4, .string (tx [122, 111, 110, 101]), .int .i64 1, .string (tx [97]), .bool false]) at HK5
  clear hb HB4
  go_wp2_with fail
  refine (Owned_calls (tx [113]) (tx [99]) 1 _ (sok_small (by decide)) (sok_small (by decide)) ⟨by decide, by decide⟩).mono ?_
  rintro e w6 ⟨cs, rfl, hk, hb⟩
  have HB6 := Lib.hid (Below.then HB5.out hb)
  replace HN := Lib.hid ((hb.block _ (blk_lt HN.out)).trans HN.out)
  have HK6 := Lib.hid (Kd.pod.mono (nx_vw (M := []) (by simp)) hk)
  replace HK1 := Lib.hid (Kd.node.mono (vw_below hb) HK1.out)
  replace HK2 := Lib.hid (Kd.node.mono (vw_below hb) HK2.out)
  replace HK3 := Lib.hid (Kd.node.mono (vw_below hb) HK3.out)
  replace HK4 := Lib.hid (Kd.node.mono (vw_below hb) HK4.out)
  replace HK5 := Lib.hid (Kd.pod.mono (vw_below hb) HK5.out)
  obtain ⟨F1, f1, F2, f2, F3, f3, F4, f4, rfl, -⟩ := hk
  change Hid (Kd.pod.K _ _ [.string (tx [113]), .string (tx [119, 101, 98]), .int .i64 0, .slice F1 1 f1, .slice F2 0 f2, .slice F3 0 f3, .slice F4 0 f4, .string (tx [122, 111, 110, 101]), .int .i64 1, .string (tx [99]), .bool false]) at HK6
  clear hb HB5
  go_wp2_with fail
  refine (Owned_calls (tx [114]) ⟨#[]⟩ 1 _ (sok_small (by decide)) sok_none ⟨by decide, by decide⟩).mono ?_
  rintro e w7 ⟨cs, rfl, hk, hb⟩
  have HB7 := Lib.hid (Below.then HB6.out hb)
  replace HN := Lib.hid ((hb.block _ (blk_lt HN.out)).trans HN.out)
  have HK7 := Lib.hid (Kd.pod.mono (nx_vw (M := []) (by simp)) hk)
  replace HK1 := Lib.hid (Kd.node.mono (vw_below hb) HK1.out)
  replace HK2 := Lib.hid (Kd.node.mono (vw_below hb) HK2.out)
  replace HK3 := Lib.hid (Kd.node.mono (vw_below hb) HK3.out)
  replace HK4 := Lib.hid (Kd.node.mono (vw_below hb) HK4.out)
  replace HK5 := Lib.hid (Kd.pod.mono (vw_below hb) HK5.out)
  replace HK6 := Lib.hid (Kd.pod.mono (vw_below hb) HK6.out)
  obtain ⟨G1, g1, G2, g2, G3, g3, G4, g4, rfl, -⟩ := hk
  change Hid (Kd.pod.K _ _ [.string (tx [114]), .string (tx [119, 101, 98]), .int .i64 0, .slice G1 1 g1, .slice G2 0 g2, .slice G3 0 g3, .slice G4 0 g4, .string (tx [122, 111, 110, 101]), .int .i64 1, .string ⟨#[]⟩, .bool false]) at HK7
  clear hb HB6
  go_upto_region 2 with fail
  obtain ⟨U, hU⟩ : ∃ U : World, U = ((w7.alloc (.cells #[.string (tx [112]), .string (tx [119, 101, 98]), .int .i64 0, .slice E1 1 e1, .slice E2 0 e2, .slice E3 0 e3, .slice E4 0 e4, .string (tx [122, 111, 110, 101]), .int .i64 1, .string (tx [97]), .bool false, .string (tx [113]), .string (tx [119, 101, 98]), .int .i64 0, .slice F1 1 f1, .slice F2 0 f2, .slice F3 0 f3, .slice F4 0 f4, .string (tx [122, 111, 110, 101]), .int .i64 1, .string (tx [99]), .bool false, .string (tx [114]), .string (tx [119, 101, 98]), .int .i64 0, .slice G1 1 g1, .slice G2 0 g2, .slice G3 0 g3, .slice G4 0 g4, .string (tx [122, 111, 110, 101]), .int .i64 1, .string ⟨#[]⟩, .bool false] 35)).alloc (.cells #[.slice (some ⟨w4.heap.size, 0, none⟩) 4 4, .slice (some ⟨w7.heap.size, 0, none⟩) 3 3, .slice none 0 0] 26)) := ⟨_, rfl⟩
  change Code.wp _ _ _ _ ((w7.alloc (.cells #[.string (tx [112]), .string (tx [119, 101, 98]), .int .i64 0, .slice E1 1 e1, .slice E2 0 e2, .slice E3 0 e3, .slice E4 0 e4, .string (tx [122, 111, 110, 101]), .int .i64 1, .string (tx [97]), .bool false, .string (tx [113]), .string (tx [119, 101, 98]), .int .i64 0, .slice F1 1 f1, .slice F2 0 f2, .slice F3 0 f3, .slice F4 0 f4, .string (tx [122, 111, 110, 101]), .int .i64 1, .string (tx [99]), .bool false, .string (tx [114]), .string (tx [119, 101, 98]), .int .i64 0, .slice G1 1 g1, .slice G2 0 g2, .slice G3 0 g3, .slice G4 0 g4, .string (tx [122, 111, 110, 101]), .int .i64 1, .string ⟨#[]⟩, .bool false] 35)).alloc (.cells #[.slice (some ⟨w4.heap.size, 0, none⟩) 4 4, .slice (some ⟨w7.heap.size, 0, none⟩) 3 3, .slice none 0 0] 26))
  rw [← hU]
  have hbU : Below w7.heap.size w7 U := by rw [hU]; exact Below.then (alloc_below _ _) (alloc_below _ _)
  have qs : U.heap[w7.heap.size + 1]? = some (.cells #[.slice (some ⟨w4.heap.size, 0, none⟩) 4 4, .slice (some ⟨w7.heap.size, 0, none⟩) 3 3, .slice none 0 0] 26 (0, 0)) := by
    rw [hU]
    have := blk_last (w7.alloc (.cells #[.string (tx [112]), .string (tx [119, 101, 98]), .int .i64 0, .slice E1 1 e1, .slice E2 0 e2, .slice E3 0 e3, .slice E4 0 e4, .string (tx [122, 111, 110, 101]), .int .i64 1, .string (tx [97]), .bool false, .string (tx [113]), .string (tx [119, 101, 98]), .int .i64 0, .slice F1 1 f1, .slice F2 0 f2, .slice F3 0 f3, .slice F4 0 f4, .string (tx [122, 111, 110, 101]), .int .i64 1, .string (tx [99]), .bool false, .string (tx [114]), .string (tx [119, 101, 98]), .int .i64 0, .slice G1 1 g1, .slice G2 0 g2, .slice G3 0 g3, .slice G4 0 g4, .string (tx [122, 111, 110, 101]), .int .i64 1, .string ⟨#[]⟩, .bool false] 35)) (.cells #[.slice (some ⟨w4.heap.size, 0, none⟩) 4 4, .slice (some ⟨w7.heap.size, 0, none⟩) 3 3, .slice none 0 0] 26)
    simpa using this
  have qp : U.heap[w7.heap.size]? = some (.cells #[.string (tx [112]), .string (tx [119, 101, 98]), .int .i64 0, .slice E1 1 e1, .slice E2 0 e2, .slice E3 0 e3, .slice E4 0 e4, .string (tx [122, 111, 110, 101]), .int .i64 1, .string (tx [97]), .bool false, .string (tx [113]), .string (tx [119, 101, 98]), .int .i64 0, .slice F1 1 f1, .slice F2 0 f2, .slice F3 0 f3, .slice F4 0 f4, .string (tx [122, 111, 110, 101]), .int .i64 1, .string (tx [99]), .bool false, .string (tx [114]), .string (tx [119, 101, 98]), .int .i64 0, .slice G1 1 g1, .slice G2 0 g2, .slice G3 0 g3, .slice G4 0 g4, .string (tx [122, 111, 110, 101]), .int .i64 1, .string ⟨#[]⟩, .bool false] 35 (0, 0)) := by
    rw [hU]; exact (blk_old _ _ (by simp)).trans (blk_last _ _)
  have qn := (hbU.block _ (blk_lt HN.out)).trans HN.out
  have hv : Kd.state.V (vw U []) (.agg #[.slice (some ⟨w4.heap.size, 0, none⟩) 4 4, .slice (some ⟨w7.heap.size, 0, none⟩) 3 3, .slice none 0 0]) k0 := by
    refine ⟨_, rfl, _, _, _, _, _, _, rfl, ?_, ?_, Kd.S.nil _ _⟩
    · refine Kd.S.cells (d := Kd.node) (css := [[.string (tx [97]), .slice A1 1 a1, .slice A2 1 a2, .slice A3 0 a3, .bool false], [.string (tx [98]), .slice B1 1 b1, .slice B2 1 b2, .slice B3 0 b3, .bool false], [.string (tx [99]), .slice C1 1 c1, .slice C2 1 c2, .slice C3 0 c3, .bool false], [.string (tx [100]), .slice D1 1 d1, .slice D2 0 d2, .slice D3 0 d3, .bool false]]) (vw_mk (by simp) qn) rfl (fun j x hj => ?_) (by decide)
      rcases j with _ | _ | _ | _ | j
      · cases hj; exact ⟨_, rfl, Kd.node.mono (vw_below hbU) HK1.out⟩
      · cases hj; exact ⟨_, rfl, Kd.node.mono (vw_below hbU) HK2.out⟩
      · cases hj; exact ⟨_, rfl, Kd.node.mono (vw_below hbU) HK3.out⟩
      · cases hj; exact ⟨_, rfl, Kd.node.mono (vw_below hbU) HK4.out⟩
      · simp [k0] at hj
    · refine Kd.S.cells (d := Kd.pod) (css := [[.string (tx [112]), .string (tx [119, 101, 98]), .int .i64 0, .slice E1 1 e1, .slice E2 0 e2, .slice E3 0 e3, .slice E4 0 e4, .string (tx [122, 111, 110, 101]), .int .i64 1, .string (tx [97]), .bool false], [.string (tx [113]), .string (tx [119, 101, 98]), .int .i64 0, .slice F1 1 f1, .slice F2 0 f2, .slice F3 0 f3, .slice F4 0 f4, .string (tx [122, 111, 110, 101]), .int .i64 1, .string (tx [99]), .bool false], [.string (tx [114]), .string (tx [119, 101, 98]), .int .i64 0, .slice G1 1 g1, .slice G2 0 g2, .slice G3 0 g3, .slice G4 0 g4, .string (tx [122, 111, 110, 101]), .int .i64 1, .string ⟨#[]⟩, .bool false]]) (vw_mk (by simp) qp) rfl (fun j x hj => ?_) (by decide)
      rcases j with _ | _ | _ | j
      · cases hj; exact ⟨_, rfl, Kd.pod.mono (vw_below hbU) HK5.out⟩
      · cases hj; exact ⟨_, rfl, Kd.pod.mono (vw_below hbU) HK6.out⟩
      · cases hj; exact ⟨_, rfl, Kd.pod.mono (vw_below hbU) HK7.out⟩
      · simp [k0] at hj
  have HK : Hid (KAt (w7.heap.size + 1) w7.heap.size #[.slice (some ⟨w4.heap.size, 0, none⟩) 4 4, .slice (some ⟨w7.heap.size, 0, none⟩) 3 3, .slice none 0 0] #[.string (tx [112]), .string (tx [119, 101, 98]), .int .i64 0, .slice E1 1 e1, .slice E2 0 e2, .slice E3 0 e3, .slice E4 0 e4, .string (tx [122, 111, 110, 101]), .int .i64 1, .string (tx [97]), .bool false, .string (tx [113]), .string (tx [119, 101, 98]), .int .i64 0, .slice F1 1 f1, .slice F2 0 f2, .slice F3 0 f3, .slice F4 0 f4, .string (tx [122, 111, 110, 101]), .int .i64 1, .string (tx [99]), .bool false, .string (tx [114]), .string (tx [119, 101, 98]), .int .i64 0, .slice G1 1 g1, .slice G2 0 g2, .slice G3 0 g3, .slice G4 0 g4, .string (tx [122, 111, 110, 101]), .int .i64 1, .string ⟨#[]⟩, .bool false] #[.string (tx [112]), .string (tx [119, 101, 98]), .int .i64 0, .slice E1 1 e1, .slice E2 0 e2, .slice E3 0 e3, .slice E4 0 e4, .string (tx [122, 111, 110, 101]), .int .i64 1, .string (tx [97]), .bool false] #[.string (tx [114]), .string (tx [119, 101, 98]), .int .i64 0, .slice G1 1 g1, .slice G2 0 g2, .slice G3 0 g3, .slice G4 0 g4, .string (tx [122, 111, 110, 101]), .int .i64 1, .string ⟨#[]⟩, .bool false] U) := ⟨qs, qp, hv, ⟨_, rfl, Kd.pod.mono (vw_below hbU) HK5.out⟩, ⟨_, rfl, Kd.pod.mono (vw_below hbU) HK7.out⟩⟩
  have HB := Lib.hid (Below.then HB7.out hbU)
  clear hU hbU qs qp qn hv HB7 HN HK1 HK2 HK3 HK4 HK5 HK6 HK7
  obtain ⟨z, zf⟩ := blk_all HK.out.qs
  obtain ⟨y, yf⟩ := blk_all HK.out.qp
  go_region_held3 (fun w' => (∀ j, w'.cell? ⟨w7.heap.size + 1, j, none⟩ = #[.slice (some ⟨w4.heap.size, 0, none⟩) 4 4, .slice (some ⟨w7.heap.size, 0, none⟩) 3 3, .slice none 0 0][j]?) ∧ ∀ j, w'.cell? ⟨w7.heap.size, j, none⟩ = #[.string (tx [112]), .string (tx [119, 101, 98]), .int .i64 0, .slice E1 1 e1, .slice E2 0 e2, .slice E3 0 e3, .slice E4 0 e4, .string (tx [122, 111, 110, 101]), .int .i64 1, .string (tx [97]), .bool false, .string (tx [113]), .string (tx [119, 101, 98]), .int .i64 0, .slice F1 1 f1, .slice F2 0 f2, .slice F3 0 f3, .slice F4 0 f4, .string (tx [122, 111, 110, 101]), .int .i64 1, .string (tx [99]), .bool false, .string (tx [114]), .string (tx [119, 101, 98]), .int .i64 0, .slice G1 1 g1, .slice G2 0 g2, .slice G3 0 g3, .slice G4 0 g4, .string (tx [122, 111, 110, 101]), .int .i64 1, .string ⟨#[]⟩, .bool false][j]?) (first | with_reducible exact ⟨z, y⟩ | with_reducible exact kat_alloc HK.out _ | with_reducible exact kat_alloc_drew HK.out _ | go_keep) (first
    | (go_at_call 13; (with_reducible refine (Skew_calls _ _ k0 (pdO (tx [114]) ⟨#[]⟩ 1) ⟨#[98]⟩ _ (by with_reducible exact Kd.V.mono (vw_below (drew_below _)) HK.out.hv) (by with_reducible exact Kd.V.mono (vw_below (drew_below _)) HK.out.h3) (by decide) (by decide)).mono ?_); rintro e v1 ⟨rfl, hb⟩; replace HB := Lib.hid (Below.then HB.out (Below.then (drew_below _) hb)); replace HK := Lib.hid (KAt.below HK.out (Below.then (drew_below _) hb)); clear z zf y yf; obtain ⟨z, zf⟩ := blk_all HK.out.qs; obtain ⟨y, yf⟩ := blk_all HK.out.qp; clear hb))
  simp only [show skewV k0 (pdO (tx [114]) ⟨#[]⟩ 1) ⟨#[98]⟩ = (0, true) from k0_b]
  go_upto_region 3 with fail
  go_region_held3 (fun w' => (∀ j, w'.cell? ⟨w7.heap.size + 1, j, none⟩ = #[.slice (some ⟨w4.heap.size, 0, none⟩) 4 4, .slice (some ⟨w7.heap.size, 0, none⟩) 3 3, .slice none 0 0][j]?) ∧ ∀ j, w'.cell? ⟨w7.heap.size, j, none⟩ = #[.string (tx [112]), .string (tx [119, 101, 98]), .int .i64 0, .slice E1 1 e1, .slice E2 0 e2, .slice E3 0 e3, .slice E4 0 e4, .string (tx [122, 111, 110, 101]), .int .i64 1, .string (tx [97]), .bool false, .string (tx [113]), .string (tx [119, 101, 98]), .int .i64 0, .slice F1 1 f1, .slice F2 0 f2, .slice F3 0 f3, .slice F4 0 f4, .string (tx [122, 111, 110, 101]), .int .i64 1, .string (tx [99]), .bool false, .string (tx [114]), .string (tx [119, 101, 98]), .int .i64 0, .slice G1 1 g1, .slice G2 0 g2, .slice G3 0 g3, .slice G4 0 g4, .string (tx [122, 111, 110, 101]), .int .i64 1, .string ⟨#[]⟩, .bool false][j]?) (first | with_reducible exact ⟨z, y⟩ | with_reducible exact kat_alloc HK.out _ | with_reducible exact kat_alloc_drew HK.out _ | go_keep) (first
    | (go_at_call 13; (with_reducible refine (Skew_calls _ _ k0 (pdO (tx [114]) ⟨#[]⟩ 1) ⟨#[97]⟩ _ (by with_reducible exact Kd.V.mono (vw_below (drew_below _)) HK.out.hv) (by with_reducible exact Kd.V.mono (vw_below (drew_below _)) HK.out.h3) (by decide) (by decide)).mono ?_); rintro e v2 ⟨rfl, hb⟩; replace HB := Lib.hid (Below.then HB.out (Below.then (drew_below _) hb)); replace HK := Lib.hid (KAt.below HK.out (Below.then (drew_below _) hb)); clear z zf y yf; obtain ⟨z, zf⟩ := blk_all HK.out.qs; obtain ⟨y, yf⟩ := blk_all HK.out.qp; clear hb))
  simp only [show skewV k0 (pdO (tx [114]) ⟨#[]⟩ 1) ⟨#[97]⟩ = (3, true) from k0_a]
  go_upto_region 4 with fail
  go_region_held3 (fun w' => (∀ j, w'.cell? ⟨w7.heap.size + 1, j, none⟩ = #[.slice (some ⟨w4.heap.size, 0, none⟩) 4 4, .slice (some ⟨w7.heap.size, 0, none⟩) 3 3, .slice none 0 0][j]?) ∧ ∀ j, w'.cell? ⟨w7.heap.size, j, none⟩ = #[.string (tx [112]), .string (tx [119, 101, 98]), .int .i64 0, .slice E1 1 e1, .slice E2 0 e2, .slice E3 0 e3, .slice E4 0 e4, .string (tx [122, 111, 110, 101]), .int .i64 1, .string (tx [97]), .bool false, .string (tx [113]), .string (tx [119, 101, 98]), .int .i64 0, .slice F1 1 f1, .slice F2 0 f2, .slice F3 0 f3, .slice F4 0 f4, .string (tx [122, 111, 110, 101]), .int .i64 1, .string (tx [99]), .bool false, .string (tx [114]), .string (tx [119, 101, 98]), .int .i64 0, .slice G1 1 g1, .slice G2 0 g2, .slice G3 0 g3, .slice G4 0 g4, .string (tx [122, 111, 110, 101]), .int .i64 1, .string ⟨#[]⟩, .bool false][j]?) (first | with_reducible exact ⟨z, y⟩ | with_reducible exact kat_alloc HK.out _ | with_reducible exact kat_alloc_drew HK.out _ | go_keep) (first
    | (go_at_call 13; (with_reducible refine (Skew_calls _ _ k0 (pdO (tx [114]) ⟨#[]⟩ 1) ⟨#[100]⟩ _ (by with_reducible exact Kd.V.mono (vw_below (drew_below _)) HK.out.hv) (by with_reducible exact Kd.V.mono (vw_below (drew_below _)) HK.out.h3) (by decide) (by decide)).mono ?_); rintro e v3 ⟨rfl, hb⟩; replace HB := Lib.hid (Below.then HB.out (Below.then (drew_below _) hb)); replace HK := Lib.hid (KAt.below HK.out (Below.then (drew_below _) hb)); clear z zf y yf; obtain ⟨z, zf⟩ := blk_all HK.out.qs; obtain ⟨y, yf⟩ := blk_all HK.out.qp; clear hb))
  simp only [show skewV k0 (pdO (tx [114]) ⟨#[]⟩ 1) ⟨#[100]⟩ = (0, false) from k0_d]
  have hs107 : Hid (sok ⟨#[107]⟩) := sok_small (l := [107]) (by decide)
  have hi1 : Hid (i64 1) := ⟨by decide, by decide⟩
  go_upto_region 5 with fail
  go_region_held3 (fun w' => (∀ j, w'.cell? ⟨w7.heap.size + 1, j, none⟩ = #[.slice (some ⟨w4.heap.size, 0, none⟩) 4 4, .slice (some ⟨w7.heap.size, 0, none⟩) 3 3, .slice none 0 0][j]?) ∧ ∀ j, w'.cell? ⟨w7.heap.size, j, none⟩ = #[.string (tx [112]), .string (tx [119, 101, 98]), .int .i64 0, .slice E1 1 e1, .slice E2 0 e2, .slice E3 0 e3, .slice E4 0 e4, .string (tx [122, 111, 110, 101]), .int .i64 1, .string (tx [97]), .bool false, .string (tx [113]), .string (tx [119, 101, 98]), .int .i64 0, .slice F1 1 f1, .slice F2 0 f2, .slice F3 0 f3, .slice F4 0 f4, .string (tx [122, 111, 110, 101]), .int .i64 1, .string (tx [99]), .bool false, .string (tx [114]), .string (tx [119, 101, 98]), .int .i64 0, .slice G1 1 g1, .slice G2 0 g2, .slice G3 0 g3, .slice G4 0 g4, .string (tx [122, 111, 110, 101]), .int .i64 1, .string ⟨#[]⟩, .bool false][j]?) (first | with_reducible exact ⟨z, y⟩ | with_reducible exact kat_alloc HK.out _ | with_reducible exact kat_alloc_drew HK.out _ | go_keep) (first
    | (go_at_call 28; (with_reducible refine (P_calls ⟨#[107]⟩ 1 ⟨#[]⟩ _ hs107.out hi1.out sok_none).mono ?_); rintro e v4 ⟨cs, rfl, hk, hb⟩; have HPK : Hid (Kd.pod.V (vw v4 []) (.agg cs.toArray) (pdP ⟨#[107]⟩ 1 ⟨#[]⟩)) := ⟨cs, rfl, Kd.pod.mono (nx_vw (by simp)) hk⟩; clear hk; have hK1 : KAt (w7.heap.size + 1) w7.heap.size #[.slice (some ⟨w4.heap.size, 0, none⟩) 4 4, .slice (some ⟨w7.heap.size, 0, none⟩) 3 3, .slice none 0 0] #[.string (tx [112]), .string (tx [119, 101, 98]), .int .i64 0, .slice E1 1 e1, .slice E2 0 e2, .slice E3 0 e3, .slice E4 0 e4, .string (tx [122, 111, 110, 101]), .int .i64 1, .string (tx [97]), .bool false, .string (tx [113]), .string (tx [119, 101, 98]), .int .i64 0, .slice F1 1 f1, .slice F2 0 f2, .slice F3 0 f3, .slice F4 0 f4, .string (tx [122, 111, 110, 101]), .int .i64 1, .string (tx [99]), .bool false, .string (tx [114]), .string (tx [119, 101, 98]), .int .i64 0, .slice G1 1 g1, .slice G2 0 g2, .slice G3 0 g3, .slice G4 0 g4, .string (tx [122, 111, 110, 101]), .int .i64 1, .string ⟨#[]⟩, .bool false] #[.string (tx [112]), .string (tx [119, 101, 98]), .int .i64 0, .slice E1 1 e1, .slice E2 0 e2, .slice E3 0 e3, .slice E4 0 e4, .string (tx [122, 111, 110, 101]), .int .i64 1, .string (tx [97]), .bool false] #[.string (tx [114]), .string (tx [119, 101, 98]), .int .i64 0, .slice G1 1 g1, .slice G2 0 g2, .slice G3 0 g3, .slice G4 0 g4, .string (tx [122, 111, 110, 101]), .int .i64 1, .string ⟨#[]⟩, .bool false] v4 := (by with_reducible first | exact KAt.below HK.out hb | exact KAt.below HK.out (Below.then (drew_below _) hb) | exact KAt.below HK.out (Below.then (alloc_below _ _) hb) | exact KAt.below HK.out (Below.then (Below.then (alloc_below _ _) (drew_below _)) hb)); have hB1 : Below w.heap.size w v4 := (by with_reducible first | exact Below.then HB.out hb | exact Below.then HB.out (Below.then (drew_below _) hb) | exact Below.then HB.out (Below.then (alloc_below _ _) hb) | exact Below.then HB.out (Below.then (Below.then (alloc_below _ _) (drew_below _)) hb)); replace HB := Lib.hid hB1; replace HK := Lib.hid hK1; clear z zf y yf hK1 hB1;  obtain ⟨z, zf⟩ := blk_all HK.out.qs; obtain ⟨y, yf⟩ := blk_all HK.out.qp; clear hb)
    | (go_at_call 13; (with_reducible refine (Skew_calls _ _ k0 (pdP ⟨#[107]⟩ 1 ⟨#[]⟩) ⟨#[100]⟩ _ (by with_reducible first | exact HK.out.hv | exact Kd.V.mono (vw_below (drew_below _)) HK.out.hv | exact Kd.V.mono (vw_below (alloc_below _ _)) HK.out.hv | exact Kd.V.mono (vw_below (Below.then (alloc_below _ _) (drew_below _))) HK.out.hv) (by with_reducible exact HPK.out) (by decide) (by decide)).mono ?_); rintro e v5 ⟨rfl, hb⟩; clear HPK; have hK1 : KAt (w7.heap.size + 1) w7.heap.size #[.slice (some ⟨w4.heap.size, 0, none⟩) 4 4, .slice (some ⟨w7.heap.size, 0, none⟩) 3 3, .slice none 0 0] #[.string (tx [112]), .string (tx [119, 101, 98]), .int .i64 0, .slice E1 1 e1, .slice E2 0 e2, .slice E3 0 e3, .slice E4 0 e4, .string (tx [122, 111, 110, 101]), .int .i64 1, .string (tx [97]), .bool false, .string (tx [113]), .string (tx [119, 101, 98]), .int .i64 0, .slice F1 1 f1, .slice F2 0 f2, .slice F3 0 f3, .slice F4 0 f4, .string (tx [122, 111, 110, 101]), .int .i64 1, .string (tx [99]), .bool false, .string (tx [114]), .string (tx [119, 101, 98]), .int .i64 0, .slice G1 1 g1, .slice G2 0 g2, .slice G3 0 g3, .slice G4 0 g4, .string (tx [122, 111, 110, 101]), .int .i64 1, .string ⟨#[]⟩, .bool false] #[.string (tx [112]), .string (tx [119, 101, 98]), .int .i64 0, .slice E1 1 e1, .slice E2 0 e2, .slice E3 0 e3, .slice E4 0 e4, .string (tx [122, 111, 110, 101]), .int .i64 1, .string (tx [97]), .bool false] #[.string (tx [114]), .string (tx [119, 101, 98]), .int .i64 0, .slice G1 1 g1, .slice G2 0 g2, .slice G3 0 g3, .slice G4 0 g4, .string (tx [122, 111, 110, 101]), .int .i64 1, .string ⟨#[]⟩, .bool false] v5 := (by with_reducible first | exact KAt.below HK.out hb | exact KAt.below HK.out (Below.then (drew_below _) hb) | exact KAt.below HK.out (Below.then (alloc_below _ _) hb) | exact KAt.below HK.out (Below.then (Below.then (alloc_below _ _) (drew_below _)) hb)); have hB1 : Below w.heap.size w v5 := (by with_reducible first | exact Below.then HB.out hb | exact Below.then HB.out (Below.then (drew_below _) hb) | exact Below.then HB.out (Below.then (alloc_below _ _) hb) | exact Below.then HB.out (Below.then (Below.then (alloc_below _ _) (drew_below _)) hb)); replace HB := Lib.hid hB1; replace HK := Lib.hid hK1; clear z zf y yf hK1 hB1;  obtain ⟨z, zf⟩ := blk_all HK.out.qs; obtain ⟨y, yf⟩ := blk_all HK.out.qp; clear hb))
  simp only [show skewV k0 (pdP ⟨#[107]⟩ 1 ⟨#[]⟩) ⟨#[100]⟩ = (0, true) from k0_k]
  go_upto_region 6 with fail
  go_region_held3 (fun w' => (∀ j, w'.cell? ⟨w7.heap.size + 1, j, none⟩ = #[.slice (some ⟨w4.heap.size, 0, none⟩) 4 4, .slice (some ⟨w7.heap.size, 0, none⟩) 3 3, .slice none 0 0][j]?) ∧ ∀ j, w'.cell? ⟨w7.heap.size, j, none⟩ = #[.string (tx [112]), .string (tx [119, 101, 98]), .int .i64 0, .slice E1 1 e1, .slice E2 0 e2, .slice E3 0 e3, .slice E4 0 e4, .string (tx [122, 111, 110, 101]), .int .i64 1, .string (tx [97]), .bool false, .string (tx [113]), .string (tx [119, 101, 98]), .int .i64 0, .slice F1 1 f1, .slice F2 0 f2, .slice F3 0 f3, .slice F4 0 f4, .string (tx [122, 111, 110, 101]), .int .i64 1, .string (tx [99]), .bool false, .string (tx [114]), .string (tx [119, 101, 98]), .int .i64 0, .slice G1 1 g1, .slice G2 0 g2, .slice G3 0 g3, .slice G4 0 g4, .string (tx [122, 111, 110, 101]), .int .i64 1, .string ⟨#[]⟩, .bool false][j]?) (first | with_reducible exact ⟨z, y⟩ | with_reducible exact kat_alloc HK.out _ | with_reducible exact kat_alloc_drew HK.out _ | go_keep) (first
    | (go_at_call 16; (with_reducible refine (Domains_calls _ k0 ⟨#[122, 111, 110, 101]⟩ _ (by with_reducible first | exact HK.out.hv | exact Kd.V.mono (vw_below (drew_below _)) HK.out.hv | exact Kd.V.mono (vw_below (alloc_below _ _)) HK.out.hv | exact Kd.V.mono (vw_below (Below.then (alloc_below _ _) (drew_below _))) HK.out.hv) (by decide)).mono ?_); rintro e v6 ⟨sv, rfl, ho, hb⟩; (try have HX := Lib.hid (strs_two ((hb.block v5.heap.size (by simp)).trans (blk_last _ _)))); have HS := Lib.hid (doms_S ho (by decide +kernel) (by decide +kernel)); rw [show (domsV k0.nodes ⟨#[122, 111, 110, 101]⟩).map ba = [⟨#[120]⟩, ⟨#[121]⟩] by rw [show domsV k0.nodes ⟨#[122, 111, 110, 101]⟩ = [[120], [121]] from k0_doms]; rfl] at HS; clear ho; have hK1 : KAt (w7.heap.size + 1) w7.heap.size #[.slice (some ⟨w4.heap.size, 0, none⟩) 4 4, .slice (some ⟨w7.heap.size, 0, none⟩) 3 3, .slice none 0 0] #[.string (tx [112]), .string (tx [119, 101, 98]), .int .i64 0, .slice E1 1 e1, .slice E2 0 e2, .slice E3 0 e3, .slice E4 0 e4, .string (tx [122, 111, 110, 101]), .int .i64 1, .string (tx [97]), .bool false, .string (tx [113]), .string (tx [119, 101, 98]), .int .i64 0, .slice F1 1 f1, .slice F2 0 f2, .slice F3 0 f3, .slice F4 0 f4, .string (tx [122, 111, 110, 101]), .int .i64 1, .string (tx [99]), .bool false, .string (tx [114]), .string (tx [119, 101, 98]), .int .i64 0, .slice G1 1 g1, .slice G2 0 g2, .slice G3 0 g3, .slice G4 0 g4, .string (tx [122, 111, 110, 101]), .int .i64 1, .string ⟨#[]⟩, .bool false] #[.string (tx [112]), .string (tx [119, 101, 98]), .int .i64 0, .slice E1 1 e1, .slice E2 0 e2, .slice E3 0 e3, .slice E4 0 e4, .string (tx [122, 111, 110, 101]), .int .i64 1, .string (tx [97]), .bool false] #[.string (tx [114]), .string (tx [119, 101, 98]), .int .i64 0, .slice G1 1 g1, .slice G2 0 g2, .slice G3 0 g3, .slice G4 0 g4, .string (tx [122, 111, 110, 101]), .int .i64 1, .string ⟨#[]⟩, .bool false] v6 := (by with_reducible first | exact KAt.below HK.out hb | exact KAt.below HK.out (Below.then (drew_below _) hb) | exact KAt.below HK.out (Below.then (alloc_below _ _) hb) | exact KAt.below HK.out (Below.then (Below.then (alloc_below _ _) (drew_below _)) hb)); have hB1 : Below w.heap.size w v6 := (by with_reducible first | exact Below.then HB.out hb | exact Below.then HB.out (Below.then (drew_below _) hb) | exact Below.then HB.out (Below.then (alloc_below _ _) hb) | exact Below.then HB.out (Below.then (Below.then (alloc_below _ _) (drew_below _)) hb)); replace HB := Lib.hid hB1; replace HK := Lib.hid hK1; clear z zf y yf hK1 hB1;  obtain ⟨z, zf⟩ := blk_all HK.out.qs; obtain ⟨y, yf⟩ := blk_all HK.out.qp; clear hb)
    | (go_at_call 15; (with_reducible refine (Names_same _ _ _ _ (by with_reducible first | exact HS.out | exact Kd.S.mono (vw_below (alloc_below _ _)) HS.out) (by first | exact HX.out | exact strs_two (blk_last _ _))).mono ?_); rintro e v7 ⟨rfl, hb⟩; clear HS; (try clear HX); have hK1 : KAt (w7.heap.size + 1) w7.heap.size #[.slice (some ⟨w4.heap.size, 0, none⟩) 4 4, .slice (some ⟨w7.heap.size, 0, none⟩) 3 3, .slice none 0 0] #[.string (tx [112]), .string (tx [119, 101, 98]), .int .i64 0, .slice E1 1 e1, .slice E2 0 e2, .slice E3 0 e3, .slice E4 0 e4, .string (tx [122, 111, 110, 101]), .int .i64 1, .string (tx [97]), .bool false, .string (tx [113]), .string (tx [119, 101, 98]), .int .i64 0, .slice F1 1 f1, .slice F2 0 f2, .slice F3 0 f3, .slice F4 0 f4, .string (tx [122, 111, 110, 101]), .int .i64 1, .string (tx [99]), .bool false, .string (tx [114]), .string (tx [119, 101, 98]), .int .i64 0, .slice G1 1 g1, .slice G2 0 g2, .slice G3 0 g3, .slice G4 0 g4, .string (tx [122, 111, 110, 101]), .int .i64 1, .string ⟨#[]⟩, .bool false] #[.string (tx [112]), .string (tx [119, 101, 98]), .int .i64 0, .slice E1 1 e1, .slice E2 0 e2, .slice E3 0 e3, .slice E4 0 e4, .string (tx [122, 111, 110, 101]), .int .i64 1, .string (tx [97]), .bool false] #[.string (tx [114]), .string (tx [119, 101, 98]), .int .i64 0, .slice G1 1 g1, .slice G2 0 g2, .slice G3 0 g3, .slice G4 0 g4, .string (tx [122, 111, 110, 101]), .int .i64 1, .string ⟨#[]⟩, .bool false] v7 := (by with_reducible first | exact KAt.below HK.out hb | exact KAt.below HK.out (Below.then (drew_below _) hb) | exact KAt.below HK.out (Below.then (alloc_below _ _) hb) | exact KAt.below HK.out (Below.then (Below.then (alloc_below _ _) (drew_below _)) hb)); have hB1 : Below w.heap.size w v7 := (by with_reducible first | exact Below.then HB.out hb | exact Below.then HB.out (Below.then (drew_below _) hb) | exact Below.then HB.out (Below.then (alloc_below _ _) hb) | exact Below.then HB.out (Below.then (Below.then (alloc_below _ _) (drew_below _)) hb)); replace HB := Lib.hid hB1; replace HK := Lib.hid hK1; clear z zf y yf hK1 hB1;  obtain ⟨z, zf⟩ := blk_all HK.out.qs; obtain ⟨y, yf⟩ := blk_all HK.out.qp; clear hb)
    | (go_at_call 18; (with_reducible refine (Count_calls _ _ k0 (pdO (tx [114]) ⟨#[]⟩ 1) ⟨#[120]⟩ _ (by with_reducible first | exact HK.out.hv | exact Kd.V.mono (vw_below (drew_below _)) HK.out.hv | exact Kd.V.mono (vw_below (alloc_below _ _)) HK.out.hv | exact Kd.V.mono (vw_below (Below.then (alloc_below _ _) (drew_below _))) HK.out.hv) (by with_reducible first | exact HK.out.h3 | exact Kd.V.mono (vw_below (drew_below _)) HK.out.h3 | exact Kd.V.mono (vw_below (alloc_below _ _)) HK.out.h3 | exact Kd.V.mono (vw_below (Below.then (alloc_below _ _) (drew_below _))) HK.out.h3)).mono ?_); rintro e v8 ⟨rfl, hb⟩; rw [show countV k0 (pdO (tx [114]) ⟨#[]⟩ 1) ⟨#[120]⟩ k0.pods = 2 from k0_c2]; have hK1 : KAt (w7.heap.size + 1) w7.heap.size #[.slice (some ⟨w4.heap.size, 0, none⟩) 4 4, .slice (some ⟨w7.heap.size, 0, none⟩) 3 3, .slice none 0 0] #[.string (tx [112]), .string (tx [119, 101, 98]), .int .i64 0, .slice E1 1 e1, .slice E2 0 e2, .slice E3 0 e3, .slice E4 0 e4, .string (tx [122, 111, 110, 101]), .int .i64 1, .string (tx [97]), .bool false, .string (tx [113]), .string (tx [119, 101, 98]), .int .i64 0, .slice F1 1 f1, .slice F2 0 f2, .slice F3 0 f3, .slice F4 0 f4, .string (tx [122, 111, 110, 101]), .int .i64 1, .string (tx [99]), .bool false, .string (tx [114]), .string (tx [119, 101, 98]), .int .i64 0, .slice G1 1 g1, .slice G2 0 g2, .slice G3 0 g3, .slice G4 0 g4, .string (tx [122, 111, 110, 101]), .int .i64 1, .string ⟨#[]⟩, .bool false] #[.string (tx [112]), .string (tx [119, 101, 98]), .int .i64 0, .slice E1 1 e1, .slice E2 0 e2, .slice E3 0 e3, .slice E4 0 e4, .string (tx [122, 111, 110, 101]), .int .i64 1, .string (tx [97]), .bool false] #[.string (tx [114]), .string (tx [119, 101, 98]), .int .i64 0, .slice G1 1 g1, .slice G2 0 g2, .slice G3 0 g3, .slice G4 0 g4, .string (tx [122, 111, 110, 101]), .int .i64 1, .string ⟨#[]⟩, .bool false] v8 := (by with_reducible first | exact KAt.below HK.out hb | exact KAt.below HK.out (Below.then (drew_below _) hb) | exact KAt.below HK.out (Below.then (alloc_below _ _) hb) | exact KAt.below HK.out (Below.then (Below.then (alloc_below _ _) (drew_below _)) hb)); have hB1 : Below w.heap.size w v8 := (by with_reducible first | exact Below.then HB.out hb | exact Below.then HB.out (Below.then (drew_below _) hb) | exact Below.then HB.out (Below.then (alloc_below _ _) hb) | exact Below.then HB.out (Below.then (Below.then (alloc_below _ _) (drew_below _)) hb)); replace HB := Lib.hid hB1; replace HK := Lib.hid hK1; clear z zf y yf hK1 hB1;  obtain ⟨z, zf⟩ := blk_all HK.out.qs; obtain ⟨y, yf⟩ := blk_all HK.out.qp; clear hb)
    | (go_at_call 18; (with_reducible refine (Count_calls _ _ k0 (pdO (tx [112]) (tx [97]) 1) ⟨#[120]⟩ _ (by with_reducible first | exact HK.out.hv | exact Kd.V.mono (vw_below (drew_below _)) HK.out.hv | exact Kd.V.mono (vw_below (alloc_below _ _)) HK.out.hv | exact Kd.V.mono (vw_below (Below.then (alloc_below _ _) (drew_below _))) HK.out.hv) (by with_reducible first | exact HK.out.h1 | exact Kd.V.mono (vw_below (drew_below _)) HK.out.h1 | exact Kd.V.mono (vw_below (alloc_below _ _)) HK.out.h1 | exact Kd.V.mono (vw_below (Below.then (alloc_below _ _) (drew_below _))) HK.out.h1)).mono ?_); rintro e v9 ⟨rfl, hb⟩; rw [show countV k0 (pdO (tx [112]) (tx [97]) 1) ⟨#[120]⟩ k0.pods = 1 from k0_c1]; have hK1 : KAt (w7.heap.size + 1) w7.heap.size #[.slice (some ⟨w4.heap.size, 0, none⟩) 4 4, .slice (some ⟨w7.heap.size, 0, none⟩) 3 3, .slice none 0 0] #[.string (tx [112]), .string (tx [119, 101, 98]), .int .i64 0, .slice E1 1 e1, .slice E2 0 e2, .slice E3 0 e3, .slice E4 0 e4, .string (tx [122, 111, 110, 101]), .int .i64 1, .string (tx [97]), .bool false, .string (tx [113]), .string (tx [119, 101, 98]), .int .i64 0, .slice F1 1 f1, .slice F2 0 f2, .slice F3 0 f3, .slice F4 0 f4, .string (tx [122, 111, 110, 101]), .int .i64 1, .string (tx [99]), .bool false, .string (tx [114]), .string (tx [119, 101, 98]), .int .i64 0, .slice G1 1 g1, .slice G2 0 g2, .slice G3 0 g3, .slice G4 0 g4, .string (tx [122, 111, 110, 101]), .int .i64 1, .string ⟨#[]⟩, .bool false] #[.string (tx [112]), .string (tx [119, 101, 98]), .int .i64 0, .slice E1 1 e1, .slice E2 0 e2, .slice E3 0 e3, .slice E4 0 e4, .string (tx [122, 111, 110, 101]), .int .i64 1, .string (tx [97]), .bool false] #[.string (tx [114]), .string (tx [119, 101, 98]), .int .i64 0, .slice G1 1 g1, .slice G2 0 g2, .slice G3 0 g3, .slice G4 0 g4, .string (tx [122, 111, 110, 101]), .int .i64 1, .string ⟨#[]⟩, .bool false] v9 := (by with_reducible first | exact KAt.below HK.out hb | exact KAt.below HK.out (Below.then (drew_below _) hb) | exact KAt.below HK.out (Below.then (alloc_below _ _) hb) | exact KAt.below HK.out (Below.then (Below.then (alloc_below _ _) (drew_below _)) hb)); have hB1 : Below w.heap.size w v9 := (by with_reducible first | exact Below.then HB.out hb | exact Below.then HB.out (Below.then (drew_below _) hb) | exact Below.then HB.out (Below.then (alloc_below _ _) hb) | exact Below.then HB.out (Below.then (Below.then (alloc_below _ _) (drew_below _)) hb)); replace HB := Lib.hid hB1; replace HK := Lib.hid hK1; clear z zf y yf hK1 hB1;  obtain ⟨z, zf⟩ := blk_all HK.out.qs; obtain ⟨y, yf⟩ := blk_all HK.out.qp; clear hb)
    | (go_at_call 20; (with_reducible refine (Bad_calls _ k0 _ (by with_reducible first | exact HK.out.hv | exact Kd.V.mono (vw_below (drew_below _)) HK.out.hv | exact Kd.V.mono (vw_below (alloc_below _ _)) HK.out.hv | exact Kd.V.mono (vw_below (Below.then (alloc_below _ _) (drew_below _))) HK.out.hv) (by decide) (by decide)).mono ?_); rintro e va ⟨sv, rfl, ho, hb⟩; (try have HX := Lib.hid (strs_two ((hb.block v9.heap.size (by simp)).trans (blk_last _ _)))); rw [k0_bad] at ho; have HS : Hid (Kd.str.S (vw va []) sv [⟨#[112]⟩, ⟨#[113]⟩]) := bad_S ho (by decide) two_ok; clear ho; have hK1 : KAt (w7.heap.size + 1) w7.heap.size #[.slice (some ⟨w4.heap.size, 0, none⟩) 4 4, .slice (some ⟨w7.heap.size, 0, none⟩) 3 3, .slice none 0 0] #[.string (tx [112]), .string (tx [119, 101, 98]), .int .i64 0, .slice E1 1 e1, .slice E2 0 e2, .slice E3 0 e3, .slice E4 0 e4, .string (tx [122, 111, 110, 101]), .int .i64 1, .string (tx [97]), .bool false, .string (tx [113]), .string (tx [119, 101, 98]), .int .i64 0, .slice F1 1 f1, .slice F2 0 f2, .slice F3 0 f3, .slice F4 0 f4, .string (tx [122, 111, 110, 101]), .int .i64 1, .string (tx [99]), .bool false, .string (tx [114]), .string (tx [119, 101, 98]), .int .i64 0, .slice G1 1 g1, .slice G2 0 g2, .slice G3 0 g3, .slice G4 0 g4, .string (tx [122, 111, 110, 101]), .int .i64 1, .string ⟨#[]⟩, .bool false] #[.string (tx [112]), .string (tx [119, 101, 98]), .int .i64 0, .slice E1 1 e1, .slice E2 0 e2, .slice E3 0 e3, .slice E4 0 e4, .string (tx [122, 111, 110, 101]), .int .i64 1, .string (tx [97]), .bool false] #[.string (tx [114]), .string (tx [119, 101, 98]), .int .i64 0, .slice G1 1 g1, .slice G2 0 g2, .slice G3 0 g3, .slice G4 0 g4, .string (tx [122, 111, 110, 101]), .int .i64 1, .string ⟨#[]⟩, .bool false] va := (by with_reducible first | exact KAt.below HK.out hb | exact KAt.below HK.out (Below.then (drew_below _) hb) | exact KAt.below HK.out (Below.then (alloc_below _ _) hb) | exact KAt.below HK.out (Below.then (Below.then (alloc_below _ _) (drew_below _)) hb)); have hB1 : Below w.heap.size w va := (by with_reducible first | exact Below.then HB.out hb | exact Below.then HB.out (Below.then (drew_below _) hb) | exact Below.then HB.out (Below.then (alloc_below _ _) hb) | exact Below.then HB.out (Below.then (Below.then (alloc_below _ _) (drew_below _)) hb)); replace HB := Lib.hid hB1; replace HK := Lib.hid hK1; clear z zf y yf hK1 hB1;  obtain ⟨z, zf⟩ := blk_all HK.out.qs; obtain ⟨y, yf⟩ := blk_all HK.out.qp; clear hb))
  all_goals
    go_wp2
    go_ret
    exact ⟨rfl, HB.out⟩
end Go.Proofs.Ytfbmfjmnpfidoaa
namespace Go.Proofs.Ytfbmfjmnpfidoaa
open Go.RowKit

theorem tx_append (a b : List UInt8) : tx a ++ tx b = tx (a ++ b) := by
  apply ByteArray.ext
  simp [tx]
/-- One byte as a text. -/
theorem conv_one (x : Int) (h0 : 0 ≤ x) (h : x ≤ 255) (W : World) :
    (convert 72 9 (.slice (some ⟨W.heap.size, 0, none⟩) 1 1)).run Try.prog (W.alloc (.cells #[.int .u8 x] 5)) = .ok (.string (tx [UInt8.ofNat x.toNat])) (W.alloc (.cells #[.int .u8 x] 5)) := by
  have := run_convert_bytes_back (P := Try.prog) (W.alloc (.cells #[.int .u8 x] 5)) 72 9 5 ⟨W.heap.size, 0, none⟩ 1 [UInt8.ofNat x.toNat] Try.underlying72 Try.underlying5 Try.underlying9 (fun j hj => by
    have hj' : j < 1 := hj
    obtain rfl : j = 0 := by omega
    have e := one_new W (.int .u8 x) 5 0 (.int .u8 x) rfl
    rw [e]
    have : (UInt8.ofNat x.toNat).toNat = x.toNat := by simp; omega
    simp only [List.getElem_cons_zero, this]
    congr 2; omega)
  exact this

def digit (q : Nat) : UInt8 := 48 + UInt8.ofNat (q % 10)
theorem digit_eq (q : Nat) : UInt8.ofNat (48 + q % 10) = digit q := by rw [UInt8.ofNat_add]; rfl
theorem tx_size (l : List UInt8) : (tx l).size = l.length := rfl
theorem dec_start (n : Nat) : Lib.decDigits n = (if n < 10 then [] else Lib.decDigits (n / 10)) ++ [digit n] := by
  rw [Lib.decDigits]
  split
  · rename_i h; rw [← digit_eq, Nat.mod_eq_of_lt h, List.nil_append]
  · rw [digit_eq]
theorem dec_step {n q : Nat} {l : List UInt8} (h : Lib.decDigits n = (if q < 10 then [] else Lib.decDigits (q / 10)) ++ l) (hq : ¬ q < 10) :
    Lib.decDigits n = (if q / 10 < 10 then [] else Lib.decDigits (q / 10 / 10)) ++ (digit (q / 10) :: l) := by
  rw [h, if_neg hq, dec_start (q / 10)]
  simp

set_option maxHeartbeats 1000000 in
set_option maxRecDepth 100000 in
theorem Decimal_calls (n : Nat) (w : World) (hn : n ≤ 9223372036854775807) :
    Calls Try.prog 24 #[.int .i64 (n : Int)] w fun e w' => e = .returned (.string (tx (Lib.decDigits n))) ∧ Below w.heap.size w w' := by
  have hc0 := conv_one (48 + (n : Int) % 10) (by omega) (by omega)
  go_enter Try.func24, Try.ntmps24
  go_wp2
  clear hc0
  go_loopw [0, 3] (fun q s wr => ∃ (q0 : Nat) (l : List UInt8), q0 ≤ n ∧ q = .int .i64 q0 ∧ s = .string (tx l) ∧ l.length ≤ 20 ∧ q0 < 10 ^ (20 - l.length) ∧ Hid (Lib.decDigits n = (if q0 < 10 then [] else Lib.decDigits (q0 / 10)) ++ l) ∧ Hid (Below w.heap.size w wr)) (fun q _ _ => (intOf q).toNat)
  case atStart => exact ⟨n, [digit n], Nat.le_refl _, rfl, by rw [← digit_eq], by simp, by simp; omega, dec_start n, (Below.refl _ _).alloc (Nat.le_refl _) _⟩
  case round =>
    obtain ⟨q0, l, hq, rfl, rfl, hl, hp, HR, HB⟩ := hrel
    by_cases hlt : q0 < 10
    · clear hp
      go_wp2
      go_ret
      have := HR.out
      rw [if_pos hlt, List.nil_append] at this
      exact ⟨ret_str (by rw [this]), HB.out⟩
    · have hc0 := conv_one (48 + ((q0 : Int) / 10) % 10) (by omega) (by omega)
      have HD := Lib.hid (dec_step HR.out hlt)
      have hl2 : l.length + 1 ≤ 20 := by
        rcases Nat.lt_or_ge l.length 20 with h | h
        · exact h
        · rw [show 20 - l.length = 0 by omega] at hp; simp at hp; omega
      have hp2 : q0 / 10 < 10 ^ (20 - (l.length + 1)) := by
        rw [show 20 - l.length = 20 - (l.length + 1) + 1 by omega, Nat.pow_succ] at hp
        omega
      have HP := Lib.hid hp2
      have hbs := tx_size
      clear hp hp2
      go_wp2
      go_roundw
      case rel => exact ⟨q0 / 10, digit (q0 / 10) :: l, by omega, by go_num, by rw [tx_append]; rfl, hl2, HP.out, HD.out, HB.out.alloc HB.out.size _⟩
      case measure => simp [intOf]; omega
end Go.Proofs.Ytfbmfjmnpfidoaa
namespace Go.Proofs.Ytfbmfjmnpfidoaa
open Go.RowKit

/-! append of one struct onto a row of the call's own; a row beside other memory. -/
namespace Kd
variable {α : Type}
theorem Own.kept {d : Kd α} {w w' : World} {base : Nat} {e : TypeId} {lo : Nat} {v : Value} {xs : List α} (h : d.Own w base e lo v xs) {row : Option Nat} (hg : w.grownBy w' row) (hr : ∀ q, row = some q → q < lo ∧ q < base) : d.Own w' base e lo v xs := by
  obtain ⟨css, h1, h2, h3⟩ := h
  refine ⟨css, h1, fun j x hx => ?_, h3.kept hg ?_⟩
  · obtain ⟨cs, a, b⟩ := h2 j x hx
    refine ⟨cs, a, d.mono (fun k o hk => ?_) b⟩
    obtain ⟨q1, q2, q3⟩ := nx_eq hk
    exact nx_mk (by omega) q2 ((hg.block k (blk_lt q3) (fun e => q1 (hr k e.symm).1)).trans q3)
  · cases hv : v.ownBlock with
    | none => exact .inl rfl
    | some g =>
      refine .inr fun e => ?_
      have := (hr g e.symm).2
      have := (h3.lt g hv).1
      omega
theorem Own.setCell {d : Kd α} {w : World} {base : Nat} {e : TypeId} {lo : Nat} {v : Value} {xs : List α} (h : d.Own w base e lo v xs) {p : Addr} (h1 : p.block < lo) (h2 : p.block < base) (u : Value) : d.Own (w.setCell p u) base e lo v xs := by
  obtain ⟨css, k1, k2, k3⟩ := h
  refine ⟨css, k1, fun j x hx => ?_, ownsRow_setCell_below k3 h2 u⟩
  obtain ⟨cs, a, b⟩ := k2 j x hx
  refine ⟨cs, a, d.mono (fun k o hk => ?_) b⟩
  obtain ⟨q1, q2, q3⟩ := nx_eq hk
  exact nx_mk (by omega) q2 ((Below.heap_setCell w p u k (by omega)).trans q3)
theorem Own.form {d : Kd α} {w : World} {base : Nat} {e : TypeId} {lo : Nat} {v : Value} {xs : List α} (h : d.Own w base e lo v xs) : ∃ A c, v = .slice A xs.length c := by
  obtain ⟨_, hr⟩ := h.row
  rcases hr.2 with ⟨rfl, h0⟩ | ⟨g, cap, cur, rfl, _⟩
  · exact ⟨none, 0, by rw [h0]⟩
  · exact ⟨_, _, rfl⟩
/-- What a call has made lies apart from a row that was there. -/
theorem Own.fresh {β : Type} {d : Kd α} {d' : Kd β} {w w' : World} {base : Nat} {e : TypeId} {lo : Nat} {v : Value} {xs : List α} (h : d.Own w base e lo v xs) (hl : lo ≤ w.heap.size) {x : β} {cs : List Value} (hk : d'.K (nx w' w.heap.size none) x cs) : d'.K (nx w' lo v.ownBlock) x cs := by
  obtain ⟨_, hr⟩ := h.row
  exact d'.mono (nx_new hl (fun q e => .inl (hr.lt q e).2) rfl) hk
end Kd
section
variable {α : Type} {d : Kd α} {P : Program} (w : World) (base lo : Nat) (t e : TypeId) (i : TypeInfo) (z : Value) (bytes : Nat) (ht : P.underlying t = some (.slice e)) (hi : P.info? e = some i) (hz : i.zero = some z)
  (hsize : i.size = d.sz) (hby : i.bytes = bytes) (hzs : z.cells.size = d.sz) (hsz : 0 < d.sz) (v : Value) (xs : List α) (x : α) (cs : List Value) (hown : d.Own w base e lo v xs) (hk : d.K (nx w lo v.ownBlock) x cs)
  (g c : Nat) (T : TypeId) (hg : w.heap[g]? = some (.cells cs.toArray T (0, 0))) (h1 : ∀ u ∈ cs, u.oneCell' = true) (h63 : xs.length + 1 ≤ maxLen) (hbytes : (xs.length + 1) * bytes ≤ 140737488355328) (hbase : base ≤ w.heap.size)
  {o : Oper} {a : Act} {Q : Exit → Act → World → Prop} (s y : Operand) (ho : o.op = .call { callee := .builtin .append, args := #[s, y], argTypes := #[t, t] }) (hs : a.eval s = v) (hx : a.eval y = .slice (some ⟨g, 0, none⟩) 1 c) (hgd : o.guard = none)
include ht hi hz hsize hby hzs hsz hown hk hg h1 h63 hbytes hbase ho hs hx hgd
theorem wpList_own {ops : Array Oper} {rest : List Oper} (h : ∀ v' w', d.Own w' base e lo v' (xs ++ [x]) → w.grownBy w' v.ownBlock → wpList P ops Q rest (a.put o.dst v') w') : wpList P ops Q (o :: rest) a w := by
  obtain ⟨css, k1, k2, k3⟩ := hown
  exact wpList_app w base t e i z d.sz bytes ht hi hz hsize hby hzs hsz v xs.length css.flatten k3 (some ⟨g, 0, none⟩) 1 c cs (by rw [d.len hk]; omega) (fun e => by cases e) (fun ad had j u hu => by
      cases had
      have := World.news_of_block hg j u
      exact this (by simpa using hu)) h1 h63 hbytes hbase s y ho hs hx hgd fun v' w' ho' hg' hv' => h v' w' (Kd.Own.snoc k1 k2 hk (Below.refl _ _) ho' hg' hv') hg'
theorem step_own {ops : Array Oper} {E : Prop} {K : Act → World → Prop} (h : ∀ v' w', d.Own w' base e lo v' (xs ++ [x]) → w.grownBy w' v.ownBlock → K (a.put o.dst v') w') :
    if Region.wanted o (yielded ops a.tmps) = true then Oper.wp P o a w K Q else E := by
  obtain ⟨css, k1, k2, k3⟩ := hown
  exact step_app w base t e i z d.sz bytes ht hi hz hsize hby hzs hsz v xs.length css.flatten k3 (some ⟨g, 0, none⟩) 1 c cs (by rw [d.len hk]; omega) (fun e => by cases e) (fun ad had j u hu => by
      cases had
      have := World.news_of_block hg j u
      exact this (by simpa using hu)) h1 h63 hbytes hbase s y ho hs hx hgd fun v' w' ho' hg' hv' => h v' w' (Kd.Own.snoc k1 k2 hk (Below.refl _ _) ho' hg' hv') hg'
end
end Go.Proofs.Ytfbmfjmnpfidoaa
