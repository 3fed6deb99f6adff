import Derived.Test.YtfbmfjmnpfidoaaOf
import Derived.Test.YtfbmfjmnpfidoaaFewC
namespace Go.Proofs.Ytfbmfjmnpfidoaa
open Go.RowKit

/-- A copy of a struct, what it leads to in memory that is new. -/
def OneDone {α : Type} (d : Kd α) (x : α) (w : World) (e : Ending) (w' : World) : Prop := ∃ cs, e = .returned (.agg cs.toArray) ∧ d.K (nx w' w.heap.size none) x cs ∧ Below w.heap.size w w'
theorem nx_set {w : World} {lo : Nat} {own : Option Nat} {p : Addr} (h : p.block < lo) (u : Value) : (nx w lo own).le (nx (w.setCell p u) lo own) := fun b o hb => by
  obtain ⟨h1, h2, h3⟩ := nx_eq hb
  exact nx_mk (by omega) h2 ((Below.heap_setCell w p u b (by omega)).trans h3)
theorem nx_setCells {w : World} {lo lo' b : Nat} (cs : List Value) (o : Nat) (h : b < lo) (hl : lo' ≤ lo) : (nx w lo none).le (nx (w.setCells b o cs) lo' none) := fun k x hk => by
  obtain ⟨h1, h2, h3⟩ := nx_eq hk
  exact nx_mk (by omega) (by simp) ((setCells_far b cs o w k (by omega)).trans h3)
theorem nx_lo {w : World} {lo lo' : Nat} (h : lo ≤ lo') : (nx w lo' none).le (nx w lo none) := nx_new h (by simp) rfl

set_option maxHeartbeats 4000000 in
set_option maxRecDepth 100000 in
theorem Of6_calls (v : Value) (x : Nd) (w : World) (hv : Kd.node.V (vw w []) v x) (hf : x.Few) : Calls Try.prog 67 #[v] w (OneDone Kd.node x w) := by
  obtain ⟨cs, rfl, A0, c0, A1, c1, A2, c2, rfl, hx, s0, s1, s2⟩ := hv
  have S0 := Lib.hid s0
  have S1 := Lib.hid s1
  have S2 := Lib.hid s2
  have HX := Lib.hid hx
  have l0 := hf.2.1.1
  have l1 := hf.2.2.1.1
  have l2 := hf.2.2.2.1
  clear s0 s1 s2 hx hf
  go_enter Try.func67, Try.ntmps67
  go_wp2
  obtain ⟨W, hW⟩ : ∃ W : World, W = ((w.alloc (.cells #[.string x.name, .slice A0 x.cap.length c0, .slice A1 x.labels.length c1, .slice A2 x.taints.length c2, .bool x.cordon] 68)).alloc (.cells #[.string ⟨#[]⟩, .slice none 0 0, .slice none 0 0, .slice none 0 0, .bool false] 99)) := ⟨_, rfl⟩
  rw [← hW]
  have HB : Hid (Below w.heap.size w W.drew) := by
    rw [hW]; exact Below.then (Below.then (alloc_below _ _) (alloc_below _ _)) (drewN_below _ 1)
  have HC : Hid (W.drew.heap[w.heap.size]? = some (.cells #[.string x.name, .slice A0 x.cap.length c0, .slice A1 x.labels.length c1, .slice A2 x.taints.length c2, .bool x.cordon] 68 (0, 0))) := by
    rw [hW]; exact (blk_old _ _ (by simp)).trans (blk_last _ _)
  have HZ : Hid (W.drew.heap[w.heap.size + 1]? = some (.cells #[.string ⟨#[]⟩, .slice none 0 0, .slice none 0 0, .slice none 0 0, .bool false] 99 (0, 0))) := by
    rw [hW]; exact (show _ = w.heap.size + 1 by simp : (w.alloc (.cells #[.string x.name, .slice A0 x.cap.length c0, .slice A1 x.labels.length c1, .slice A2 x.taints.length c2, .bool x.cordon] 68)).heap.size = w.heap.size + 1) ▸ blk_last _ _
  have hsz : w.heap.size + 2 ≤ W.drew.heap.size := by
    rw [hW]; show _ ≤ (World.alloc _ _).heap.size; simp
  clear hW
  obtain ⟨z, zf⟩ := blk_all HC.out
  go_region_held3 (fun w' => ∀ j, w'.cell? ⟨w.heap.size, j, none⟩ = #[.string x.name, .slice A0 x.cap.length c0, .slice A1 x.labels.length c1, .slice A2 x.taints.length c2, .bool x.cordon][j]?) (first | go_keep | exact z) (first
    | (go_at_call 40; refine (Of2_calls _ x.cap _ (by exact S0.out.mono (vw_below HB.out)) (by omega)).mono ?_; rintro e w1 ⟨B0, d0, rfl, t0, hb⟩; (try replace T1 := Lib.hid (T1.out.mono (nx_below hb))); (try replace T2 := Lib.hid (T2.out.mono (nx_below hb))); have T0 := Lib.hid (t0.mono (nx_lo hsz)); have hsz2 := Nat.le_trans hsz hb.size; replace HB := Lib.hid (Below.then HB.out hb); replace HC := Lib.hid ((hb.block _ (blk_lt HC.out)).trans HC.out); replace HZ := Lib.hid ((hb.block _ (blk_lt HZ.out)).trans HZ.out); clear z zf hb t0 hsz; (try clear y yf); obtain ⟨z, zf⟩ := blk_all HC.out; obtain ⟨y, yf⟩ := blk_all HZ.out; have hsz := hsz2; clear hsz2)
    | (go_at_call 22; refine (Of4_calls _ x.labels _ (by exact S1.out.mono (vw_below HB.out)) (by omega)).mono ?_; rintro e w1 ⟨B1, d1, rfl, t0, hb⟩; (try replace T0 := Lib.hid (T0.out.mono (nx_below hb))); (try replace T2 := Lib.hid (T2.out.mono (nx_below hb))); have T1 := Lib.hid (t0.mono (nx_lo hsz)); have hsz2 := Nat.le_trans hsz hb.size; replace HB := Lib.hid (Below.then HB.out hb); replace HC := Lib.hid ((hb.block _ (blk_lt HC.out)).trans HC.out); replace HZ := Lib.hid ((hb.block _ (blk_lt HZ.out)).trans HZ.out); clear z zf hb t0 hsz; (try clear y yf); obtain ⟨z, zf⟩ := blk_all HC.out; obtain ⟨y, yf⟩ := blk_all HZ.out; have hsz := hsz2; clear hsz2)
    | (go_at_call 79; refine (Of5_calls _ x.taints _ (by exact S2.out.mono (vw_below HB.out)) (by omega)).mono ?_; rintro e w1 ⟨B2, d2, rfl, t0, hb⟩; (try replace T0 := Lib.hid (T0.out.mono (nx_below hb))); (try replace T1 := Lib.hid (T1.out.mono (nx_below hb))); have T2 := Lib.hid (t0.mono (nx_lo hsz)); have hsz2 := Nat.le_trans hsz hb.size; replace HB := Lib.hid (Below.then HB.out hb); replace HC := Lib.hid ((hb.block _ (blk_lt HC.out)).trans HC.out); replace HZ := Lib.hid ((hb.block _ (blk_lt HZ.out)).trans HZ.out); clear z zf hb t0 hsz; (try clear y yf); obtain ⟨z, zf⟩ := blk_all HC.out; obtain ⟨y, yf⟩ := blk_all HZ.out; have hsz := hsz2; clear hsz2))
  have hset := setCells_all (cs := [.string x.name, .slice B0 x.cap.length d0, .slice B1 x.labels.length d1, .slice B2 x.taints.length d2, .bool x.cordon]) HZ.out rfl
  have hbl := Below.setCells HB.out (Nat.le_succ _) [.string x.name, .slice B0 x.cap.length d0, .slice B1 x.labels.length d1, .slice B2 x.taints.length d2, .bool x.cordon] 0
  have hnx := nx_setCells (w := w1) (lo' := w.heap.size) [.string x.name, .slice B0 x.cap.length d0, .slice B1 x.labels.length d1, .slice B2 x.taints.length d2, .bool x.cordon] 0 (Nat.lt_succ_self (w.heap.size + 1)) (by omega)
  go_wp2
  change bodyPost _ _ _ _ _ (w1.setCells (w.heap.size + 1) 0 [.string x.name, .slice B0 x.cap.length d0, .slice B1 x.labels.length d1, .slice B2 x.taints.length d2, .bool x.cordon])
  exact ret_row1 (cs := [.string x.name, .slice B0 x.cap.length d0, .slice B1 x.labels.length d1, .slice B2 x.taints.length d2, .bool x.cordon]) rfl rfl hset Try.underlying99 rfl (by kernel_rfl) rfl ⟨[.string x.name, .slice B0 x.cap.length d0, .slice B1 x.labels.length d1, .slice B2 x.taints.length d2, .bool x.cordon], rfl, ⟨B0, d0, B1, d1, B2, d2, rfl, HX.out, T0.out.mono hnx, T1.out.mono hnx, T2.out.mono hnx⟩, hbl⟩

set_option maxHeartbeats 4000000 in
set_option maxRecDepth 100000 in
theorem Of8_calls (v : Value) (x : Bd) (w : World) (hv : Kd.budget.V (vw w []) v x) (hf : x.Few) : Calls Try.prog 68 #[v] w (OneDone Kd.budget x w) := by
  obtain ⟨cs, rfl, A0, c0, rfl, hx, s0⟩ := hv
  have S0 := Lib.hid s0
  have HX := Lib.hid hx
  have l0 := hf.2.1
  clear s0 hx hf
  go_enter Try.func68, Try.ntmps68
  go_wp2
  obtain ⟨W, hW⟩ : ∃ W : World, W = ((w.alloc (.cells #[.string x.name, .slice A0 x.sel.length c0, .int .i64 x.floor] 136)).alloc (.cells #[.string ⟨#[]⟩, .slice none 0 0, .int .i64 0] 133)) := ⟨_, rfl⟩
  rw [← hW]
  have HB : Hid (Below w.heap.size w W.drew) := by
    rw [hW]; exact Below.then (Below.then (alloc_below _ _) (alloc_below _ _)) (drewN_below _ 1)
  have HC : Hid (W.drew.heap[w.heap.size]? = some (.cells #[.string x.name, .slice A0 x.sel.length c0, .int .i64 x.floor] 136 (0, 0))) := by
    rw [hW]; exact (blk_old _ _ (by simp)).trans (blk_last _ _)
  have HZ : Hid (W.drew.heap[w.heap.size + 1]? = some (.cells #[.string ⟨#[]⟩, .slice none 0 0, .int .i64 0] 133 (0, 0))) := by
    rw [hW]; exact (show _ = w.heap.size + 1 by simp : (w.alloc (.cells #[.string x.name, .slice A0 x.sel.length c0, .int .i64 x.floor] 136)).heap.size = w.heap.size + 1) ▸ blk_last _ _
  have hsz : w.heap.size + 2 ≤ W.drew.heap.size := by
    rw [hW]; show _ ≤ (World.alloc _ _).heap.size; simp
  clear hW
  obtain ⟨z, zf⟩ := blk_all HC.out
  go_region_held3 (fun w' => ∀ j, w'.cell? ⟨w.heap.size, j, none⟩ = #[.string x.name, .slice A0 x.sel.length c0, .int .i64 x.floor][j]?) (first | go_keep | exact z) (first
    | (go_at_call 41; refine (OfSel4_calls _ x.sel _ (by exact S0.out.mono (vw_below HB.out)) (by omega)).mono ?_; rintro e w1 ⟨B0, d0, rfl, t0, hb⟩;  have T0 := Lib.hid (t0.mono (nx_lo hsz)); have hsz2 := Nat.le_trans hsz hb.size; replace HB := Lib.hid (Below.then HB.out hb); replace HC := Lib.hid ((hb.block _ (blk_lt HC.out)).trans HC.out); replace HZ := Lib.hid ((hb.block _ (blk_lt HZ.out)).trans HZ.out); clear z zf hb t0 hsz; (try clear y yf); obtain ⟨z, zf⟩ := blk_all HC.out; obtain ⟨y, yf⟩ := blk_all HZ.out; have hsz := hsz2; clear hsz2))
  have hset := setCells_all (cs := [.string x.name, .slice B0 x.sel.length d0, .int .i64 x.floor]) HZ.out rfl
  have hbl := Below.setCells HB.out (Nat.le_succ _) [.string x.name, .slice B0 x.sel.length d0, .int .i64 x.floor] 0
  have hnx := nx_setCells (w := w1) (lo' := w.heap.size) [.string x.name, .slice B0 x.sel.length d0, .int .i64 x.floor] 0 (Nat.lt_succ_self (w.heap.size + 1)) (by omega)
  go_wp2
  change bodyPost _ _ _ _ _ (w1.setCells (w.heap.size + 1) 0 [.string x.name, .slice B0 x.sel.length d0, .int .i64 x.floor])
  exact ret_row1 (cs := [.string x.name, .slice B0 x.sel.length d0, .int .i64 x.floor]) rfl rfl hset Try.underlying133 rfl (by kernel_rfl) rfl ⟨[.string x.name, .slice B0 x.sel.length d0, .int .i64 x.floor], rfl, ⟨B0, d0, rfl, HX.out, T0.out.mono hnx⟩, hbl⟩

end Go.Proofs.Ytfbmfjmnpfidoaa
