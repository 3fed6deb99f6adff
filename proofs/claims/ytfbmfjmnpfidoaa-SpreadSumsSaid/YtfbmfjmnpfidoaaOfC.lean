import Derived.Test.YtfbmfjmnpfidoaaOfB
namespace Go.Proofs.Ytfbmfjmnpfidoaa
open Go.RowKit

set_option maxHeartbeats 40000000 in
set_option maxRecDepth 100000 in
theorem Of7_calls (v : Value) (x : Pd) (w : World) (hv : Kd.pod.V (vw w []) v x) (hf : x.Few) : Calls Try.prog 11 #[v] w (OneDone Kd.pod x w) := by
  obtain ⟨cs, rfl, A0, c0, A1, c1, A2, c2, A3, c3, rfl, hx, s0, s1, s2, s3⟩ := hv
  have S0 := Lib.hid s0
  have S1 := Lib.hid s1
  have S2 := Lib.hid s2
  have S3 := Lib.hid s3
  have HX := Lib.hid hx
  have l0 := hf.2.2.2.2.1.1
  have l1 := hf.2.2.2.2.2.1.1
  have l2 := hf.2.2.2.2.2.2.1.1
  have l3 := hf.2.2.2.2.2.2.2.1
  clear s0 s1 s2 s3 hx hf
  go_enter Try.func11, Try.ntmps11
  go_wp2
  obtain ⟨W, hW⟩ : ∃ W : World, W = ((w.alloc (.cells #[.string x.name, .string x.owner, .int .i64 x.prio, .slice A0 x.need.length c0, .slice A1 x.labels.length c1, .slice A2 x.sel.length c2, .slice A3 x.tols.length c3, .string x.key, .int .i64 x.most, .string x.node, .bool x.hold] 35)).alloc (.cells #[.string ⟨#[]⟩, .string ⟨#[]⟩, .int .i64 0, .slice none 0 0, .slice none 0 0, .slice none 0 0, .slice none 0 0, .string ⟨#[]⟩, .int .i64 0, .string ⟨#[]⟩, .bool false] 45)) := ⟨_, rfl⟩
  rw [← hW]
  have HB : Hid (Below w.heap.size w W.drew) := by
    rw [hW]; exact Below.then (Below.then (alloc_below _ _) (alloc_below _ _)) (drewN_below _ 1)
  have HC : Hid (W.drew.heap[w.heap.size]? = some (.cells #[.string x.name, .string x.owner, .int .i64 x.prio, .slice A0 x.need.length c0, .slice A1 x.labels.length c1, .slice A2 x.sel.length c2, .slice A3 x.tols.length c3, .string x.key, .int .i64 x.most, .string x.node, .bool x.hold] 35 (0, 0))) := by
    rw [hW]; exact (blk_old _ _ (by simp)).trans (blk_last _ _)
  have HZ : Hid (W.drew.heap[w.heap.size + 1]? = some (.cells #[.string ⟨#[]⟩, .string ⟨#[]⟩, .int .i64 0, .slice none 0 0, .slice none 0 0, .slice none 0 0, .slice none 0 0, .string ⟨#[]⟩, .int .i64 0, .string ⟨#[]⟩, .bool false] 45 (0, 0))) := by
    rw [hW]; exact (show _ = w.heap.size + 1 by simp : (w.alloc (.cells #[.string x.name, .string x.owner, .int .i64 x.prio, .slice A0 x.need.length c0, .slice A1 x.labels.length c1, .slice A2 x.sel.length c2, .slice A3 x.tols.length c3, .string x.key, .int .i64 x.most, .string x.node, .bool x.hold] 35)).heap.size = w.heap.size + 1) ▸ blk_last _ _
  have hsz : w.heap.size + 2 ≤ W.drew.heap.size := by
    rw [hW]; show _ ≤ (World.alloc _ _).heap.size; simp
  clear hW
  obtain ⟨z, zf⟩ := blk_all HC.out
  go_region_held3 (fun w' => ∀ j, w'.cell? ⟨w.heap.size, j, none⟩ = #[.string x.name, .string x.owner, .int .i64 x.prio, .slice A0 x.need.length c0, .slice A1 x.labels.length c1, .slice A2 x.sel.length c2, .slice A3 x.tols.length c3, .string x.key, .int .i64 x.most, .string x.node, .bool x.hold][j]?) (first | go_keep | exact z) (first
    | (go_at_call 40; refine (Of2_calls _ x.need _ (by exact S0.out.mono (vw_below HB.out)) (by omega)).mono ?_; rintro e w1 ⟨B0, d0, rfl, t0, hb⟩; (try replace T1 := Lib.hid (T1.out.mono (nx_below hb))); (try replace T2 := Lib.hid (T2.out.mono (nx_below hb))); (try replace T3 := Lib.hid (T3.out.mono (nx_below hb))); have T0 := Lib.hid (t0.mono (nx_lo hsz)); have hsz2 := Nat.le_trans hsz hb.size; replace HB := Lib.hid (Below.then HB.out hb); replace HC := Lib.hid ((hb.block _ (blk_lt HC.out)).trans HC.out); replace HZ := Lib.hid ((hb.block _ (blk_lt HZ.out)).trans HZ.out); clear z zf hb t0 hsz; (try clear y yf); obtain ⟨z, zf⟩ := blk_all HC.out; obtain ⟨y, yf⟩ := blk_all HZ.out; have hsz := hsz2; clear hsz2)
    | (go_at_call 22; refine (Of4_calls _ x.labels _ (by exact S1.out.mono (vw_below HB.out)) (by omega)).mono ?_; rintro e w1 ⟨B1, d1, rfl, t0, hb⟩; (try replace T0 := Lib.hid (T0.out.mono (nx_below hb))); (try replace T2 := Lib.hid (T2.out.mono (nx_below hb))); (try replace T3 := Lib.hid (T3.out.mono (nx_below hb))); have T1 := Lib.hid (t0.mono (nx_lo hsz)); have hsz2 := Nat.le_trans hsz hb.size; replace HB := Lib.hid (Below.then HB.out hb); replace HC := Lib.hid ((hb.block _ (blk_lt HC.out)).trans HC.out); replace HZ := Lib.hid ((hb.block _ (blk_lt HZ.out)).trans HZ.out); clear z zf hb t0 hsz; (try clear y yf); obtain ⟨z, zf⟩ := blk_all HC.out; obtain ⟨y, yf⟩ := blk_all HZ.out; have hsz := hsz2; clear hsz2)
    | (go_at_call 41; refine (OfSel4_calls _ x.sel _ (by exact S2.out.mono (vw_below HB.out)) (by omega)).mono ?_; rintro e w1 ⟨B2, d2, rfl, t0, hb⟩; (try replace T0 := Lib.hid (T0.out.mono (nx_below hb))); (try replace T1 := Lib.hid (T1.out.mono (nx_below hb))); (try replace T3 := Lib.hid (T3.out.mono (nx_below hb))); have T2 := Lib.hid (t0.mono (nx_lo hsz)); have hsz2 := Nat.le_trans hsz hb.size; replace HB := Lib.hid (Below.then HB.out hb); replace HC := Lib.hid ((hb.block _ (blk_lt HC.out)).trans HC.out); replace HZ := Lib.hid ((hb.block _ (blk_lt HZ.out)).trans HZ.out); clear z zf hb t0 hsz; (try clear y yf); obtain ⟨z, zf⟩ := blk_all HC.out; obtain ⟨y, yf⟩ := blk_all HZ.out; have hsz := hsz2; clear hsz2)
    | (go_at_call 42; refine (OfTols5_calls _ x.tols _ (by exact S3.out.mono (vw_below HB.out)) (by omega)).mono ?_; rintro e w1 ⟨B3, d3, rfl, t0, hb⟩; (try replace T0 := Lib.hid (T0.out.mono (nx_below hb))); (try replace T1 := Lib.hid (T1.out.mono (nx_below hb))); (try replace T2 := Lib.hid (T2.out.mono (nx_below hb))); have T3 := Lib.hid (t0.mono (nx_lo hsz)); have hsz2 := Nat.le_trans hsz hb.size; replace HB := Lib.hid (Below.then HB.out hb); replace HC := Lib.hid ((hb.block _ (blk_lt HC.out)).trans HC.out); replace HZ := Lib.hid ((hb.block _ (blk_lt HZ.out)).trans HZ.out); clear z zf hb t0 hsz; (try clear y yf); obtain ⟨z, zf⟩ := blk_all HC.out; obtain ⟨y, yf⟩ := blk_all HZ.out; have hsz := hsz2; clear hsz2))
  have hset := setCells_all (cs := [.string x.name, .string x.owner, .int .i64 x.prio, .slice B0 x.need.length d0, .slice B1 x.labels.length d1, .slice B2 x.sel.length d2, .slice B3 x.tols.length d3, .string x.key, .int .i64 x.most, .string x.node, .bool x.hold]) HZ.out rfl
  have hbl := Below.setCells HB.out (Nat.le_succ _) [.string x.name, .string x.owner, .int .i64 x.prio, .slice B0 x.need.length d0, .slice B1 x.labels.length d1, .slice B2 x.sel.length d2, .slice B3 x.tols.length d3, .string x.key, .int .i64 x.most, .string x.node, .bool x.hold] 0
  have hnx := nx_setCells (w := w1) (lo' := w.heap.size) [.string x.name, .string x.owner, .int .i64 x.prio, .slice B0 x.need.length d0, .slice B1 x.labels.length d1, .slice B2 x.sel.length d2, .slice B3 x.tols.length d3, .string x.key, .int .i64 x.most, .string x.node, .bool x.hold] 0 (Nat.lt_succ_self (w.heap.size + 1)) (by omega)
  go_wp2
  change bodyPost _ _ _ _ _ (w1.setCells (w.heap.size + 1) 0 [.string x.name, .string x.owner, .int .i64 x.prio, .slice B0 x.need.length d0, .slice B1 x.labels.length d1, .slice B2 x.sel.length d2, .slice B3 x.tols.length d3, .string x.key, .int .i64 x.most, .string x.node, .bool x.hold])
  exact ret_row1 (cs := [.string x.name, .string x.owner, .int .i64 x.prio, .slice B0 x.need.length d0, .slice B1 x.labels.length d1, .slice B2 x.sel.length d2, .slice B3 x.tols.length d3, .string x.key, .int .i64 x.most, .string x.node, .bool x.hold]) rfl rfl hset Try.underlying45 rfl (by kernel_rfl) rfl ⟨[.string x.name, .string x.owner, .int .i64 x.prio, .slice B0 x.need.length d0, .slice B1 x.labels.length d1, .slice B2 x.sel.length d2, .slice B3 x.tols.length d3, .string x.key, .int .i64 x.most, .string x.node, .bool x.hold], rfl, ⟨B0, d0, B1, d1, B2, d2, B3, d3, rfl, HX.out, T0.out.mono hnx, T1.out.mono hnx, T2.out.mono hnx, T3.out.mono hnx⟩, hbl⟩

end Go.Proofs.Ytfbmfjmnpfidoaa
