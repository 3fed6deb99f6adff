import Derived.Test.YthjbhnogndgojaaDoorFrameB
import Derived.WalkSmall
import Derived.Deep.QuietTactic
namespace Go.Proofs.YthjbhnogndgojaaDoor
open Go.RowKit

theorem callFunc_next1 (args : Array Value) (w : World) : (callFunc 39 args).run Tryd.prog w = .ok (.enter 39 args) w := by
  simp [go_sem]

set_option maxHeartbeats 1000000 in
set_option maxRecDepth 100000 in
theorem Next_calls (v : Value) (b : List UInt8) (w : World) (hs : Kd.u8.S (vw w []) v b) :
    Calls Tryd.prog 12 #[v] w fun e w' => e = .returned (.tuple #[.string (bs (nextV b).1), .int .i64 (nextV b).2.1, .int .i64 (nextV b).2.2]) ∧ Below w.heap.size w w' := by
  have hmf : ∀ (fn : Fn) (first cap : Array Value) (w : World), (Instr.makeFunc fn first cap).run Tryd.prog w = .ok (.func fn first cap) w := fun _ _ _ _ => rfl
  obtain ⟨A, cap, rfl, hcap, hlen, hnil, hcell⟩ := id hs
  clear hcell hnil
  have HS := Lib.hid hs
  clear hs
  go_enter Tryd.func12, Tryd.ntmps12
  go_wp2_with fail
  obtain ⟨W, hW⟩ : ∃ W : World, W = (((w.alloc (.cells #[.slice A b.length cap] 22)).alloc (.cells #[.string ⟨#[]⟩] 9)).alloc (.cells #[.int .i64 0] 3)) := ⟨_, rfl⟩
  have hsz : W.heap.size = w.heap.size + 3 := by rw [hW]; simp
  have b1 : W.heap[w.heap.size]? = some (.cells #[.slice A b.length cap] 22 (0, 0)) := by
    rw [hW, blk_old _ _ (by simp; omega), blk_old _ _ (by simp)]; exact blk_last _ _
  have b2 : W.heap[w.heap.size + 1]? = some (.cells #[.string ⟨#[]⟩] 9 (0, 0)) := by
    rw [hW, blk_old _ _ (by simp), show w.heap.size + 1 = (w.alloc (.cells #[.slice A b.length cap] 22)).heap.size by simp]; exact blk_last _ _
  have b3 : W.heap[w.heap.size + 2]? = some (.cells #[.int .i64 0] 3 (0, 0)) := by
    rw [hW, show w.heap.size + 2 = ((w.alloc (.cells #[.slice A b.length cap] 22)).alloc (.cells #[.string ⟨#[]⟩] 9)).heap.size by simp]; exact blk_last _ _
  have hB : Below w.heap.size w W := by
    rw [hW]; exact (((Below.refl _ _).alloc (Nat.le_refl _) _).alloc (by simp) _).alloc (by simp; omega) _
  rw [← hW]
  have hB2 : Below w.heap.size w (W.alloc (.cells #[.int .i64 0] 24)) := hB.alloc (by omega) _
  have HB2 := Lib.hid hB2
  have HZ := Lib.hid hsz
  refine (try_calls _ _ _ (NextDone b (w.heap.size + 1) (w.heap.size + 2) _) (callFunc_next1 _) (next1_calls _ w.heap.size (w.heap.size + 1) (w.heap.size + 2) (.slice A b.length cap) b _
    ((blk_old _ _ (by omega)).trans b1) ((blk_old _ _ (by omega)).trans b2) ((blk_old _ _ (by omega)).trans b3) (by omega) (by omega) (by omega) (by simp) (HS.out.mono (vw_below hB2)))).mono ?_
  clear hB hB2 b1 b2 b3 hW
  rintro e w' ⟨n, w2, rfl, ⟨hn, ht, he, d1, d2, d3, d4, d5⟩, hb3⟩
  simp at d4
  have ht' := (hb3.block (w.heap.size + 1) (by omega) (by omega)).trans ht
  have he' := (hb3.block (w.heap.size + 2) (by omega) (by omega)).trans he
  have hc2 : w'.cell? ⟨w.heap.size + 1, 0, none⟩ = some (.string (bs (nextV b).1)) := by simp [World.cell?, ht']
  have hc3 : w'.cell? ⟨w.heap.size + 1 + 1, 0, none⟩ = some (.int .i64 (nextV b).2.1) := by simp [World.cell?, he']
  have HF : Hid (Below w.heap.size w w') := by
    refine HB2.out.trans (Below.trans (b := w2) ⟨d1, d2, d3, by simp; omega, fun k hk => d5 k (by simp; omega) (by omega) (by omega)⟩ (hb3.below (by omega) (by omega)))
  have HN := Lib.hid hn
  clear ht he ht' he' d1 d2 d3 d4 d5 hb3 hn hsz
  obtain rfl := HN.out
  clear HN
  simp only
  go_wp2
  go_quiet (fail)
  go_wp2
  go_ret3
  exact ⟨rfl, below_drewN HF.out _⟩
end Go.Proofs.YthjbhnogndgojaaDoor
