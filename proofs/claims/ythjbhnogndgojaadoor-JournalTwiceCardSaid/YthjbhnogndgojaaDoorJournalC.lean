import Derived.Test.YthjbhnogndgojaaDoorJournalB
namespace Go.Proofs.YthjbhnogndgojaaDoor
open Go.RowKit

theorem callFunc_app1 (args : Array Value) (w : World) : (callFunc 45 args).run Tryd.prog w = .ok (.enter 45 args) w := by
  simp [go_sem]
theorem JAt.less {T : TypeId} {M M' : List Nat} {w : World} {p : Nat} {s : Jn} (h : JAt T M w p s) (hp : p ∈ M') (hM : ∀ x, x ∈ M' → x ∈ M) : JAt T M' w p s := by
  obtain ⟨_, h2, A, c, h3, h4⟩ := h
  exact ⟨hp, h2, A, c, h3, h4.mono (vw_sub hM)⟩
theorem Bar.cut {M M' : List Nat} {w w' : World} (h : Bar M' w w') (hM : ∀ x, x ∈ M' → x ∈ M ∨ w.heap.size ≤ x) : Bar M w w' :=
  ⟨h.os, h.tape, h.output, h.size, fun k hk hn => h.block k hk (fun e => by rcases hM k e with h | h; exact hn h; omega)⟩
set_option maxHeartbeats 1000000 in
set_option maxRecDepth 100000 in
theorem jAppend_calls (B : Nat) (M : List Nat) (p : Nat) (s : Jn) (t : ByteArray) (w : World) (h : JAt 76 M w p s) (hM : ∀ x, x ∈ M → x < w.heap.size) (ht : t.size ≤ 140737488351232) (hB0 : B ≤ w.heap.size) (htab : Tab B w) :
    Calls Tryd.prog 23 #[.pointer (some ⟨p, 0, none⟩), .string t] w fun e w' => e = .returned (.int .i64 (appendV s t.data.toList).2) ∧ JAt 76 M w' p (appendV s t.data.toList).1 ∧ Bar [p] w w' := by
  have hmf : ∀ (fn : Fn) (first cap : Array Value) (w : World), (Instr.makeFunc fn first cap).run Tryd.prog w = .ok (.func fn first cap) w := fun _ _ _ _ => rfl
  have HJ := Lib.hid h
  have HM := Lib.hid hM
  have HT := Lib.hid htab
  clear h hM htab
  go_enter Tryd.func23, Tryd.ntmps23
  go_wp2_with fail
  obtain ⟨W, hW⟩ : ∃ W : World, W = ((w.alloc (.cells #[.pointer (some ⟨p, 0, none⟩)] 45)).alloc (.cells #[.string t] 9)) := ⟨_, rfl⟩
  rw [← hW]
  have hsz : W.heap.size = w.heap.size + 2 := by rw [hW]; simp
  have b1 : W.heap[w.heap.size]? = some (.cells #[.pointer (some ⟨p, 0, none⟩)] 45 (0, 0)) := by
    rw [hW, blk_old _ _ (by simp)]; exact blk_last _ _
  have b2 : W.heap[w.heap.size + 1]? = some (.cells #[.string t] 9 (0, 0)) := by
    rw [hW, show w.heap.size + 1 = (w.alloc (.cells #[.pointer (some ⟨p, 0, none⟩)] 45)).heap.size by simp]; exact blk_last _ _
  have hB : Below w.heap.size w W := by
    rw [hW]; exact ((Below.refl _ _).alloc (Nat.le_refl _) _).alloc (by simp) _
  have hB2 : Below w.heap.size w (W.alloc (.cells #[.int .i64 0] 24)) := hB.alloc (by omega) _
  have hpl := HJ.out.lt
  have hmem := HJ.out.1
  have hJ1 : JAt 76 (W.heap.size :: M) (W.alloc (.cells #[.int .i64 0] 24)) p s := HJ.out.more hB2 (by omega)
  refine (try_calls _ _ _ (fun n w' => n = (appendV s t.data.toList).2 ∧ JAt 76 (W.heap.size :: M) w' p (appendV s t.data.toList).1 ∧ Bar [p] (W.alloc (.cells #[.int .i64 0] 24)) w') (callFunc_app1 _) ((jApp1_calls B (W.heap.size :: M) p s t _ hJ1 (fun x hx => by
      rcases List.mem_cons.1 hx with rfl | hx
      · simp
      · have := HM.out x hx; simp; omega) w.heap.size (w.heap.size + 1)
    ((blk_old _ _ (by omega)).trans b1) ((blk_old _ _ (by omega)).trans b2) ht (by simp; omega) (HT.out.below (hB2.mono hB0) (Nat.le_refl _))).mono ?_)).mono ?_
  · rintro e w' ⟨h1, h2, h3⟩
    refine ⟨h2.block _ (by simp) (by simp; omega), ?_⟩
    rcases h3 with ⟨hn, rfl⟩ | ⟨hn, rfl⟩
    · exact .inl ⟨_, rfl, hn.symm, h1, h2⟩
    · exact .inr ⟨_, hn, rfl, rfl, h1, h2⟩
  clear hB b1 b2 hW hJ1
  rintro e w' ⟨n, w2, rfl, ⟨rfl, h1, h2⟩, hb3⟩
  have hbut : Bar [W.heap.size] w2 w' := Bar.of_but hb3 (by simp)
  have HJ2 : Hid (JAt 76 M w' p (appendV s t.data.toList).1) := (h1.on hbut (by simp) (by simp; omega)).less hmem (fun x hx => List.mem_cons_of_mem _ hx)
  have HBR : Hid (Bar [p] w w') := Bar.cut (M' := [p, W.heap.size]) (((Bar.of_below hB2).trans (h2.sub (by simp))).trans (hbut.sub (by simp))) (fun x hx => by
    simp at hx
    rcases hx with rfl | rfl
    · exact .inl (by simp)
    · exact .inr (by omega))
  clear hB2 h1 h2 hb3 hbut hsz
  go_wp2
  go_ret
  exact ⟨rfl, HJ2.out, HBR.out⟩
end Go.Proofs.YthjbhnogndgojaaDoor
