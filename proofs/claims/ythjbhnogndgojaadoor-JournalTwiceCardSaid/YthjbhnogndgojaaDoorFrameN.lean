import Derived.Test.YthjbhnogndgojaaDoorFrameM
namespace Go.Proofs.YthjbhnogndgojaaDoor
open Go.RowKit

theorem cat_le (l : List (List UInt8)) (n : Nat) (hn : n ≤ 4096) (h : ∀ t ∈ l, t.length ≤ n) : (cat l).length ≤ l.length * (n + 23) := by
  induction l with
  | nil => simp [cat]
  | cons t r ih =>
    have h1 := frm_le t (by have := h t (by simp); omega)
    have h2 := h t (by simp)
    have h3 := ih (fun x hx => h x (by simp [hx]))
    simp only [cat, List.length_append, List.length_cons, Nat.add_mul]
    omega
/-- The bytes of texts. -/
def raw (a : List ByteArray) : List (List UInt8) := a.map fun s => s.data.toList
theorem raw_bs (a : List ByteArray) : (raw a).map bs = a := by
  unfold raw; rw [List.map_map]
  conv => rhs; rw [← List.map_id a]
  apply List.map_congr_left
  intro s _; exact bs_list s
theorem raw_len (s : ByteArray) : s.data.toList.length = s.size := by rw [Array.length_toList]; rfl
theorem putV_ok (b t : List UInt8) (h : t.length ≤ 4096) : putV b t = (b ++ frm t, 0) := by
  unfold putV; rw [if_neg (by omega)]
theorem cat_snoc {a : List ByteArray} {k : Nat} (hk : k < a.length) : cat (raw (a.take (k + 1))) = cat (raw (a.take k)) ++ frm a[k].data.toList := by
  rw [List.take_succ_eq_append_getElem hk]
  unfold raw
  rw [List.map_append, cat_append]
  simp [cat]

set_option maxHeartbeats 2000000 in
set_option maxRecDepth 100000 in
theorem FrameNest_calls (v : Value) (a : List ByteArray) (w : World) (hs : Kd.str.S (vw w []) v a) (htab : Tab w.heap.size w) :
    Calls Tryd.prog 6 #[v] w fun e w' => e = .returned (.bool true) ∧ Below w.heap.size w w' := by
  have HT := Lib.hid htab
  obtain ⟨A, cap, rfl, hcap, hlen, hnil, hcell⟩ := id hs
  have HS := Lib.hid hs
  clear htab hcell hnil hs
  go_enter Tryd.func6, Tryd.ntmps6
  go_wp2_with fail
  refine (known_calls w.heap.size w (Nat.le_refl _) HT.out).mono ?_
  rintro e w1 ⟨rfl, hb1⟩
  have HB1 := Lib.hid hb1
  have z1 := hb1.size
  clear hb1
  by_cases c1 : 10 < a.length
  · go_wp2
    go_ret
    exact ⟨rfl, HB1.out⟩
  go_wp2
  go_loopw [3, 4] (fun o i wr => ∃ (k : Nat) (B : Option Addr) (c : Nat), k ≤ a.length ∧ i = .int .i64 k ∧ o = .slice B (cat (raw (a.take k))).length c ∧ Hid (Kd.u8.S (vw wr []) (.slice B (cat (raw (a.take k))).length c) (cat (raw (a.take k)))) ∧ Hid (Below w.heap.size w wr) ∧ Hid (∀ x ∈ a.take k, x.size ≤ 200)) (fun _ i _ => a.length - (intOf i).toNat)
  case atStart => exact ⟨0, none, 0, Nat.zero_le _, rfl, rfl, Kd.S.nil _ _, HB1.out, fun x hx => by simp at hx⟩
  case round =>
    obtain ⟨k, B, c, hk, rfl, rfl, SB, HB, H2⟩ := hrel
    have HS2 := Lib.hid (HS.out.mono (vw_below HB.out))
    have z2 := HB.out.size
    have hcl := cat_le (raw (a.take k)) 200 (by omega) (fun t ht => by
      obtain ⟨x, hx, rfl⟩ := List.mem_map.1 ht
      rw [raw_len]; exact H2.out x hx)
    have hcl2 : (cat (raw (a.take k))).length ≤ 2230 := by
      have h1 : (raw (a.take k)).length ≤ 10 := by unfold raw; rw [List.length_map, List.length_take]; omega
      have : (raw (a.take k)).length * (200 + 23) ≤ 10 * (200 + 23) := Nat.mul_le_mul_right _ h1
      omega
    clear hcl
    by_cases hlt : k < a.length
    · obtain ⟨g, off, rfl, hc, hp⟩ := HS2.out.elem1 k hlt
      by_cases c2 : 200 < a[k].size
      · go_wp2
        go_ret
        exact ⟨rfl, HB.out⟩
      · have HC := Lib.hid (cat_snoc hlt)
        have hl := raw_len a[k]
        have HP := Lib.hid (putV_ok (cat (raw (a.take k))) a[k].data.toList (by omega))
        have H3 : Hid (∀ x ∈ a.take (k + 1), x.size ≤ 200) := by
          show ∀ x ∈ a.take (k + 1), x.size ≤ 200
          intro x hx
          rw [List.take_succ_eq_append_getElem hlt] at hx
          rcases List.mem_append.1 hx with h | h
          · exact H2.out x h
          · have : x = a[k] := by simpa using h
            subst this; omega
        clear hl
        go_wp2_with fail
        refine (put_S w.heap.size _ _ a[k] _ SB.out (by omega) (by omega) z2 (HT.out.below HB.out (Nat.le_refl _))).mono ?_
        rw [HP.out, ← HC.out]
        rintro e w2 ⟨A2, cap2, rfl, s2, hb2⟩
        have S2 := Lib.hid s2
        have HB2 := Lib.hid (HB.out.trans (hb2.mono z2))
        clear s2 hb2 SB HP
        go_wp2
        go_roundw
        case rel => exact ⟨k + 1, A2, cap2, by omega, by go_num, rfl, S2.out, HB2.out, H3.out⟩
        case measure => simp [intOf]; omega
    · obtain rfl : k = a.length := by omega
      clear hlt hk
      have SB' := Lib.hid SB.out
      rw [List.take_length] at *
      have H4 : Hid (∀ t ∈ raw a, t.length ≤ 4096) := by
        show ∀ t ∈ raw a, t.length ≤ 4096
        intro t ht
        obtain ⟨x, hx, rfl⟩ := List.mem_map.1 ht
        rw [raw_len]; have := H2.out x hx; omega
      have HA2 : Hid (allV (cat (raw a)) = (raw a, (cat (raw a)).length)) := allV_cat _ H4.out
      clear SB
      obtain ⟨x, hx⟩ : ∃ x, cat (raw a) = x := ⟨_, rfl⟩
      rw [hx] at hcl2 SB' HA2 ⊢
      clear hx
      have hcv := conv_all SB'.out
      have hfl := frm_le x (by omega)
      have HF := Lib.hid (allV_cat [x] (by simp; omega))
      simp only [cat, List.append_nil] at HF
      obtain ⟨f, hf⟩ : ∃ f, frm x = f := ⟨_, rfl⟩
      have HP : Hid (putV [] x = (f, 0)) := by show putV [] x = _; rw [putV_ok [] x (by omega), hf]; rfl
      rw [hf] at HF hfl
      clear hf
      go_wp2_with fail
      refine (put_S w.heap.size _ [] (bs x) _ (Kd.S.nil _ _) (by simp) (by rw [bs_size]; omega) z2 (HT.out.below HB.out (Nat.le_refl _))).mono ?_
      rw [show (bs x).data.toList = x by simp [bs], HP.out]
      rintro e w2 ⟨A2, cap2, rfl, s2, hb2⟩
      have S2 := Lib.hid s2
      have HB2 := Lib.hid (HB.out.trans (hb2.mono z2))
      have HS3 := Lib.hid (HS2.out.mono (vw_below hb2))
      have z3 := HB2.out.size
      clear s2 hb2 HP
      go_wp2_with fail
      refine (all_S _ f _ S2.out (by omega)).mono ?_
      rw [HF.out]
      rintro e w3 ⟨A3, cap3, rfl, s3, hb3⟩
      obtain ⟨g, off, rfl, hc, _⟩ := s3.elem1 0 (by simp)
      rw [Nat.add_zero] at hc
      have hc' : w3.cell? ⟨g, off, none⟩ = some (.string (bs x)) := hc
      have HB3 := Lib.hid (HB2.out.trans (hb3.mono z3))
      have HS4 := Lib.hid (HS3.out.mono (vw_below hb3))
      have z4 := HB3.out.size
      obtain ⟨cap4, o, hcv4, s4⟩ := bytes_laid w3 (bs x) (by rw [bs_size]; omega)
      have S4 := Lib.hid s4
      clear s3 hb3 HF s4 hc HS3 hcv
      go_wp2_with fail
      refine (all_S _ x _ ?S4 (by omega)).mono ?_
      · have := S4.out
        rw [show (bs x).data.toList = x by simp [bs]] at this
        exact this
      rw [HA2.out]
      rintro e w4 ⟨A4, cap5, rfl, s5, hb5⟩
      have HB4 := Lib.hid (HB3.out.trans ((((Below.refl _ _).alloc (Nat.le_refl _) o).drew.trans (hb5.mono (by show _ ≤ (w3.alloc o).heap.size; simp))).mono z4))
      have HS5 := Lib.hid (HS4.out.mono (vw_below (((Below.refl _ _).alloc (Nat.le_refl _) o).drew.trans (hb5.mono (by show _ ≤ (w3.alloc o).heap.size; simp)))))
      rw [raw_bs] at s5
      have S5 := Lib.hid s5
      clear s5 hb5 S4 HS4 HA2
      go_wp2_with fail
      refine (Names_calls _ _ a a _ S5.out HS5.out).mono ?_
      rintro e w5 ⟨n, rfl, rfl⟩
      simp only [decide_true]
      go_wp2
      go_ret
      exact ⟨rfl, below_drewN HB4.out _⟩
end Go.Proofs.YthjbhnogndgojaaDoor
