import Derived.Test.YthjbhnogndgojaaDoorJournalE
import Derived.Test.YthjbhnogndgojaaDoorFrameK
namespace Go.Proofs.YthjbhnogndgojaaDoor
open Go.RowKit

/-- Where journals may lie: behind all that was there. -/
structure Base (w0 w : World) (M : List Nat) : Prop where
  old : ∀ x, x ∈ M → w0.heap.size ≤ x
  lt : ∀ x, x ∈ M → x < w.heap.size
  below : Below w0.heap.size w0 w
theorem Base.refl (w : World) : Base w w [] := ⟨by simp, by simp, Below.refl _ _⟩
theorem Base.size {w0 w : World} {M : List Nat} (h : Base w0 w M) : w0.heap.size ≤ w.heap.size := h.below.size
theorem Base.tab {w0 w : World} {M : List Nat} (h : Base w0 w M) (t : Tab w0.heap.size w0) : Tab w0.heap.size w := t.below h.below (Nat.le_refl _)
theorem Base.on {w0 w w' : World} {M : List Nat} (h : Base w0 w M) (k : Below w.heap.size w w') : Base w0 w' M :=
  ⟨h.old, fun x hx => Nat.lt_of_lt_of_le (h.lt x hx) k.size, h.below.trans (k.mono h.size)⟩
theorem Base.bar {w0 w w' : World} {M : List Nat} {p : Nat} (h : Base w0 w M) (hp : p ∈ M) (k : Bar [p] w w') : Base w0 w' M :=
  ⟨h.old, fun x hx => Nat.lt_of_lt_of_le (h.lt x hx) k.size, h.below.trans (k.below (fun x hx => by simp at hx; subst hx; exact h.old _ hp) h.size)⟩
theorem Base.new {w0 w w' : World} {M : List Nat} (h : Base w0 w M) (k : Below w.heap.size w w') (hl : w.heap.size < w'.heap.size) : Base w0 w' (w.heap.size :: M) :=
  ⟨fun x hx => by rcases List.mem_cons.1 hx with rfl | hx; exact h.size; exact h.old x hx, fun x hx => by rcases List.mem_cons.1 hx with rfl | hx; exact hl; exact (h.on k).lt x hx, (h.on k).below⟩
theorem Base.arg {w0 w : World} {M : List Nat} {α : Type} {d : Kd α} {v : Value} {xs : List α} (h : Base w0 w M) (s : d.S (vw w0 []) v xs) : d.S (vw w []) v xs := s.mono (vw_below h.below)
theorem JAt.below {T : TypeId} {M : List Nat} {w w' : World} {p : Nat} {s : Jn} (h : JAt T M w p s) (k : Below w.heap.size w w') : JAt T M w' p s := h.on (N := []) (Bar.of_below k) (by simp) (by simp)
theorem JAt.far {T : TypeId} {M : List Nat} {w w' : World} {p q : Nat} {s : Jn} (h : JAt T M w q s) (k : Bar [p] w w') (hp : p ∈ M) (hq : q ≠ p) : JAt T M w' q s := h.on k (by simpa using hp) (by simpa using hq)
theorem JAt.ptr {T : TypeId} {M : List Nat} {w : World} {p : Nat} {s : Jn} (h : JAt T M w p s) : p ∈ M := h.1
theorem drewN_below (w : World) (n : Nat) : Below w.heap.size w (w.drewN n) := below_drewN (Below.refl _ _) n
theorem alloc_below (w : World) (o : Obj) : Below w.heap.size w (w.alloc o) := (Below.refl _ _).alloc (Nat.le_refl _) o
theorem Below.then {w w1 w2 : World} (h : Below w.heap.size w w1) (k : Below w1.heap.size w1 w2) : Below w.heap.size w w2 := h.trans (k.mono h.size)

def K1 : List UInt8 := [50, 58, 97, 98, 59]
def K2 : List UInt8 := [50, 58, 97, 98, 59, 51, 58, 99, 100, 101, 59]
theorem ap1 : appendV (newV 100) (⟨#[97, 98]⟩ : ByteArray).data.toList = (⟨100, K1, 0, false⟩, 0) := by
  show appendV (newV 100) [97, 98] = _
  unfold appendV newV; simp only; rw [putV_ab]; simp [K1]
theorem putV_cde : putV K1 [99, 100, 101] = (K2, 0) := by
  have : frm [99, 100, 101] = [51, 58, 99, 100, 101, 59] := by
    unfold frm
    rw [Lib.itoa_nonneg, Lib.decDigits_one (by simp)]; rfl
  unfold putV; rw [this]; rfl
theorem ap2 : appendV ⟨100, K1, 5, false⟩ (⟨#[99, 100, 101]⟩ : ByteArray).data.toList = (⟨100, K2, 5, false⟩, 0) := by
  show appendV ⟨100, K1, 5, false⟩ [99, 100, 101] = _
  unfold appendV; simp only; rw [putV_cde]; simp [K2]
theorem all1 : allV K1 = ([[97, 98]], 5) := by
  unfold K1
  rw [allV_cons (by decide), show nextV [50, 58, 97, 98, 59] = ([97, 98], 5, 0) by decide]
  simp only [List.drop]
  rw [allV_nil (by decide)]
  rfl
theorem all2 : allV K2 = ([[97, 98], [99, 100, 101]], 11) := by
  unfold K2
  rw [allV_cons (by decide), show nextV [50, 58, 97, 98, 59, 51, 58, 99, 100, 101, 59] = ([97, 98], 5, 0) by decide]
  simp only [List.drop]
  rw [allV_cons (by decide), show nextV [51, 58, 99, 100, 101, 59] = ([99, 100, 101], 6, 0) by decide]
  simp only [List.drop]
  rw [allV_nil (by decide)]
  rfl
theorem all3 : allV (K2.take 9) = ([[97, 98]], 5) := by
  unfold K2
  simp only [List.take]
  rw [allV_cons (by decide), show nextV [50, 58, 97, 98, 59, 51, 58, 99, 100] = ([97, 98], 5, 0) by decide]
  simp only [List.drop]
  rw [allV_nil (by decide)]
  rfl
theorem sy1 : syncV ⟨100, K1, 0, false⟩ = ⟨100, K1, 5, false⟩ := rfl
theorem re2 : recordsV ⟨100, K2, 5, false⟩ = [[97, 98], [99, 100, 101]] := by unfold recordsV; rw [if_neg (by simp), all2]
theorem la2 : lastsV ⟨100, K2, 5, false⟩ = 1 := by
  unfold lastsV; rw [if_neg (by simp), show List.take 5 K2 = K1 from rfl, all1]; rfl
theorem cr2 : crashV ⟨100, K2, 5, false⟩ 4 = ⟨100, K2.take 9, 9, true⟩ := rfl
theorem ap3 (t : List UInt8) : appendV ⟨100, K2.take 9, 9, true⟩ t = (⟨100, K2.take 9, 9, true⟩, 16) := by unfold appendV; simp
theorem rc3 : recoverV ⟨100, K2.take 9, 9, true⟩ = (⟨100, K1, 5, false⟩, 1, 0) := by
  unfold recoverV; rw [if_neg (by simp)]; simp only [all3]; rfl
theorem rc4 : recoverV ⟨100, K1, 5, false⟩ = (⟨100, K1, 5, false⟩, 0, 17) := by unfold recoverV; simp
theorem re5 : recordsV ⟨100, K1, 5, false⟩ = [[97, 98]] := by unfold recordsV; rw [if_neg (by simp), all1]
theorem la5 : lastsV ⟨100, K1, 5, false⟩ = 1 := by
  unfold lastsV; rw [if_neg (by simp), show List.take 5 K1 = K1 from rfl, all1]; rfl
end Go.Proofs.YthjbhnogndgojaaDoor
