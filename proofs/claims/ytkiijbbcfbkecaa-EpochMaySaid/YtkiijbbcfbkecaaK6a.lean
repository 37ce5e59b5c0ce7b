/- What one round of EpochMay's inner loop reads, as one fact in each of its six ways. -/
import Derived.Test.YtkiijbbcfbkecaaM5
import Derived.Test.YtkiijbbcfbkecaaP7
namespace Go.Proofs.Ytkiijbbcfbkecaa
open Go.RowKit
set_option linter.unusedVariables false

/-- What the round finds at entry i of a book and of the book made of it. -/
structure RF (wr : World) (i : Nat) (A A2 : Option Addr) (xb xo yb yo nl nv mv cx cy ex ey : Nat) (Ax Ay Bx By : Option Addr) (ver xep yep : Int) (xer yer : Bool) (S1 S3 : ByteArray) : Prop where
  hA : A = some ⟨xb, xo, none⟩
  hA2 : A2 = some ⟨yb, yo, none⟩
  hb : xb < wr.heap.size
  hb' : yb < wr.heap.size
  c1 : wr.cell? ⟨xb, xo + i * 5, none⟩ = some (.slice Ax nl cx)
  c2 : wr.cell? ⟨xb, xo + i * 5 + 1, none⟩ = some (.slice Ay nv cy)
  c3 : wr.cell? ⟨xb, xo + i * 5 + 2, none⟩ = some (.int .i64 ver)
  c4 : wr.cell? ⟨xb, xo + i * 5 + 3, none⟩ = some (.int .i64 xep)
  c5 : wr.cell? ⟨xb, xo + i * 5 + 4, none⟩ = some (.bool xer)
  ka0 : ∀ o : Obj, (wr.alloc o).cell? ⟨yb, yo + i * 5, none⟩ = some (.slice Bx nl ex)
  ka1 : ∀ o : Obj, (wr.alloc o).cell? ⟨yb, yo + i * 5 + 1, none⟩ = some (.slice By mv ey)
  ka2 : ∀ o : Obj, (wr.alloc o).cell? ⟨yb, yo + i * 5 + 2, none⟩ = some (.int .i64 ver)
  ka3 : ∀ o : Obj, (wr.alloc o).cell? ⟨yb, yo + i * 5 + 3, none⟩ = some (.int .i64 yep)
  ka4 : ∀ o : Obj, (wr.alloc o).cell? ⟨yb, yo + i * 5 + 4, none⟩ = some (.bool yer)
  v1 : ∀ o o' : Obj, (convert 26 9 (.slice Ax nl cx)).run Try.prog ((wr.alloc o).alloc o') = .ok (.string S1) ((wr.alloc o).alloc o')
  v2 : ∀ o o' : Obj, (convert 26 9 (.slice Bx nl ex)).run Try.prog ((wr.alloc o).alloc o') = .ok (.string S1) ((wr.alloc o).alloc o')
  v3 : ∀ o o' : Obj, (convert 26 9 (.slice Ay nv cy)).run Try.prog ((wr.alloc o).alloc o') = .ok (.string S3) ((wr.alloc o).alloc o')
  v4 : yer = false → ∀ o o' : Obj, (convert 26 9 (.slice By mv ey)).run Try.prog ((wr.alloc o).alloc o') = .ok (.string S3) ((wr.alloc o).alloc o')

theorem round_cps {P : Prop} {wr : World} {b b2 lo c c2 i : Nat} {A A2 : Option Addr} {xs xs2 : List Value} {k k2 : Bk} {e : Int}
    (d : OBox wr b lo A c xs k) (d2 : OBox wr b2 lo A2 c2 xs2 k2) (K : Kept k k2 e) (hi : i < k.ents.length)
    (h1 : ∀ xb xo yb yo nl nv mv cx cy ex ey Ax Ay Bx By ver ep S1 S3, (ep == 0) = false → RF wr i A A2 xb xo yb yo nl nv mv cx cy ex ey Ax Ay Bx By ver ep ep false false S1 S3 → P)
    (h2 : ∀ xb xo yb yo nl nv mv cx cy ex ey Ax Ay Bx By ver ep S1 S3, (ep == 0) = false → RF wr i A A2 xb xo yb yo nl nv mv cx cy ex ey Ax Ay Bx By ver ep ep false true S1 S3 → P)
    (h3 : ∀ xb xo yb yo nl nv mv cx cy ex ey Ax Ay Bx By ver ep S1 S3, (ep == 0) = false → RF wr i A A2 xb xo yb yo nl nv mv cx cy ex ey Ax Ay Bx By ver ep ep true true S1 S3 → P)
    (h4 : ∀ xb xo yb yo nl nv mv cx cy ex ey Ax Ay Bx By ver ep yp S1 S3, (ep == 0) = true → RF wr i A A2 xb xo yb yo nl nv mv cx cy ex ey Ax Ay Bx By ver ep yp false false S1 S3 → P)
    (h5 : ∀ xb xo yb yo nl nv mv cx cy ex ey Ax Ay Bx By ver ep yp S1 S3, (ep == 0) = true → RF wr i A A2 xb xo yb yo nl nv mv cx cy ex ey Ax Ay Bx By ver ep yp false true S1 S3 → P)
    (h6 : ∀ xb xo yb yo nl nv mv cx cy ex ey Ax Ay Bx By ver ep yp S1 S3, (ep == 0) = true → RF wr i A A2 xb xo yb yo nl nv mv cx cy ex ey Ax Ay Bx By ver ep yp true true S1 S3 → P) : P := by
  obtain ⟨xb, xo, x, Ax, cx, Ay, cy, hxe, hb, hx, c1, c2', c3, c4, c5, p1, p2, p3, s1, s2, s3⟩ := d.own.ents.at_ hi
  obtain ⟨y', hy', f1, f2, f3, f4, f5⟩ := K.at_ i x hx
  have hi2 : i < k2.ents.length := Nat.lt_of_lt_of_le hi K.le
  obtain ⟨yb, yo, y, Bx, ex, By, ey, hye, hb', hy, k1, k2', k3, k4, k5, p1', p2', p3', s1', s2', s3'⟩ := d2.own.ents.at_ hi2
  rw [hy'] at hy
  injection hy with hy
  subst hy
  obtain ⟨xl, xv, xver, xep, xer⟩ := x
  obtain ⟨yl, yv, yver, yep, yer⟩ := y'
  dsimp only at c1 c2' c3 c4 c5 p1 p2 p3 s1 s2 s3 k1 k2' k3 k4 k5 p1' p2' p3' s1' s2' s3' f1 f2 f3 f4 f5
  subst f1 f2
  have hBX : ∀ o o' : Obj, Below wr.heap.size wr ((wr.alloc o).alloc o') := fun o o' => bel_alloc (below_one wr o)
  have G : RF wr i A A2 xb xo yb yo yl.length xv.length yv.length cx cy ex ey Ax Ay Bx By yver xep yep xer yer ⟨yl.toArray⟩ ⟨xv.toArray⟩ :=
    ⟨hxe, hye, hb, hb', c1, c2', c3, c4, c5,
      fun o => (World.cell?_alloc_lt wr o ⟨yb, yo + i * 5, none⟩ hb').trans k1,
      fun o => (World.cell?_alloc_lt wr o ⟨yb, yo + i * 5 + 1, none⟩ hb').trans k2',
      fun o => (World.cell?_alloc_lt wr o ⟨yb, yo + i * 5 + 2, none⟩ hb').trans k3,
      fun o => (World.cell?_alloc_lt wr o ⟨yb, yo + i * 5 + 3, none⟩ hb').trans k4,
      fun o => (World.cell?_alloc_lt wr o ⟨yb, yo + i * 5 + 4, none⟩ hb').trans k5,
      fun o o' => conv_rd (p3.below (hBX o o')) cx,
      fun o o' => conv_rd (p3'.below (hBX o o')) ex,
      fun o o' => conv_rd (s3.below (hBX o o')) cy,
      fun hf o o' => by
        rcases f5 with h | h
        · rw [hf] at h; cases h
        · have h : yv = xv := h
          rw [← h]; exact conv_rd (s3'.below (hBX o o')) ey⟩
  cases hez : (xep == 0)
  · have hee : xep = yep := by
      rcases f3 with h | h
      · rw [h] at hez; cases hez
      · exact h
    subst hee
    cases yer
    · have hxe : xer = false := by cases xer <;> first | rfl | exact absurd (f4 rfl) (by simp)
      subst hxe
      exact h1 _ _ _ _ _ _ _ _ _ _ _ _ _ _ _ _ _ _ _ hez G
    · cases xer
      · exact h2 _ _ _ _ _ _ _ _ _ _ _ _ _ _ _ _ _ _ _ hez G
      · exact h3 _ _ _ _ _ _ _ _ _ _ _ _ _ _ _ _ _ _ _ hez G
  · cases yer
    · have hxe : xer = false := by cases xer <;> first | rfl | exact absurd (f4 rfl) (by simp)
      subst hxe
      exact h4 _ _ _ _ _ _ _ _ _ _ _ _ _ _ _ _ _ _ _ _ hez G
    · cases xer
      · exact h5 _ _ _ _ _ _ _ _ _ _ _ _ _ _ _ _ _ _ _ _ hez G
      · exact h6 _ _ _ _ _ _ _ _ _ _ _ _ _ _ _ _ _ _ _ _ hez G
end Go.Proofs.Ytkiijbbcfbkecaa
