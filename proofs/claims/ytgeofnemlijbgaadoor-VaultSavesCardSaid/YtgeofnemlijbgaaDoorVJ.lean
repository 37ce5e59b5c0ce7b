/- A plan's writes in a box; what the plan's regions make. -/
import Derived.Test.YtgeofnemlijbgaaDoorVN2
namespace Go.Proofs.YtgeofnemlijbgaaDoor
open Go.RowKit Go.Shelf
set_option linter.unusedVariables false

/-- Writes in a box, in memory of the call's own. -/
def PBox (w : World) (n₀ g : Nat) (l : List Wr) : Prop := ∃ A c xs, Blk w g 32 #[.slice A l.length c] ∧ OwnW w n₀ (.slice A l.length c) xs l
section
variable {w w' : World} {n₀ g : Nat} {l : List Wr}
theorem PBox.below (h : PBox w n₀ g l) (hb : Below w.heap.size w w') : PBox w' n₀ g l := by
  obtain ⟨A, c, xs, h1, h2⟩ := h
  exact ⟨A, c, xs, h1.below hb h1.lt, h2.below hb⟩
theorem PBox.alloc (h : PBox w n₀ g l) (o : Obj) : PBox (w.alloc o) n₀ g l := h.below (below_one w o)
theorem PBox.drew (h : PBox w n₀ g l) : PBox w.drew n₀ g l := by
  obtain ⟨A, c, xs, h1, h2⟩ := h
  exact ⟨A, c, xs, h1.drew, h2.drew⟩
theorem PBox.turned (h : PBox w n₀ g l) {row : Option Nat} (hg : w.grownBy w' row) (hr : ∀ r, row = some r → ∃ o : Obj, w.heap[r]? = some o ∧ o.isCells = false) : PBox w' n₀ g l := by
  obtain ⟨A, c, xs, h1, h2⟩ := h
  exact ⟨A, c, xs, blk_own h1 hg hr, h2.turned hg hr⟩
end
theorem own_two (w : World) (base : Nat) (hb : base ≤ w.heap.size) (x y : Value) : (w.alloc (.cells #[x, y] 60)).ownsRow base 60 2 (.slice (some ⟨w.heap.size, 0, none⟩) 1 1) 1 [x, y] :=
  World.ownsRow_lit (e := 60) (size := 2) w #[x, y] 1 hb (by unfold maxLen; omega) rfl
theorem ownW_one {w : World} {base : Nat} {V v : Value} {x : Wr} (hw : w.ownsRow base 60 2 V 1 [.int .i64 x.1, v]) (hz : w.ownsRow base 5 1 v x.2.length (bvs x.2)) : OwnW w base V [.int .i64 x.1, v] [x] :=
  ⟨hw, fun i y hy => by
    have hi : i = 0 := by
      have := (List.getElem?_eq_some_iff.1 hy).1
      simp at this
      omega
    subst hi
    have e : x = y := by simpa using hy
    subst e
    exact ⟨rfl, v, rfl, hz⟩⟩
/-- A first write of zeros in its box: the memory made in any of three orders. -/
theorem plan_a (W : World) (n₀ : Nat) (a : Int) (hn : n₀ ≤ W.heap.size) :
    PBox (((W.alloc (.cells z64 5)).alloc (.cells #[.int .i64 a, .slice (some ⟨W.heap.size, 0, none⟩) 64 64] 60)).alloc (.cells #[.slice (some ⟨W.heap.size + 1, 0, none⟩) 1 1] 32)).drew n₀ (W.heap.size + 1 + 1) [(a, zeros 64)] := by
  have z := own_z64 W n₀ hn
  have t := own_two (W.alloc (.cells z64 5)) n₀ (by simp; omega) (.int .i64 a) (.slice (some ⟨W.heap.size, 0, none⟩) 64 64)
  have b := Blk.new ((W.alloc (.cells z64 5)).alloc (.cells #[.int .i64 a, .slice (some ⟨W.heap.size, 0, none⟩) 64 64] 60)) 32 #[.slice (some ⟨W.heap.size + 1, 0, none⟩) 1 1]
  simp only [World.size_alloc] at t b
  exact ⟨_, _, _, b.drew, ownW_one (x := (a, zeros 64)) (t.alloc _) ((z.alloc _).alloc _)⟩
theorem plan_b (W : World) (n₀ : Nat) (a : Int) (hn : n₀ ≤ W.heap.size) :
    PBox (((W.alloc (.cells z64 5)).alloc (.cells #[.slice (some ⟨W.heap.size + 1 + 1, 0, none⟩) 1 1] 32)).alloc (.cells #[.int .i64 a, .slice (some ⟨W.heap.size, 0, none⟩) 64 64] 60)).drew n₀ (W.heap.size + 1) [(a, zeros 64)] := by
  have z := own_z64 W n₀ hn
  have t := own_two ((W.alloc (.cells z64 5)).alloc (.cells #[.slice (some ⟨W.heap.size + 1 + 1, 0, none⟩) 1 1] 32)) n₀ (by simp; omega) (.int .i64 a) (.slice (some ⟨W.heap.size, 0, none⟩) 64 64)
  have b := Blk.new (W.alloc (.cells z64 5)) 32 #[.slice (some ⟨W.heap.size + 1 + 1, 0, none⟩) 1 1]
  simp only [World.size_alloc] at t b
  exact ⟨_, _, _, (b.alloc _).drew, ownW_one (x := (a, zeros 64)) t ((z.alloc _).alloc _)⟩
theorem plan_c (W : World) (n₀ : Nat) (a : Int) (hn : n₀ ≤ W.heap.size) :
    PBox (((W.alloc (.cells #[.slice (some ⟨W.heap.size + 1 + 1, 0, none⟩) 1 1] 32)).alloc (.cells z64 5)).alloc (.cells #[.int .i64 a, .slice (some ⟨W.heap.size + 1, 0, none⟩) 64 64] 60)).drew n₀ W.heap.size [(a, zeros 64)] := by
  have z := own_z64 (W.alloc (.cells #[.slice (some ⟨W.heap.size + 1 + 1, 0, none⟩) 1 1] 32)) n₀ (by simp; omega)
  have t := own_two ((W.alloc (.cells #[.slice (some ⟨W.heap.size + 1 + 1, 0, none⟩) 1 1] 32)).alloc (.cells z64 5)) n₀ (by simp; omega) (.int .i64 a) (.slice (some ⟨W.heap.size + 1, 0, none⟩) 64 64)
  have b := Blk.new W 32 #[.slice (some ⟨W.heap.size + 1 + 1, 0, none⟩) 1 1]
  simp only [World.size_alloc] at t z
  exact ⟨_, _, _, ((b.alloc _).alloc _).drew, ownW_one (x := (a, zeros 64)) t (z.alloc _)⟩
/-- One more write, of bytes of the call's own, appended, and stored in its box. -/
theorem PBox.next {W Y w9 : World} {n₀ g c0 c9 : Nat} {A0 A9 : Option Addr} {xs : List Value} {l : List Wr} {v : Value} {x : Wr} (hng : n₀ ≤ g) (hnW : n₀ ≤ W.heap.size) (hlb : Blk W g 32 #[.slice A0 l.length c0]) (hO : OwnW W n₀ (.slice A0 l.length c0) xs l)
    (hY : Below W.heap.size W Y) (hv : Y.ownsRow n₀ 5 1 v x.2.length (bvs x.2))
    (hown9 : w9.ownsRow n₀ 60 2 (.slice A9 (l.length + 1) c9) (l.length + 1) (xs ++ [.int .i64 x.1, v]))
    (hgr9 : (Y.alloc (.cells #[.int .i64 x.1, v] 60)).grownBy w9 (Value.slice A0 l.length c0).ownBlock) :
    PBox (w9.setCell ⟨g, 0, none⟩ (.slice A9 (l.length + 1) c9)) n₀ g (l ++ [x]) ∧ Below n₀ W (w9.setCell ⟨g, 0, none⟩ (.slice A9 (l.length + 1) c9)) ∧ W.heap.size ≤ w9.heap.size ∧
      (∀ b t cs, t ≠ 60 → t ≠ 32 → Blk W b t cs → Blk (w9.setCell ⟨g, 0, none⟩ (.slice A9 (l.length + 1) c9)) b t cs) ∧
      KeepsOthers Y (w9.setCell ⟨g, 0, none⟩ (.slice A9 (l.length + 1) c9)) := by
  have hl : (l ++ [x]).length = l.length + 1 := by simp
  have oY := (hO.below hY).alloc (.cells #[.int .i64 x.1, v] 60)
  have far : ∀ {b : Nat} {t : TypeId} {cs : Array Value}, t ≠ 60 → Blk W b t cs → Blk w9 b t cs := fun {b t cs} hne hb =>
    blk_far hgr9 ((hb.below hY hb.lt).alloc _) oY.outer (fun e => hne e.symm)
  have p9 := oY.push (x := x) (hv.alloc _) hown9 hgr9
  have b9 := far (by decide) hlb
  have hrow : ∀ k, (Value.slice A0 l.length c0).ownBlock = some k → n₀ ≤ k := fun k e => by obtain ⟨_, _, hh, _⟩ := own_block hO.outer e; exact hh
  have bW : Below n₀ W (Y.alloc (.cells #[.int .i64 x.1, v] 60)) := (hY.mono hnW).alloc (Nat.le_trans hnW hY.size) _
  have bW9 : Below n₀ W w9 := bW.grown hgr9 (Nat.le_trans hnW bW.size) hrow
  refine ⟨⟨A9, c9, xs ++ [.int .i64 x.1, v], ?_, ?_⟩, bW9.setCell (p := ⟨g, 0, none⟩) hng _, bW9.size, fun b t cs h1 h2 hb => (far h1 hb).far (p := ⟨g, 0, none⟩) (blk_ne hb hlb h2) _, ?_⟩
  · rw [hl]
    have := b9.set_ 0 (.slice A9 (l.length + 1) c9)
    simpa using this
  · rw [hl]
    exact p9.grownB (grown_setCell w9 ⟨g, 0, none⟩ _) b9 (by decide) (by decide)
  · refine KeepsOthers.trans (KeepsOthers.alloc _ _) (KeepsOthers.trans (KeepsOthers.of_grownBy hgr9 (fun j o e ho => ?_)) (KeepsOthers.setCell _ _ _))
    obtain ⟨cur, hh, _⟩ := own_block oY.outer e
    rw [hh] at ho
    injection ho with ho
    subst ho
    rfl
/-- What holds between the rounds: the writes in their box; the disk's, the place's, the text's boxes. -/
structure PlI (w W : World) (gp ga gx z : Nat) (DC AC TC : Array Value) (l : List Wr) : Prop where
  pb : PBox W w.heap.size gp l
  db : Blk W w.heap.size 24 DC
  ab : Blk W ga 3 AC
  xb : Blk W gx 25 TC
  bel : Below w.heap.size w W
  sz : z ≤ W.heap.size
section
variable {w W W' : World} {gp ga gx z : Nat} {DC AC TC : Array Value} {l : List Wr}
theorem PlI.turned (h : PlI w W gp ga gx z DC AC TC l) {row : Option Nat} (hg : W.grownBy W' row) (hr : ∀ r, row = some r → w.heap.size ≤ r ∧ ∃ o : Obj, W.heap[r]? = some o ∧ o.isCells = false) : PlI w W' gp ga gx z DC AC TC l := by
  have hr' := fun r e => (hr r e).2
  exact ⟨h.pb.turned hg hr', blk_own h.db hg hr', blk_own h.ab hg hr', blk_own h.xb hg hr', h.bel.grown hg h.bel.size (fun k e => (hr k e).1), Nat.le_trans h.sz hg.size⟩
theorem PlI.after (h : PlI w W gp ga gx z DC AC TC l) (hb : Below W.heap.size W W') : PlI w W' gp ga gx z DC AC TC l :=
  ⟨h.pb.below hb, h.db.below hb h.db.lt, h.ab.below hb h.ab.lt, h.xb.below hb h.xb.lt, keepB hb h.bel, Nat.le_trans h.sz hb.size⟩
/-- A write more, whose bytes lay already. -/
theorem PlI.next {w9 : World} {A0 A9 : Option Addr} {c0 c9 : Nat} {xs : List Value} {v : Value} {x : Wr} (h : PlI w W gp ga gx z DC AC TC l) (hgp : w.heap.size ≤ gp) (hlb : Blk W gp 32 #[.slice A0 l.length c0]) (hO : OwnW W w.heap.size (.slice A0 l.length c0) xs l)
    (hv : W.ownsRow w.heap.size 5 1 v x.2.length (bvs x.2))
    (hown9 : w9.ownsRow w.heap.size 60 2 (.slice A9 (l.length + 1) c9) (l.length + 1) (xs ++ [.int .i64 x.1, v]))
    (hgr9 : (W.alloc (.cells #[.int .i64 x.1, v] 60)).grownBy w9 (Value.slice A0 l.length c0).ownBlock) :
    KeepsOthers W (w9.setCell ⟨gp, 0, none⟩ (.slice A9 (l.length + 1) c9)) ∧ KpP w.heap.size gx W (w9.setCell ⟨gp, 0, none⟩ (.slice A9 (l.length + 1) c9)) ∧ PlI w (w9.setCell ⟨gp, 0, none⟩ (.slice A9 (l.length + 1) c9)) gp ga gx z DC AC TC (l ++ [x]) := by
  obtain ⟨g1, g2, g3, g4, g5⟩ := PBox.next hgp h.bel.size hlb hO (Below.refl _ _) hv hown9 hgr9
  have hx := g4 gx _ _ (by decide) (by decide) h.xb
  refine ⟨g5, ⟨g2, ?_⟩, ⟨g1, g4 _ _ _ (by decide) (by decide) h.db, g4 _ _ _ (by decide) (by decide) h.ab, hx, h.bel.trans g2, by have := h.sz; simp; omega⟩⟩
  have h2 := h.xb
  unfold Blk at hx h2
  exact hx.trans h2.symm
end
theorem kpp_turn {n₀ Bb : Nat} {w : World} (hn : n₀ ≤ w.heap.size) (h1 : Bb < w.heap.size) (W : World) (l : Nat) (o o' : Obj) (hl : w.heap.size ≤ l) (hw : W.heap[l]? = some o) (hc : o.isCells = false) (hk : o.isWalk = false) : KpP n₀ Bb W (W.putObj l o') := by
  have hlt := (Array.getElem?_eq_some_iff.1 hw).1
  exact ⟨belowK_b hn W l o o' hl hw hc hk, (grownBy_putObj' W l o').block _ (by omega) (by simp; omega)⟩
theorem tp_turn {n₀ : Nat} {t : List UInt8} (pre : List (Nat × Nat)) (x : Nat × Nat) (W : World) (l : Nat) (o o' : Obj) (h : TP n₀ t pre x W) (hl : W.heap[l]? = some o) (hc : o.isCells = false) : TP n₀ t pre x (W.putObj l o') := by
  refine ⟨h.1, h.2.1, h.2.2.kept (grownBy_putObj' W l o') (.inr fun e => ?_)⟩
  obtain ⟨cur, hh, _⟩ := own_block h.2.2 (g := l) e
  rw [hl] at hh
  injection hh with hh
  subst hh
  cases hc
theorem own_rd2 (W : World) (a b : Value) (t : TypeId) : Rd (W.alloc (.cells #[a, b] t)) (W.heap.size + 1) (some ⟨W.heap.size, 0, none⟩) (1 * 2) [a, b] := rd_new2 W a b t
theorem sm_check {ss : List (List UInt8)} (h : checkB ss = true) : Sm ss := ⟨(checkB_len h).2, fun i l hl => by rw [checkB_at h hl]; decide⟩
/-- A disk of the call's own, stored in a box. -/
theorem beh_close {W Y : World} {gb base : Nat} {A1 : Option Addr} {c1 : Nat} {vs : List Value} {D : Dsk} {x0 x1 x2 x3 x4 : Value} (hB : Below W.heap.size W Y) (hb : Blk Y gb 24 #[x0, x1, x2, x3, x4]) (hg : W.heap.size ≤ gb) (hO : OwnS Y base (.slice A1 D.secs.length c1) vs D.secs) :
    Below W.heap.size W (set5 Y gb (.slice A1 D.secs.length c1) (.int .i64 D.left) (.int .i64 D.torn) (.bool D.off) (.int .i64 D.done)) ∧ DBox (set5 Y gb (.slice A1 D.secs.length c1) (.int .i64 D.left) (.int .i64 D.torn) (.bool D.off) (.int .i64 D.done)) gb A1 c1 D := by
  have h1 := set5_grown Y gb (.slice A1 D.secs.length c1) (.int .i64 D.left) (.int .i64 D.torn) (.bool D.off) (.int .i64 D.done)
  obtain ⟨A', c', e, e1, e2⟩ := own_form hO.outer
  injection e with ea _ ec
  subst ea
  subst ec
  exact ⟨hB.grown h1 hB.size (fun k e => by injection e with e; omega), set5_blk hb _ _ _ _ _, (hO.grownB h1 hb (by decide) (by decide)).bss, e1, e2⟩
theorem wr_one2 {w : World} {base n : Nat} {xs : List Value} (x : Int) {v : Value} (h : w.ownsRow base 5 1 v n xs) : ∀ u ∈ [Value.int .i64 x, v], u.oneCell' = true := by
  obtain ⟨A, c, rfl, _, _⟩ := own_form h
  exact wr_one x A n c
theorem scrub_len {d : Dsk} (h : d.secs.length ≤ 2048) : (scrubD d).1.length ≤ 5000 := by
  unfold scrubD
  split
  · rename_i hck
    obtain ⟨g1, g2, g3, g4⟩ := halfD_eq hck
    split
    · rename_i k n m hn
      have h1 := dts_len d.secs (atD d (1 - k)) (halfD d)
      have h2 := dts_len d.secs (atD d k + 1 + (m + 63) / 64) (halfD d - 1 - (m + 63) / 64)
      simp only [List.length_append, wipe_len]
      omega
    · simp
  · simp
theorem wrs_one {w : World} {base : Nat} {V : Value} {xs : List Value} {l : List Wr} (h : OwnW w base V xs l) : ∀ u ∈ xs, u.oneCell' = true := by
  intro u hu
  obtain ⟨j, hj⟩ := List.getElem?_of_mem hu
  have hlen := h.len
  have hjl := (List.getElem?_eq_some_iff.1 hj).1
  obtain ⟨x, hx⟩ : ∃ x, l[j / 2]? = some x := ⟨_, List.getElem?_eq_getElem (by omega)⟩
  obtain ⟨g1, v, g2, g3⟩ := h.inner _ _ hx
  obtain ⟨A, c, e, _, _⟩ := own_form g3
  rcases (by omega : j = j / 2 * 2 ∨ j = j / 2 * 2 + 1) with e1 | e1
  · rw [e1, g1] at hj
    injection hj with hj
    subst hj
    rfl
  · rw [e1, g2] at hj
    injection hj with hj
    subst hj
    rw [e]
    rfl
/-- Where nothing panics nor leaves, nothing need be said of it. -/
theorem wp_calm {P : Program} {c : Code} {K : Act → World → Prop} {Q' : Exit → Act → World → Prop} {a : Act} {w : World} (h : c.wp P (Exit.then K (fun _ _ _ => False)) a w) : c.wp P (Exit.then K Q') a w := by
  refine wp_mono h ?_
  intro e a' w' hq
  cases e with
  | normal => exact hq
  | exit id => exact hq.elim
  | goto l => exact hq.elim
  | ret => exact hq.elim
  | panic ch => exact hq.elim
  | outgrown => exact hq.elim
end Go.Proofs.YtgeofnemlijbgaaDoor
