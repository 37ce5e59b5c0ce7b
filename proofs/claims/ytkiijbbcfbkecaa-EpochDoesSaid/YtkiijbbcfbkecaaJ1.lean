/- epoch.change, over whatever is done to the book. -/
import Derived.Test.YtkiijbbcfbkecaaF5
namespace Go.Proofs.Ytkiijbbcfbkecaa
open Go.RowKit
set_option linter.unusedVariables false

/-- What 'do' hands back: an error, and all below base as it was; or the book kf in the box bc. -/
def DoRet (Kp : World → Prop) (base bc z : Nat) (kf : Bk) (ef : Int) (W : World) (e : Ending) (w' : World) : Prop :=
  e = .returned (.int .i64 ef) ∧ (ef ≠ 0 → Below base W w') ∧
  (ef = 0 → ∃ A c xs, Blk w' bc 25 #[.slice A kf.ents.length c, .int .i64 kf.eps] ∧ OwnE w' base (.slice A kf.ents.length c) xs kf.ents ∧ Kp w' ∧ Blk w' z 25 zbk)
abbrev withErr (x : Int) (v : Value) : Value := .tuple #[v, .int .i64 x]
/-- What change hands back. -/
def ChRet (Kp : World → Prop) (w : World) (k kf : Bk) (ef : Int) (e : Ending) (w' : World) : Prop :=
  (ef ≠ 0 → BkRet w k (withErr ef) e w') ∧
  (ef = 0 → ∃ A c xs, e = .returned (withErr 0 (bkv A kf.ents.length c kf.eps)) ∧ OwnE w' w.heap.size (.slice A kf.ents.length c) xs kf.ents ∧ Kp w')
def chE (k : Bk) (ef : Int) : Int := if checkBk k then ef else 190

set_option maxRecDepth 100000 in
set_option maxHeartbeats 2000000 in
theorem change_any (f : FuncId) (eg : ∀ args w, (callFunc f args).run Try.prog w = .ok (.enter f args) w) (caps : Array Value) (A : Option Addr) (c : Nat) (k kf : Bk) (ef : Int) (w : World) (Kp : World → Prop) (hA : Ents w w.heap.size A k.ents.length k.ents) (h1 : k.ents.length ≤ c) (h2 : c ≤ maxLen) (hs : SmE k.ents)
    (hKp : ∀ (W : World) (cs : Array Value) (i : Nat) (u : Value), Blk W (w.heap.size + 1) 25 cs → Kp W → Kp (W.setCell ⟨w.heap.size + 1, i, none⟩ u))
    (hdo : ∀ (W : World) (base bc : Nat) (A' : Option Addr) (c' : Nat) (xs : List Value), checkBk k = true → Below w.heap.size w W → w.heap.size + 2 ≤ base → base ≤ bc → Blk W (w.heap.size + 1) 25 zbk → Blk W bc 25 #[.slice A' k.ents.length c', .int .i64 k.eps] → OwnE W base (.slice A' k.ents.length c') xs k.ents →
      Calls Try.prog f (#[.pointer (some ⟨bc, 0, none⟩)] ++ caps) W (DoRet Kp base bc (w.heap.size + 1) kf ef W)) :
    Calls Try.prog 32 #[bkv A k.ents.length c k.eps, .func (.func f) #[] caps] w (ChRet Kp w k kf (chE k ef)) := by
  have D0 := Lib.hid ((BBox.arg hA h1 h2).alloc (.cells #[.slice none 0 0, .int .i64 0] 25))
  have HS := Lib.hid hs
  have H1 := Lib.hid h1
  have H2 := Lib.hid h2
  have HK := Lib.hid hKp
  have HD := Lib.hid hdo
  clear hA hs hKp hdo
  have bz : Blk ((w.alloc (.cells #[.slice A k.ents.length c, .int .i64 k.eps] 25)).alloc (.cells #[.slice none 0 0, .int .i64 0] 25)) (w.heap.size + 1) 25 #[.slice none 0 0, .int .i64 0] := by simpa using Blk.new (w.alloc (.cells #[.slice A k.ents.length c, .int .i64 k.eps] 25)) 25 #[.slice none 0 0, .int .i64 0]
  have hBW : Below w.heap.size w ((w.alloc (.cells #[.slice A k.ents.length c, .int .i64 k.eps] 25)).alloc (.cells #[.slice none 0 0, .int .i64 0] 25)) := bel_alloc (below_one w _)
  have hsz : ((w.alloc (.cells #[.slice A k.ents.length c, .int .i64 k.eps] 25)).alloc (.cells #[.slice none 0 0, .int .i64 0] 25)).heap.size = w.heap.size + 2 := by simp
  have HSZ := Lib.hid hsz
  have BZ := Lib.hid bz
  have HBW := Lib.hid hBW
  clear bz hBW hsz
  cases hck : checkBk k
  · have he : chE k ef = 190 := by simp [chE, hck]
    rw [he]
    have HC := Lib.hid hck
    obtain ⟨ents, eps⟩ := k
    dsimp only at D0 H1 HSZ BZ HBW
    clear he hck
    go_enter Try.func32, Try.ntmps32
    go_wp2_with fail
    generalize ((w.alloc (.cells #[.slice A ents.length c, .int .i64 eps] 25)).alloc (.cells #[.slice none 0 0, .int .i64 0] 25)) = W at D0 BZ HBW HSZ ⊢
    go_wp2_with (first
      | (have _t := d1; go_at_call 43; refine (eclone_any A c ⟨ents, eps⟩ _ d1.out.ents H1.out H2.out HS.out).mono ?_; rintro e w2 ⟨A2, c2, xs2, rfl, ho2, hB2⟩; dsimp only [id] at ho2 ⊢; have z2 := Lib.hid (z1.out.below hB2 z1.out.lt); have c2' := z2.out.cell; have f2 := z2.out.frozen; have HB2 := Lib.hid (keepB hB2 HB1.out); have HO2 := Lib.hid ho2; have s2 := hB2.size; clear hB2 ho2)
      | (go_at_call 15; refine (check_any A c ⟨ents, eps⟩ _ D0.out.ents H1.out H2.out).mono ?_; rw [HC.out]; simp only [errOf]; rintro e w1 ⟨rfl, hB1⟩; have d1 := Lib.hid (D0.out.after hB1); have z1 := Lib.hid (BZ.out.below hB1 BZ.out.lt); have HB1 := Lib.hid (keepB hB1 HBW.out); have s1 := hB1.size; obtain ⟨q0, q1⟩ := d1.out.cells; dsimp only at q0 q1; clear hB1))
    refine bodyPost_ret (v := withErr 190 (bkv A2 ents.length c2 eps)) (by simp [results, Try.results32, go_sem, c2']) rfl ?_
    have hgr := (grown_setCell w2 ⟨w.heap.size + 1, 0, none⟩ (.slice A2 ents.length c2)).trans (grown_setCell _ ⟨w.heap.size + 1, 1, none⟩ (.int .i64 eps))
    have hs1 := HSZ.out
    refine ⟨fun _ => ⟨_, _, xs2, rfl, (HO2.out.grownB hgr z2.out (by decide) (by decide)).less (by omega), HB2.out.grown hgr HB2.out.size (fun k e => by injection e with e; dsimp only at e; omega)⟩, fun h => absurd h (by decide)⟩
  · have he : chE k ef = ef := by simp [chE, hck]
    rw [he]
    have HC := Lib.hid hck
    obtain ⟨ents, eps⟩ := k
    dsimp only at D0 H1 HSZ BZ HBW
    clear he
    by_cases hef : ef = 0
    · subst hef
      go_enter Try.func32, Try.ntmps32
      go_wp2_with fail
      generalize ((w.alloc (.cells #[.slice A ents.length c, .int .i64 eps] 25)).alloc (.cells #[.slice none 0 0, .int .i64 0] 25)) = W at D0 BZ HBW HSZ ⊢
      go_wp2_with (first
        | (have _t := d1; go_at_call 43; refine (eclone_any A c ⟨ents, eps⟩ _ d1.out.ents H1.out H2.out HS.out).mono ?_; rintro e w2 ⟨A2, c2, xs2, rfl, ho2, hB2⟩; dsimp only [id] at ho2 ⊢; have z2 := Lib.hid (z1.out.below hB2 z1.out.lt); have c2' := z2.out.cell; have f2 := z2.out.frozen; have HB2 := Lib.hid (keepB hB2 HB1.out); have HO2 := Lib.hid ho2; have s2 := hB2.size; have R2 := Lib.hid hB2; clear hB2 ho2)
        | (go_at_call 15; refine (check_any A c ⟨ents, eps⟩ _ D0.out.ents H1.out H2.out).mono ?_; rw [HC.out]; simp only [errOf]; rintro e w1 ⟨rfl, hB1⟩; have d1 := Lib.hid (D0.out.after hB1); have z1 := Lib.hid (BZ.out.below hB1 BZ.out.lt); have HB1 := Lib.hid (keepB hB1 HBW.out); have s1 := hB1.size; obtain ⟨q0, q1⟩ := d1.out.cells; dsimp only at q0 q1; clear hB1))
      have b3 : Blk (w2.alloc (.cells #[.slice A2 ents.length c2, .int .i64 eps] 25)) w2.heap.size 25 #[.slice A2 ents.length c2, .int .i64 eps] := Blk.new w2 _ _
      have z3 := z2.out.alloc (.cells #[.slice A2 ents.length c2, .int .i64 eps] 25)
      have o3 := HO2.out.alloc (.cells #[.slice A2 ents.length c2, .int .i64 eps] 25)
      have B3 := bel_alloc (o := .cells #[.slice A2 ents.length c2, .int .i64 eps] 25) HB2.out
      have R3 := bel_alloc (o := .cells #[.slice A2 ents.length c2, .int .i64 eps] 25) R2.out
      have S3 : (w2.alloc (.cells #[.slice A2 ents.length c2, .int .i64 eps] 25)).heap.size = w2.heap.size + 1 := by simp
      generalize (w2.alloc (.cells #[.slice A2 ents.length c2, .int .i64 eps] 25)) = w3 at b3 z3 o3 B3 R3 S3 ⊢
      have hs1 := HSZ.out
      refine (HD.out w3 w1.heap.size w2.heap.size A2 c2 xs2 HC.out B3 (by omega) (by omega) z3 b3 o3).mono ?_
      rintro e w4 ⟨rfl, h4, h4'⟩
      obtain ⟨A4, c4, xs4, b4, o4, k4, z4⟩ := h4' rfl
      have c4' := b4.cell
      have cz := z4.cell
      have fz := z4.frozen
      have O4 := Lib.hid o4
      have K4 := Lib.hid k4
      have Z4 := Lib.hid z4
      obtain ⟨fents, feps⟩ := kf
      dsimp only at c4' O4 b4
      clear HD h4 h4' o4 k4 z4 b4 c2' f2 q0 q1
      go_wp2
      refine bodyPost_ret (v := withErr 0 (bkv A4 fents.length c4 feps)) (by simp [results, Try.results32, go_sem, cz]) rfl ?_
      have hgr := (grown_setCell w4 ⟨w.heap.size + 1, 0, none⟩ (.slice A4 fents.length c4)).trans (grown_setCell _ ⟨w.heap.size + 1, 1, none⟩ (.int .i64 feps))
      have hb1 := Z4.out.set_ 0 (.slice A4 fents.length c4)
      exact ⟨fun h => absurd rfl h, fun _ => ⟨_, _, xs4, rfl, (O4.out.grownB hgr Z4.out (by decide) (by decide)).less (by omega), HK.out _ _ _ _ hb1 (HK.out _ _ _ _ Z4.out K4.out)⟩⟩
    · go_enter Try.func32, Try.ntmps32
      go_wp2_with fail
      generalize ((w.alloc (.cells #[.slice A ents.length c, .int .i64 eps] 25)).alloc (.cells #[.slice none 0 0, .int .i64 0] 25)) = W at D0 BZ HBW HSZ ⊢
      go_wp2_with (first
        | (have _t := d1; go_at_call 43; refine (eclone_any A c ⟨ents, eps⟩ _ d1.out.ents H1.out H2.out HS.out).mono ?_; rintro e w2 ⟨A2, c2, xs2, rfl, ho2, hB2⟩; dsimp only [id] at ho2 ⊢; have z2 := Lib.hid (z1.out.below hB2 z1.out.lt); have c2' := z2.out.cell; have f2 := z2.out.frozen; have HB2 := Lib.hid (keepB hB2 HB1.out); have HO2 := Lib.hid ho2; have s2 := hB2.size; have R2 := Lib.hid hB2; clear hB2 ho2)
        | (go_at_call 15; refine (check_any A c ⟨ents, eps⟩ _ D0.out.ents H1.out H2.out).mono ?_; rw [HC.out]; simp only [errOf]; rintro e w1 ⟨rfl, hB1⟩; have d1 := Lib.hid (D0.out.after hB1); have z1 := Lib.hid (BZ.out.below hB1 BZ.out.lt); have HB1 := Lib.hid (keepB hB1 HBW.out); have s1 := hB1.size; obtain ⟨q0, q1⟩ := d1.out.cells; dsimp only at q0 q1; clear hB1))
      have b3 : Blk (w2.alloc (.cells #[.slice A2 ents.length c2, .int .i64 eps] 25)) w2.heap.size 25 #[.slice A2 ents.length c2, .int .i64 eps] := Blk.new w2 _ _
      have z3 := z2.out.alloc (.cells #[.slice A2 ents.length c2, .int .i64 eps] 25)
      have o3 := HO2.out.alloc (.cells #[.slice A2 ents.length c2, .int .i64 eps] 25)
      have B3 := bel_alloc (o := .cells #[.slice A2 ents.length c2, .int .i64 eps] 25) HB2.out
      have R3 := bel_alloc (o := .cells #[.slice A2 ents.length c2, .int .i64 eps] 25) R2.out
      have S3 : (w2.alloc (.cells #[.slice A2 ents.length c2, .int .i64 eps] 25)).heap.size = w2.heap.size + 1 := by simp
      generalize (w2.alloc (.cells #[.slice A2 ents.length c2, .int .i64 eps] 25)) = w3 at b3 z3 o3 B3 R3 S3 ⊢
      have hs1 := HSZ.out
      refine (HD.out w3 w1.heap.size w2.heap.size A2 c2 xs2 HC.out B3 (by omega) (by omega) z3 b3 o3).mono ?_
      rintro e w4 ⟨rfl, h4, h4'⟩
      have h5 := h4 hef
      have h14 : Below w1.heap.size w1 w4 := R3.trans h5
      have d4 := Lib.hid (d1.out.after h14)
      have z4 := Lib.hid (z1.out.below h14 z1.out.lt)
      have HB4 := Lib.hid (keepB h14 HB1.out)
      have s4 := h14.size
      have HEF := Lib.hid hef
      have hefb : (ef == 0) = false := beq_eq_false_iff_ne.2 hef
      clear HD h4 h4' h5 h14 R3 b3 z3 o3 B3 c2' f2 q0 q1
      obtain ⟨q0, q1⟩ := d4.out.cells
      dsimp only at q0 q1
      go_wp2_with (go_at_call 43; refine (eclone_any A c ⟨ents, eps⟩ _ d4.out.ents H1.out H2.out HS.out).mono ?_; rintro e w5 ⟨A5, c5, xs5, rfl, ho5, hB5⟩; dsimp only [id] at ho5 ⊢; have z5 := Lib.hid (z4.out.below hB5 z4.out.lt); have c5' := z5.out.cell; have f5 := z5.out.frozen; have HB5 := Lib.hid (keepB hB5 HB4.out); have HO5 := Lib.hid ho5; have s5 := hB5.size; clear hB5 ho5)
      refine bodyPost_ret (v := withErr ef (bkv A5 ents.length c5 eps)) (by simp [results, Try.results32, go_sem, c5']) rfl ?_
      have hgr := (grown_setCell w5 ⟨w.heap.size + 1, 0, none⟩ (.slice A5 ents.length c5)).trans (grown_setCell _ ⟨w.heap.size + 1, 1, none⟩ (.int .i64 eps))
      exact ⟨fun _ => ⟨_, _, xs5, rfl, (HO5.out.grownB hgr z5.out (by decide) (by decide)).less (by omega), HB5.out.grown hgr HB5.out.size (fun k e => by injection e with e; dsimp only at e; omega)⟩, fun h => absurd h HEF.out⟩
end Go.Proofs.Ytkiijbbcfbkecaa
