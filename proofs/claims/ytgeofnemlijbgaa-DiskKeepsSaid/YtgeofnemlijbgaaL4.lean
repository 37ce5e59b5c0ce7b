/- DiskParts: the walk. -/
import Derived.Test.YtgeofnemlijbgaaL0
namespace Go.Proofs.Ytgeofnemlijbgaa
open Go.RowKit
set_option linter.unusedVariables false

theorem infoTW : (Try.prog.info? 43).map (fun i => (i.zero, i.size, i.bytes)) = some (some (.agg #[.int .i64 0, .slice none 0 0]), 2, 32) := by kernel_rfl
/-- The cells of a slice of writes. -/
def WCells (w : World) (B : Nat) (l : List Wr) (xs : List Value) : Prop := xs.length = l.length * 2 ∧ ∀ (i : Nat) (x : Wr), l[i]? = some x → xs[i * 2]? = some (.int .i64 x.1) ∧ ∃ v, xs[i * 2 + 1]? = some v ∧ Bs w B v x.2
theorem Wrs.cells {w : World} {B n : Nat} {A : Option Addr} {l : List Wr} (h : Wrs w B A n l) : ∃ xs, WCells w B l xs ∧ Rd w B A (n * 2) xs := by
  obtain ⟨h0, xs, h1, h2⟩ := h
  exact ⟨xs, ⟨by rw [h1.1, h0], h2⟩, h1⟩
theorem WCells.one {w : World} {B : Nat} {l : List Wr} {xs : List Value} (h : WCells w B l xs) : ∀ u ∈ xs, u.oneCell' = true := by
  intro u hu
  obtain ⟨j, hj⟩ := List.getElem?_of_mem hu
  have hlt := (List.getElem?_eq_some_iff.1 hj).1
  have h0 := h.1
  have hi : l[j / 2]? = some (l[j / 2]'(by omega)) := List.getElem?_eq_getElem _
  obtain ⟨g1, v, g2, Ad, cd, rfl, _⟩ := h.2 (j / 2) _ hi
  rcases Nat.mod_two_eq_zero_or_one j with hm | hm
  · have e : j / 2 * 2 = j := by omega
    rw [e, hj] at g1
    injection g1 with g1
    subst g1
    rfl
  · have e : j / 2 * 2 + 1 = j := by omega
    rw [e, hj] at g2
    injection g2 with g2
    subst g2
    rfl
theorem WCells.append {w : World} {B : Nat} {l m : List Wr} {xs ys : List Value} (h : WCells w B l xs) (h' : WCells w B m ys) : WCells w B (l ++ m) (xs ++ ys) := by
  refine ⟨by rw [List.length_append, List.length_append, h.1, h'.1]; omega, fun i x hx => ?_⟩
  have h0 := h.1
  rcases Nat.lt_or_ge i l.length with hi | hi
  · rw [List.getElem?_append_left hi] at hx
    rw [List.getElem?_append_left (by omega), List.getElem?_append_left (by omega)]
    exact h.2 i x hx
  · rw [List.getElem?_append_right hi] at hx
    have e1 : i * 2 - xs.length = (i - l.length) * 2 := by omega
    have e2 : i * 2 + 1 - xs.length = (i - l.length) * 2 + 1 := by omega
    rw [List.getElem?_append_right (by omega), List.getElem?_append_right (by omega), e1, e2]
    exact h'.2 _ x hx
theorem WCells.wrs {w w' : World} {B n base : Nat} {A : Option Addr} {c : Nat} {l : List Wr} {xs : List Value} (h : WCells w B l xs) (hn : n = l.length) (ho : w'.ownsRow base 43 2 (.slice A n c) n xs) (hb : Below B w w') (hB : B ≤ w'.heap.size) : Wrs w' w'.heap.size A n l := by
  refine ⟨hn.symm, xs, own_rdn ho, fun i x hx => ?_⟩
  obtain ⟨g1, v, g2, g3⟩ := h.2 i x hx
  exact ⟨g1, v, g2, (g3.below hb).more hB⟩
section
variable (W : World) (o : Obj)
theorem owe1 : (W.alloc (.cells #[] 43)).drew.ownsRow W.heap.size 43 2 (.slice (some ⟨W.heap.size, 0, none⟩) 0 0) 0 [] := World.ownsRow_made W #[] 0 (Nat.le_refl _) (Nat.zero_le _) rfl
theorem owe2 : ((W.alloc (.cells #[] 43)).alloc o).drew.ownsRow W.heap.size 43 2 (.slice (some ⟨W.heap.size, 0, none⟩) 0 0) 0 [] := World.ownsRow.alloc (owe1 W) o
theorem owe3 : ((W.alloc o).alloc (.cells #[] 43)).drew.ownsRow W.heap.size 43 2 (.slice (some ⟨W.heap.size + 1, 0, none⟩) 0 0) 0 [] := by
  have := World.ownsRow_made (base := W.heap.size) (e := 43) (size := 2) (W.alloc o) #[] 0 (by simp) (Nat.zero_le _) rfl
  simp at this
  exact this
end
theorem zbl2 (W : World) (o : Obj) (cs : Array Value) : Blk ((W.alloc o).alloc (.cells cs 24)).drew (W.heap.size + 1) 24 cs := by
  have := Blk.new (W.alloc o) 24 cs
  simp at this
  exact this
theorem zbl3 (W : World) (o : Obj) (cs : Array Value) : Blk ((W.alloc (.cells cs 24)).alloc o).drew W.heap.size 24 cs := (Blk.new W 24 cs).alloc o
theorem bel_app2 {W w13 w14 : World} {base n size : Nat} {t : TypeId} {v : Value} {xs : List Value} (h : Below W.heap.size W w13) (hg : w13.grownBy w14 v.ownBlock) (ho : w13.ownsRow base t size v n xs) (hb : W.heap.size ≤ base) : Below W.heap.size W w14 := h.grown hg h.size (fun g e => by obtain ⟨_, _, h', _⟩ := own_block ho e; omega)

set_option maxRecDepth 100000 in
set_option maxHeartbeats 4000000 in
theorem diskParts_walk (A : Option Addr) (c : Nat) (d : Dsk) (Al : Option Addr) (nl cl : Nat) (l : List Wr) (Am : Option Addr) (nm cm : Nat) (m : List Wr) (w : World) (hd : Bss w w.heap.size A d.secs.length d.secs) (h1 : d.secs.length ≤ c) (h2 : c ≤ maxLen) (hl : Wrs w w.heap.size Al nl l) (hm : Wrs w w.heap.size Am nm m) (hli : d.left ≤ 9223372036854775807) :
    Calls Try.prog 6 #[dvD A c d, .slice Al nl cl, .slice Am nm cm] w fun e w' => e = .returned (.bool true) ∧ Below w.heap.size w w' := by
  obtain ⟨da, ea, hra⟩ : ∃ dr er, doD d l = (dr, er) := ⟨_, _, rfl⟩
  obtain ⟨db, eb, hrb⟩ : ∃ dr er, doD da m = (dr, er) := ⟨_, _, rfl⟩
  obtain ⟨dc, ec, hrc⟩ : ∃ dr er, doD d (l ++ m) = (dr, er) := ⟨_, _, rfl⟩
  have D0 := Lib.hid (DBox.arg hd h1 h2)
  have L0 := Lib.hid (wrs_after hl (below_one w (.cells #[.slice A d.secs.length c, .int .i64 d.left, .int .i64 d.torn, .bool d.off, .int .i64 d.done] 24)))
  have M0 := Lib.hid (wrs_after hm (below_one w (.cells #[.slice A d.secs.length c, .int .i64 d.left, .int .i64 d.torn, .bool d.off, .int .i64 d.done] 24)))
  have HA := Lib.hid hra
  have HB := Lib.hid hrb
  have HC := Lib.hid hrc
  have HLI := Lib.hid hli
  have HLA : Hid (da.left ≤ 9223372036854775807) := Lib.hid (by have := doD_left l hli; rw [hra] at this; exact this)
  have HSA := Lib.hid (fun h : smallB d.secs = true => show Sm da.secs by have := small_wr l h; rw [hra] at this; exact this)
  have HSC := Lib.hid (fun h : smallB d.secs = true => show Sm dc.secs by have := small_wr (l ++ m) h; rw [hrc] at this; exact this)
  have HE1 := Lib.hid (fun h : ea ≠ 0 => show dc = da ∧ ec = ea by have := parts_stop (d := d) (l := l) (m := m) (by rw [hra]; exact h); rw [hrc, hra] at this; injection this with h1 h2; exact ⟨h1, h2⟩)
  have HE2 := Lib.hid (fun h : ea = 0 => show dc = db ∧ ec = eb by have := parts_go (d := d) (l := l) (m := m) (by rw [hra]; exact h); rw [hrc, hra, hrb] at this; injection this with h1 h2; exact ⟨h1, h2⟩)
  have HN := Lib.hid hl.1
  have HM := Lib.hid hm.1
  clear hd hl hm hra hrb hrc h1 h2 hli
  cases hsm : smallB d.secs
  · obtain ⟨ss, left, torn, off, done⟩ := d
    dsimp only at hsm D0
    go_enter Try.func6, Try.ntmps6
    go_wp2_with (first
      | (go_at_call 8; refine (awake_any _).mono ?_; rintro e w1 ⟨rfl, hB1⟩; have d1 := Lib.hid (D0.out.after hB1); obtain ⟨qa0, qa1, qa2, qa3, qa4⟩ := d1.out.cells)
      | (go_at_call 9; refine (small_any A ss.length c left torn off done ss _ d1.out.secs).mono ?_; rintro e w2 ⟨rfl, hB2⟩))
    go_ret
    exact ⟨rfl, (keepB hB2 (keepB hB1 (below_one w _)))⟩
  · have hs := Lib.hid (sm_of_small hsm)
    have hsA := Lib.hid (HSA.out hsm)
    have hsC := Lib.hid (HSC.out hsm)
    clear HSA HSC
    cases hfw : fewB l
    · obtain ⟨ss, left, torn, off, done⟩ := d
      dsimp only at hsm D0 L0 hs
      go_enter Try.func6, Try.ntmps6
      go_wp2_with (first
        | (go_at_call 8; refine (awake_any _).mono ?_; rintro e w1 ⟨rfl, hB1⟩; have d1 := Lib.hid (D0.out.after hB1); have l1 := Lib.hid (wrs_after L0.out hB1); obtain ⟨qa0, qa1, qa2, qa3, qa4⟩ := d1.out.cells)
        | (go_at_call 9; refine (small_any A ss.length c left torn off done ss _ d1.out.secs).mono ?_; rintro e w2 ⟨rfl, hB2⟩)
        | (go_at_call 21; refine (few_any Al nl cl l _ (wrs_after l1.out hB2)).mono ?_; rintro e w3 ⟨rfl, hB3⟩))
      go_ret
      exact ⟨rfl, keepB hB3 (keepB hB2 (keepB hB1 (below_one w _)))⟩
    · have hn50 : nl ≤ 50 := by have := (fewB_out hfw).1; have := HN.out; omega
      cases hfm : fewB m
      · obtain ⟨ss, left, torn, off, done⟩ := d
        dsimp only at hsm D0 L0 M0 hs
        go_enter Try.func6, Try.ntmps6
        go_wp2_with (first
          | (go_at_call 8; refine (awake_any _).mono ?_; rintro e w1 ⟨rfl, hB1⟩; have d1 := Lib.hid (D0.out.after hB1); have l1 := Lib.hid (wrs_after L0.out hB1); obtain ⟨qa0, qa1, qa2, qa3, qa4⟩ := d1.out.cells)
          | (go_at_call 9; refine (small_any A ss.length c left torn off done ss _ d1.out.secs).mono ?_; rintro e w2 ⟨rfl, hB2⟩)
          | (go_at_call_of 21 (Value.slice Al nl cl); refine (few_any Al nl cl l _ (wrs_after l1.out hB2)).mono ?_; rintro e w3 ⟨rfl, hB3⟩; have tok := True.intro)
          | (go_at_call 21; have _t := tok; refine (few_any Am nm cm m _ (wrs_after (wrs_after (wrs_after M0.out hB1) hB2) hB3)).mono ?_; rintro e w4 ⟨rfl, hB4⟩))
        go_ret
        exact ⟨rfl, keepB hB4 (keepB hB3 (keepB hB2 (keepB hB1 (below_one w _))))⟩
      · have hm50 : nm ≤ 50 := by have := (fewB_out hfm).1; have := HM.out; omega
        obtain ⟨i3, hi3, hz3, hs3, hb3⟩ := info_parts infoTW
        obtain ⟨ss, left, torn, off, done⟩ := d
        obtain ⟨tss, tleft, ttorn, toff, tdone⟩ := da
        obtain ⟨bss, bleft, btorn, boff, bdone⟩ := db
        obtain ⟨css, cleft, ctorn, coff, cdone⟩ := dc
        dsimp only at hsm D0 L0 M0 hs hsA hsC HLA HLI
        go_enter Try.func6, Try.ntmps6
        go_upto_region 6 with (first
          | (go_at_call 8; refine (awake_any _).mono ?_; rintro e w1 ⟨rfl, hB1⟩; have d1 := Lib.hid (D0.out.after hB1); have l1 := Lib.hid (wrs_after L0.out hB1); have m1 := Lib.hid (wrs_after M0.out hB1); obtain ⟨qa0, qa1, qa2, qa3, qa4⟩ := d1.out.cells)
          | (go_at_call 9; refine (small_any A ss.length c left torn off done ss _ d1.out.secs).mono ?_; rintro e w2 ⟨rfl, hB2⟩; have d2 := Lib.hid (d1.out.after hB2); have l2 := Lib.hid (wrs_after l1.out hB2); have m2 := Lib.hid (wrs_after m1.out hB2))
          | (go_at_call_of 21 (Value.slice Al nl cl); refine (few_any Al nl cl l _ l2.out).mono ?_; rintro e w3 ⟨rfl, hB3⟩; have d3 := Lib.hid (d2.out.after hB3); have l3 := Lib.hid (wrs_after l2.out hB3); have m3 := Lib.hid (wrs_after m2.out hB3))
          | (go_at_call 21; have _t := m3; refine (few_any Am nm cm m _ m3.out).mono ?_; rintro e w9 ⟨rfl, hB9⟩; have d9 := Lib.hid (d3.out.after hB9); have l9 := Lib.hid (wrs_after l3.out hB9); have m9 := Lib.hid (wrs_after m3.out hB9); obtain ⟨qb0, qb1, qb2, qb3, qb4⟩ := d9.out.cells)
          | (go_at_call 22; have _t := x4; refine (do_r HB.out x4.out.secs hsA.out m4.out (by omega) HLA.out).mono ?_; rintro e w5 ⟨A5, c5, vs5, rfl, hO5, hB5⟩; have l5 := Lib.hid (wrs_after (wrs_after l4.out hB5) (below_one w5 (.cells #[.slice A5 bss.length c5, .int .i64 bleft, .int .i64 btorn, .bool boff, .int .i64 bdone] 24))); have m5 := Lib.hid (wrs_after (wrs_after m4.out hB5) (below_one w5 (.cells #[.slice A5 bss.length c5, .int .i64 bleft, .int .i64 btorn, .bool boff, .int .i64 bdone] 24))); have d5 := Lib.hid ((d4.out.after hB5).alloc (.cells #[.slice A5 bss.length c5, .int .i64 bleft, .int .i64 btorn, .bool boff, .int .i64 bdone] 24)); have x5 := Lib.hid ((x4.out.after hB5).alloc (.cells #[.slice A5 bss.length c5, .int .i64 bleft, .int .i64 btorn, .bool boff, .int .i64 bdone] 24)); have y5 := Lib.hid (DBox.new hO5))
          | (go_at_call 22; refine (do_r HA.out d9.out.secs hs.out l9.out (by omega) HLI.out).mono ?_; rintro e w4 ⟨A4, c4, vs4, rfl, hO4, hB4⟩; have l4 := Lib.hid (wrs_after (wrs_after l9.out hB4) (below_one w4 (.cells #[.slice A4 tss.length c4, .int .i64 tleft, .int .i64 ttorn, .bool toff, .int .i64 tdone] 24))); have m4 := Lib.hid (wrs_after (wrs_after m9.out hB4) (below_one w4 (.cells #[.slice A4 tss.length c4, .int .i64 tleft, .int .i64 ttorn, .bool toff, .int .i64 tdone] 24))); have d4 := Lib.hid ((d9.out.after hB4).alloc (.cells #[.slice A4 tss.length c4, .int .i64 tleft, .int .i64 ttorn, .bool toff, .int .i64 tdone] 24)); have x4 := Lib.hid (DBox.new hO4); obtain ⟨qc0, qc1, qc2, qc3, qc4⟩ := x4.out.cells))
        have hd : DBox (w5.alloc (.cells #[.slice A5 bss.length c5, .int .i64 bleft, .int .i64 btorn, .bool boff, .int .i64 bdone] 24)) w.heap.size A c ⟨ss, left, torn, off, done⟩ := d5.out
        have hx : DBox (w5.alloc (.cells #[.slice A5 bss.length c5, .int .i64 bleft, .int .i64 btorn, .bool boff, .int .i64 bdone] 24)) w4.heap.size A4 c4 ⟨tss, tleft, ttorn, toff, tdone⟩ := x5.out
        have hy : DBox (w5.alloc (.cells #[.slice A5 bss.length c5, .int .i64 bleft, .int .i64 btorn, .bool boff, .int .i64 bdone] 24)) w5.heap.size A5 c5 ⟨bss, bleft, btorn, boff, bdone⟩ := y5.out
        have hl : Wrs (w5.alloc (.cells #[.slice A5 bss.length c5, .int .i64 bleft, .int .i64 btorn, .bool boff, .int .i64 bdone] 24)) (w5.alloc (.cells #[.slice A5 bss.length c5, .int .i64 bleft, .int .i64 btorn, .bool boff, .int .i64 bdone] 24)).heap.size Al nl l := l5.out
        have hm : Wrs (w5.alloc (.cells #[.slice A5 bss.length c5, .int .i64 bleft, .int .i64 btorn, .bool boff, .int .i64 bdone] 24)) (w5.alloc (.cells #[.slice A5 bss.length c5, .int .i64 bleft, .int .i64 btorn, .bool boff, .int .i64 bdone] 24)).heap.size Am nm m := m5.out
        have hBw : Below w.heap.size w (w5.alloc (.cells #[.slice A5 bss.length c5, .int .i64 bleft, .int .i64 btorn, .bool boff, .int .i64 bdone] 24)) := bel_alloc (keepB hB5 (bel_alloc (keepB hB4 (keepB hB9 (keepB hB3 (keepB hB2 (keepB hB1 (below_one w _))))))))
        generalize (w5.alloc (.cells #[.slice A5 bss.length c5, .int .i64 bleft, .int .i64 btorn, .bool boff, .int .i64 bdone] 24)) = W at hd hx hy hl hm hBw ⊢
        generalize w4.heap.size = b4 at hx ⊢
        generalize w5.heap.size = b5 at hy ⊢
        obtain ⟨xl, cl1, rl1⟩ := hl.cells
        obtain ⟨xm, cm1, rm1⟩ := hm.cells
        have DD := Lib.hid hd
        have DX := Lib.hid hx
        have DY := Lib.hid hy
        have CL := Lib.hid cl1
        have CM := Lib.hid cm1
        have RL := Lib.hid rl1
        have RM := Lib.hid rm1
        have BW := Lib.hid hBw
        clear hd hx hy hl hm hBw cl1 cm1 rl1 rm1 D0 L0 M0 d1 d2 d3 d9 d4 d5 l1 l2 l3 l9 l4 l5 m1 m2 m3 m9 m4 m5 x4 x5 y5 hO4 hO5 hB1 hB2 hB3 hB9 hB4 hB5 qa0 qa1 qa2 qa3 qa4 qb0 qb1 qb2 qb3 qb4 qc0 qc1 qc2 qc3 qc4 HA HB
        have n1 : 0 + nl ≤ maxLen := by unfold maxLen; omega
        have n2 : (0 + nl) * 32 ≤ 140737488355328 := by omega
        have n3 : nl + nm ≤ maxLen := by unfold maxLen; omega
        have n4 : (nl + nm) * 32 ≤ 140737488355328 := by omega
        have N1 := Lib.hid n1
        have N2 := Lib.hid n2
        have N3 := Lib.hid n3
        have N4 := Lib.hid n4
        have hlen : nl + nm = (l ++ m).length := by rw [List.length_append, HN.out, HM.out]
        have HLEN := Lib.hid hlen
        clear n1 n2 n3 n4 hlen
        go_cut [12, 13] (fun s12 s13 wx => ∃ (b : Nat) (A7 : Option Addr) (c7 : Nat), s12 = .pointer (some ⟨b, 0, none⟩) ∧ s13 = .int .i64 ec ∧ DBox wx b A7 c7 ⟨css, cleft, ctorn, coff, cdone⟩ ∧ Below W.heap.size W wx)
        case first =>
          clear DX DY BW HE1 HE2
          go_region_held_law (fun w' => w'.cell? ⟨w.heap.size, 0, none⟩ = some (.slice A ss.length c) ∧ w'.cell? ⟨w.heap.size, 1, none⟩ = some (.int .i64 left) ∧ w'.cell? ⟨w.heap.size, 2, none⟩ = some (.int .i64 torn) ∧ w'.cell? ⟨w.heap.size, 3, none⟩ = some (.bool off) ∧ w'.cell? ⟨w.heap.size, 4, none⟩ = some (.int .i64 done) ∧ Below W.heap.size W w')
            ((refine keepS DD.out ?_; first | simp only [Below.refl, bel_drew, bel_alloc, *] | with_reducible exact bel_drew (bel_alloc (bel_alloc (Below.refl _ _))) | exact bel_set (bel_set (bel_set (bel_set (bel_set hW13 (by omega)) (by omega)) (by omega)) (by omega)) (by omega)))
            (first
              | (go_split_ands; refine step_append_any _ (by rfl) (.tmp 45) (.tmp 46) 37 (by rfl) W.heap.size 43 i3 (.agg #[.int .i64 0, .slice none 0 0]) 2 32 Try.underlying37 hi3 hz3 hs3 hb3 rfl (by omega) (.slice (some ⟨W.heap.size, 0, none⟩) 0 0) 0 [] (by rfl) (by with_reducible exact owe1 W) W.heap.size Al nl cl xl (by rfl) (RL.out.below (by with_reducible assumption)) CL.out.one N1.out N2.out (Below.size (by with_reducible assumption)) ?_; intro v11 w11 ho11 hg11 hat11; simp only [Nat.zero_add, List.nil_append] at ho11; have hW11 := bel_app2 (W := W) (by with_reducible assumption) hg11 (owe1 W) (Nat.le_refl _); obtain ⟨A11, c11, rfl, r1, r2⟩ := own_form ho11)
              | (go_split_ands; refine step_append_any _ (by rfl) (.tmp 45) (.tmp 46) 37 (by rfl) W.heap.size 43 i3 (.agg #[.int .i64 0, .slice none 0 0]) 2 32 Try.underlying37 hi3 hz3 hs3 hb3 rfl (by omega) (.slice (some ⟨W.heap.size, 0, none⟩) 0 0) 0 [] (by rfl) (by with_reducible exact owe2 W _) W.heap.size Al nl cl xl (by rfl) (RL.out.below (by with_reducible assumption)) CL.out.one N1.out N2.out (Below.size (by with_reducible assumption)) ?_; intro v11 w11 ho11 hg11 hat11; simp only [Nat.zero_add, List.nil_append] at ho11; have hW11 := bel_app2 (W := W) (by with_reducible assumption) hg11 (owe2 W _) (Nat.le_refl _); have z1 : Blk w11 (W.heap.size + 1) 24 zbx := blk_far hg11 (zbl2 W _ zbx) (owe2 W _) (by decide); obtain ⟨A11, c11, rfl, r1, r2⟩ := own_form ho11)
              | (go_split_ands; refine step_append_any _ (by rfl) (.tmp 45) (.tmp 46) 37 (by rfl) W.heap.size 43 i3 (.agg #[.int .i64 0, .slice none 0 0]) 2 32 Try.underlying37 hi3 hz3 hs3 hb3 rfl (by omega) (.slice (some ⟨W.heap.size + 1, 0, none⟩) 0 0) 0 [] (by rfl) (by with_reducible exact owe3 W _) W.heap.size Al nl cl xl (by rfl) (RL.out.below (by with_reducible assumption)) CL.out.one N1.out N2.out (Below.size (by with_reducible assumption)) ?_; intro v11 w11 ho11 hg11 hat11; simp only [Nat.zero_add, List.nil_append] at ho11; have hW11 := bel_app2 (W := W) (by with_reducible assumption) hg11 (owe3 W _) (Nat.le_refl _); have z1 : Blk w11 W.heap.size 24 zbx := blk_far hg11 (zbl3 W _ zbx) (owe3 W _) (by decide); obtain ⟨A11, c11, rfl, r1, r2⟩ := own_form ho11)
              | (go_split_ands; refine step_append_any _ (by rfl) (.tmp 47) (.tmp 48) 37 (by rfl) W.heap.size 43 i3 (.agg #[.int .i64 0, .slice none 0 0]) 2 32 Try.underlying37 hi3 hz3 hs3 hb3 rfl (by omega) (.slice A11 nl c11) nl xl (by rfl) (by with_reducible exact ho11) W.heap.size Am nm cm xm (by rfl) (RM.out.below (by with_reducible assumption)) CM.out.one N3.out N4.out (Below.size (by with_reducible assumption)) ?_; intro v12 w12 ho12 hg12 hat12; have hW12 := bel_app2 (W := W) (by with_reducible assumption) hg12 (ho11) (Nat.le_refl _); (try (have z2 := blk_far hg12 z1 ho11 (by decide))); obtain ⟨A12, c12, rfl, r3, r4⟩ := own_form ho12; have wr12 := (CL.out.append CM.out).wrs HLEN.out ho12 hW12 hW12.size)
              | (go_split_ands; refine step_append_any _ (by rfl) (.tmp 47) (.tmp 48) 37 (by rfl) W.heap.size 43 i3 (.agg #[.int .i64 0, .slice none 0 0]) 2 32 Try.underlying37 hi3 hz3 hs3 hb3 rfl (by omega) (.slice A11 nl c11) nl xl (by rfl) (by with_reducible exact ho11.alloc _) W.heap.size Am nm cm xm (by rfl) (RM.out.below (by with_reducible assumption)) CM.out.one N3.out N4.out (Below.size (by with_reducible assumption)) ?_; intro v12 w12 ho12 hg12 hat12; have hW12 := bel_app2 (W := W) (by with_reducible assumption) hg12 (ho11.alloc _) (Nat.le_refl _); have z2 : Blk w12 w11.heap.size 24 zbx := blk_far hg12 (Blk.new w11 _ zbx) (ho11.alloc _) (by decide); obtain ⟨A12, c12, rfl, r3, r4⟩ := own_form ho12; have wr12 := (CL.out.append CM.out).wrs HLEN.out ho12 hW12 hW12.size)
              | (go_at_call 22; go_split_ands; refine (do_r HC.out (bss_after DD.out.secs (by with_reducible assumption)) hs.out (by first | with_reducible exact wr12 | with_reducible exact wrs_after wr12 (below_one _ _)) (by omega) HLI.out).mono ?_; rintro e w13 ⟨A13, c13, vs13, rfl, hO13, hB13⟩; have hW13 := keepB hB13 (W := W) (by with_reducible assumption); have s11 := hW11.size; have s12 := hW12.size; have s13 : W.heap.size ≤ W.heap.size + 1 := (by omega); (first | (have z3 : Blk w13 w12.heap.size 24 zbx := (by with_reducible exact blk_new hB13)) | (have z3 := blk_b hB13 z2) | skip); try (have cz := z3.cell; have fz := z3.frozen)))
          all_goals (go_wp2_with fail; go_meet)
          · exact ⟨_, A13, c13, rfl, rfl, DBox.new (d := ⟨css, cleft, ctorn, coff, cdone⟩) hO13, bel_alloc hW13⟩
          all_goals exact ⟨_, A13, c13, rfl, rfl, DBox.store (d := ⟨css, cleft, ctorn, coff, cdone⟩) hO13 z3, bel_set (bel_set (bel_set (bel_set (bel_set hW13 (by omega)) (by omega)) (by omega)) (by omega)) (by omega)⟩
        case rest =>
          obtain ⟨b7, A7, c7, rfl, rfl, hd7, hB7⟩ := hcut
          have X7 := Lib.hid (DX.out.after hB7)
          have Y7 := Lib.hid (DY.out.after hB7)
          have Z7 := Lib.hid hd7
          have BW7 := Lib.hid (keepB hB7 BW.out)
          obtain ⟨qd0, qd1, qd2, qd3, qd4⟩ := hd7.cells
          clear DD DX DY CL CM RL RM BW hd7 hB7 HLEN N1 N2 N3 N4 HN HM hs HC
          by_cases hea : ea = 0
          · obtain ⟨h1, h2⟩ := HE2.out hea
            have hneb : (ea != 0) = false := by rw [hea]; rfl
            simp only [Dsk.mk.injEq] at h1
            obtain ⟨rfl, rfl, rfl, rfl, rfl⟩ := h1
            subst h2
            obtain ⟨qe0, qe1, qe2, qe3, qe4⟩ := Y7.out.cells
            clear hea HE1 HE2
            go_wp2_with (go_at_call 14; refine (same_eq A5 A7 c5 c7 ⟨css, cleft, ctorn, coff, cdone⟩ _ Y7.out.secs Z7.out.secs hsC.out).mono ?_; rintro e w8 ⟨rfl, hB8⟩)
            go_ret
            exact ⟨rfl, keepB hB8 BW7.out⟩
          · obtain ⟨h1, h2⟩ := HE1.out hea
            have hneb : (ea != 0) = true := by rw [bne_iff_ne]; exact hea
            simp only [Dsk.mk.injEq] at h1
            obtain ⟨rfl, rfl, rfl, rfl, rfl⟩ := h1
            subst h2
            obtain ⟨qe0, qe1, qe2, qe3, qe4⟩ := X7.out.cells
            clear hea HE1 HE2
            go_wp2_with (go_at_call 14; refine (same_eq A4 A7 c4 c7 ⟨css, cleft, ctorn, coff, cdone⟩ _ X7.out.secs Z7.out.secs hsC.out).mono ?_; rintro e w8 ⟨rfl, hB8⟩)
            go_ret
            exact ⟨rfl, keepB hB8 BW7.out⟩
end Go.Proofs.Ytgeofnemlijbgaa
