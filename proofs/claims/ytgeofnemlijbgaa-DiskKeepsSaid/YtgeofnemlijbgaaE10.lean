/- The laws' awake: the walk. -/
import Derived.Test.YtgeofnemlijbgaaE9
import Derived.Deep.RegionHeldLaw
namespace Go.Proofs.Ytgeofnemlijbgaa
open Go.RowKit
set_option linter.unusedVariables false

section
variable {P : Program} (w : World)
/-- The same where the operation is guarded, and wanted. -/
theorem step_append_w {ops : Array Oper} {o : Oper} {a : Act} {K : Act → World → Prop} {Q : Exit → Act → World → Prop} {E : Prop} (hw : Region.wanted o (yielded ops a.tmps) = true) (s x : Operand) (t : TypeId)
    (ho : o.op = .call { callee := .builtin .append, args := #[s, x], argTypes := #[t, t] })
    (base : Nat) (e : TypeId) (i : TypeInfo) (z : Value) (size bytes : Nat) (ht : P.underlying t = some (.slice e)) (hi : P.info? e = some i) (hz : i.zero = some z)
    (hsize : i.size = size) (hby : i.bytes = bytes) (hzs : z.cells.size = size) (hsz : 0 < size)
    (v : Value) (n : Nat) (xs : List Value) (hs : a.eval s = v) (hown : w.ownsRow base e size v n xs)
    (B : Nat) (A : Option Addr) (m c : Nat) (news : List Value) (hx : a.eval x = .slice A m c) (hr : Rd w B A (m * size) news) (h1 : ∀ u ∈ news, u.oneCell' = true)
    (h63 : n + m ≤ maxLen) (hbytes : (n + m) * bytes ≤ 140737488355328) (hbase : base ≤ w.heap.size)
    (h : ∀ v' w', w'.ownsRow base e size v' (n + m) (xs ++ news) → w.grownBy w' v.ownBlock → (v'.ownBlock = v.ownBlock ∨ v'.ownBlock = some w.heap.size) → K (a.put o.dst v') w') :
    if Region.wanted o (yielded ops a.tmps) = true then Oper.wp P o a w K Q else E := by
  rw [if_pos hw]
  exact wp_append_any w s x t ho base e i z size bytes ht hi hz hsize hby hzs hsz v n xs hs hown B A m c news hx hr h1 h63 hbytes hbase h

end

/-- What a region that calls keeps: all that there was, a disk's box among it. -/
abbrev SA (W : World) (b : Nat) (A : Option Addr) (c : Nat) (d : Dsk) (w' : World) : Prop :=
  w'.cell? ⟨b, 0, none⟩ = some (.slice A d.secs.length c) ∧ w'.cell? ⟨b, 1, none⟩ = some (.int .i64 d.left) ∧ w'.cell? ⟨b, 2, none⟩ = some (.int .i64 d.torn) ∧ w'.cell? ⟨b, 3, none⟩ = some (.bool d.off) ∧ w'.cell? ⟨b, 4, none⟩ = some (.int .i64 d.done) ∧ Below W.heap.size W w'
theorem keepS {W w' : World} {b : Nat} {A : Option Addr} {c : Nat} {d : Dsk} (hd : DBox W b A c d) (h : Below W.heap.size W w') : SA W b A c d w' := by
  obtain ⟨h0, h1, h2, h3, h4⟩ := hd.cells
  have hl := hd.blk.lt
  exact ⟨(h.cell (p := ⟨b, 0, none⟩) hl).trans h0, (h.cell (p := ⟨b, 1, none⟩) hl).trans h1, (h.cell (p := ⟨b, 2, none⟩) hl).trans h2, (h.cell (p := ⟨b, 3, none⟩) hl).trans h3, (h.cell (p := ⟨b, 4, none⟩) hl).trans h4, h⟩
theorem keep_call {W Wx w3 : World} {b : Nat} {A : Option Addr} {c : Nat} {d : Dsk} (hd : DBox W b A c d) (k : Below Wx.heap.size Wx w3) (h : Below W.heap.size W Wx) : SA W b A c d w3 := keepS hd (h.trans (k.mono h.size))
theorem keepB {W Wx w5 : World} (k : Below Wx.heap.size Wx w5) (h : Below W.heap.size W Wx) : Below W.heap.size W w5 := h.trans (k.mono h.size)
theorem keep_alloc {W Wx : World} {b : Nat} {A : Option Addr} {c : Nat} {d : Dsk} (hd : DBox W b A c d) (o : Obj) (h : Below W.heap.size W Wx) : SA W b A c d (Wx.alloc o) := keepS hd (h.alloc h.size o)
theorem bel_alloc {W X : World} {o : Obj} (h : Below W.heap.size W X) : Below W.heap.size W (X.alloc o) := h.alloc h.size o
theorem bel_drew {W X : World} (h : Below W.heap.size W X) : Below W.heap.size W X.drew := h.drew
theorem bel_set {W X : World} {g i : Nat} {v : Value} (h : Below W.heap.size W X) (hg : W.heap.size ≤ g) : Below W.heap.size W (X.setCell ⟨g, i, none⟩ v) := h.setCell (p := ⟨g, i, none⟩) hg v
theorem keep_set5 {W Wx : World} {b g : Nat} {A : Option Addr} {c : Nat} {d : Dsk} {x0 x1 x2 x3 x4 : Value} (hd : DBox W b A c d) (h : Below W.heap.size W Wx) (hg : W.heap.size ≤ g) : SA W b A c d (set5 Wx g x0 x1 x2 x3 x4) := keepS hd (h.grown (set5_grown _ g _ _ _ _ _) h.size (fun k e => by injection e; omega))
/-- A result that is stored in a box that was laid ahead. -/
theorem DBox.store {w : World} {base g : Nat} {A : Option Addr} {c : Nat} {vs : List Value} {d : Dsk} {x0 x1 x2 x3 x4 : Value} (h : OwnS w base (.slice A d.secs.length c) vs d.secs) (hb : Blk w g 24 #[x0, x1, x2, x3, x4]) : DBox (set5 w g (.slice A d.secs.length c) (.int .i64 d.left) (.int .i64 d.torn) (.bool d.off) (.int .i64 d.done)) g A c d := by
  have hc : d.secs.length ≤ c ∧ c ≤ maxLen := by
    obtain ⟨A', c', e, h1, h2⟩ := h.form
    simp only [Value.slice.injEq] at e
    obtain ⟨_, _, rfl⟩ := e
    exact ⟨h1, h2⟩
  exact ⟨set5_blk hb _ _ _ _ _, (h.grownB (set5_grown _ g _ _ _ _ _) hb (by decide) (by decide)).bss, hc.1, hc.2⟩
theorem blk_new_d {w w' : World} {t : TypeId} {cs : Array Value} (hb : Below (w.alloc (.cells cs t)).drew.heap.size (w.alloc (.cells cs t)).drew w') : Blk w' w.heap.size t cs := Blk.below (w := (w.alloc (.cells cs t)).drew) (Blk.new w t cs) hb (by show w.heap.size < (w.alloc (.cells cs t)).heap.size; simp)
theorem blk_new {w w' : World} {t : TypeId} {cs : Array Value} (hb : Below (w.alloc (.cells cs t)).heap.size (w.alloc (.cells cs t)) w') : Blk w' w.heap.size t cs := (Blk.new w t cs).below hb (by simp)
theorem blk_new2 {w w' : World} {t : TypeId} {cs : Array Value} {o : Obj} (hb : Below ((w.alloc (.cells cs t)).alloc o).heap.size ((w.alloc (.cells cs t)).alloc o) w') : Blk w' w.heap.size t cs := ((Blk.new w t cs).alloc o).below hb (by simp; omega)
theorem blk_new3 {w w' : World} {t : TypeId} {cs : Array Value} {o : Obj} (hb : Below ((w.alloc o).alloc (.cells cs t)).heap.size ((w.alloc o).alloc (.cells cs t)) w') : Blk w' (w.heap.size + 1) t cs := by
  have := (Blk.new (w.alloc o) t cs).below hb (by simp)
  simpa using this
theorem blk_a {w w' : World} {g : Nat} {t : TypeId} {cs : Array Value} {o : Obj} (hb : Below (w.alloc o).heap.size (w.alloc o) w') (h : Blk w g t cs) : Blk w' g t cs := (h.alloc o).below hb (h.alloc o).lt
theorem blk_b {w w' : World} {g : Nat} {t : TypeId} {cs : Array Value} (hb : Below w.heap.size w w') (h : Blk w g t cs) : Blk w' g t cs := h.below hb h.lt
theorem own_b {w w' : World} {base : Nat} {e : TypeId} {size n : Nat} {v : Value} {xs : List Value} (hb : Below w.heap.size w w') (h : w.ownsRow base e size v n xs) : w'.ownsRow base e size v n xs := own_kept0 h (grown_of_below hb)
theorem own_ba {w w' : World} {base : Nat} {e : TypeId} {size n : Nat} {v : Value} {xs : List Value} {o : Obj} (hb : Below (w.alloc o).heap.size (w.alloc o) w') (h : w.ownsRow base e size v n xs) : w'.ownsRow base e size v n xs := own_kept0 (h.alloc o) (grown_of_below hb)
section
variable {w : World} {at1 at2 : Int} {v1 v2 : Value} {x1 x2 : List UInt8} {base base2 : Nat} {o : Obj}
theorem wrs_two_m (h1 : w.ownsRow base 5 1 v1 x1.length (bvs x1)) (h2 : w.ownsRow base2 5 1 v2 x2.length (bvs x2)) : Wrs (w.alloc (.cells #[.int .i64 at1, v1, .int .i64 at2, v2] 43)) (w.alloc (.cells #[.int .i64 at1, v1, .int .i64 at2, v2] 43)).heap.size (some ⟨w.heap.size, 0, none⟩) 2 [(at1, x1), (at2, x2)] := (wrs_two h1 h2).more (by simp)
theorem wrs_two_z (h1 : w.ownsRow base 5 1 v1 x1.length (bvs x1)) (h2 : w.ownsRow base2 5 1 v2 x2.length (bvs x2)) : Wrs ((w.alloc o).alloc (.cells #[.int .i64 at1, v1, .int .i64 at2, v2] 43)) ((w.alloc o).alloc (.cells #[.int .i64 at1, v1, .int .i64 at2, v2] 43)).heap.size (some ⟨w.heap.size + 1, 0, none⟩) 2 [(at1, x1), (at2, x2)] := by
  have := wrs_two_m (at1 := at1) (at2 := at2) (h1.alloc o) (h2.alloc o)
  rw [World.size_alloc w o] at this
  exact this
theorem wrs_two_za (h1 : w.ownsRow base 5 1 v1 x1.length (bvs x1)) (h2 : w.ownsRow base2 5 1 v2 x2.length (bvs x2)) : Wrs ((w.alloc (.cells #[.int .i64 at1, v1, .int .i64 at2, v2] 43)).alloc o) ((w.alloc (.cells #[.int .i64 at1, v1, .int .i64 at2, v2] 43)).alloc o).heap.size (some ⟨w.heap.size, 0, none⟩) 2 [(at1, x1), (at2, x2)] := wrs_after (wrs_two_m h1 h2) (below_one _ o)
theorem wrs_one_m (h1 : w.ownsRow base 5 1 v1 x1.length (bvs x1)) : Wrs (w.alloc (.cells #[.int .i64 at1, v1] 43)) (w.alloc (.cells #[.int .i64 at1, v1] 43)).heap.size (some ⟨w.heap.size, 0, none⟩) 1 [(at1, x1)] := (wrs_one h1).more (by simp)
theorem wrs_one_z (h1 : w.ownsRow base 5 1 v1 x1.length (bvs x1)) : Wrs ((w.alloc o).alloc (.cells #[.int .i64 at1, v1] 43)) ((w.alloc o).alloc (.cells #[.int .i64 at1, v1] 43)).heap.size (some ⟨w.heap.size + 1, 0, none⟩) 1 [(at1, x1)] := by
  have := wrs_one_m (at1 := at1) (h1.alloc o)
  rw [World.size_alloc w o] at this
  exact this
theorem wrs_one_za (h1 : w.ownsRow base 5 1 v1 x1.length (bvs x1)) : Wrs ((w.alloc (.cells #[.int .i64 at1, v1] 43)).alloc o) ((w.alloc (.cells #[.int .i64 at1, v1] 43)).alloc o).heap.size (some ⟨w.heap.size, 0, none⟩) 1 [(at1, x1)] := wrs_after (wrs_one_m h1) (below_one _ o)
end
theorem block5 (w : World) : Calls Try.prog 25 #[.int .u8 5] w (BRet w (blockL 5) id) := block_any 5 w
theorem block6 (w : World) : Calls Try.prog 25 #[.int .u8 6] w (BRet w (blockL 6) id) := block_any 6 w
theorem block7 (w : World) : Calls Try.prog 25 #[.int .u8 7] w (BRet w (blockL 7) id) := block_any 7 w

theorem chkB {A : Option Addr} {c : Nat} {w : World} (hd : Bss w w.heap.size A aB.secs.length aB.secs) : Calls Try.prog 19 #[.agg #[.slice A aB.secs.length c, .int .i64 aB.left, .int .i64 aB.torn, .bool true, .int .i64 aB.done]] w fun e w' => e = .returned (.bool true) ∧ Below w.heap.size w w' := by
  have := check_any A aB.secs.length c aB.left aB.torn true aB.done aB.secs w hd (by have := aB_sm.1; unfold maxLen; omega)
  rw [aB_ck] at this
  exact this
theorem chk0 {w : World} : Calls Try.prog 19 #[.agg #[.slice none 0 0, .int .i64 0, .int .i64 0, .bool false, .int .i64 0]] w fun e w' => e = .returned (.bool false) ∧ Below w.heap.size w w' :=
  check_any none 0 0 0 0 false 0 [] w ⟨rfl, [], Rd.none_ _, fun i v hv => by simp at hv⟩ (Nat.zero_le _)
/-- What the return keeps. -/
theorem keepT {W w' : World} {ba bb : Nat} {Aa A8 A10 : Option Addr} {ca c8 c10 base L : Nat} {l : List UInt8} {SR : ByteArray} (hL : L = l.length) (ha : DBox W ba Aa ca aA) (hb : DBox W bb A8 c8 aB) (ho : W.ownsRow base 5 1 (.slice A10 l.length c10) l.length (bvs l)) (hS : SR = ⟨l.toArray⟩) (h : Below W.heap.size W w') :
    w'.cell? ⟨ba, 4, none⟩ = some (.int .i64 2) ∧ w'.cell? ⟨bb, 0, none⟩ = some (.slice A8 aB.secs.length c8) ∧ w'.cell? ⟨bb, 1, none⟩ = some (.int .i64 aB.left) ∧ w'.cell? ⟨bb, 2, none⟩ = some (.int .i64 aB.torn) ∧ w'.cell? ⟨bb, 3, none⟩ = some (.bool true) ∧ w'.cell? ⟨bb, 4, none⟩ = some (.int .i64 aB.done) ∧
      (convert 30 9 (.slice A10 L c10)).run Try.prog w' = .ok (.string SR) w' ∧ Below W.heap.size W w' := by
  subst hL
  obtain ⟨h0, h1, h2, h3, h4⟩ := (hb.after h).cells
  have h5 := (ha.after h).cells.2.2.2.2
  rw [aB_off] at h3
  rw [aA_done] at h5
  subst hS
  exact ⟨h5, h0, h1, h2, h3, h4, conv_rd (own_rd (own_b h ho)) c10, h⟩

theorem conv_app {w : World} {base : Nat} {A : Option Addr} {c : Nat} {a b : List UInt8} {SR : ByteArray} (ho : w.ownsRow base 5 1 (.slice A (a.length + b.length) c) (a.length + b.length) (bvs a ++ bvs b)) (hS : SR = ⟨(a ++ b).toArray⟩) : (convert 30 9 (.slice A (a.length + b.length) c)).run Try.prog w = .ok (.string SR) w := by
  rw [← bvs_append, ← List.length_append] at ho
  rw [← List.length_append, hS]
  exact conv_rd (own_rd ho) c
theorem bel_app {W w13 w14 : World} {base n : Nat} {v : Value} {xs : List Value} (h : Below W.heap.size W w13) (hg : w13.grownBy w14 v.ownBlock) (ho : w13.ownsRow base 5 1 v n xs) (hb : W.heap.size ≤ base) : Below W.heap.size W w14 := h.grown hg h.size (fun g e => by obtain ⟨_, _, h', _⟩ := own_block ho e; omega)
attribute [local irreducible] blockL
set_option maxRecDepth 100000 in
set_option maxHeartbeats 16000000 in
theorem awake_any (w : World) : Calls Try.prog 8 #[] w fun e w' => e = .returned (.bool true) ∧ Below w.heap.size w w' := by
  go_enter Try.func8, Try.ntmps8
  go_upto_region 3 with (first
    | (go_at_call_of 10 (Value.int .i64 4); refine (new4 _).mono ?_; rintro e w1 ⟨A1, c1, vs1, rfl, hO1, hB1⟩)
    | (go_at_call_of 10 (Value.int .i64 3); refine (new3 _).mono ?_; rintro e w2 ⟨A2, c2, vs2, rfl, hO2, hB2⟩))
  have hd1 : DBox (w2.alloc (.cells #[.slice A2 0 c2, .int .i64 0, .int .i64 0, .bool false, .int .i64 0] 24)) w1.heap.size A1 c1 aD := ((DBox.new hO1).after hB2).alloc _
  have hBw : Below w.heap.size w (w2.alloc (.cells #[.slice A2 0 c2, .int .i64 0, .int .i64 0, .bool false, .int .i64 0] 24)) := by
    have h1 := hB1.alloc hB1.size (.cells #[.slice A1 aD.secs.length c1, .int .i64 aD.left, .int .i64 aD.torn, .bool aD.off, .int .i64 aD.done] 24)
    have h2 := h1.trans (hB2.mono h1.size)
    exact h2.alloc h2.size _
  generalize (w2.alloc (.cells #[.slice A2 0 c2, .int .i64 0, .int .i64 0, .bool false, .int .i64 0] 24)) = W at hd1 hBw ⊢
  clear hO1 hO2 hB1 hB2
  go_cut [5, 6] (fun s5 s6 wx => ∃ (b : Nat) (A : Option Addr) (c : Nat), s5 = .pointer (some ⟨b, 0, none⟩) ∧ s6 = .int .i64 0 ∧ DBox wx b A c aA ∧ Below W.heap.size W wx)
  case first =>
    have hdl := Lib.hid hd1
    clear hBw hd1
    go_region_held3 (fun w' => w'.cell? ⟨w1.heap.size, 0, none⟩ = some (.slice A1 aD.secs.length c1) ∧ w'.cell? ⟨w1.heap.size, 1, none⟩ = some (.int .i64 aD.left) ∧ w'.cell? ⟨w1.heap.size, 2, none⟩ = some (.int .i64 aD.torn) ∧ w'.cell? ⟨w1.heap.size, 3, none⟩ = some (.bool aD.off) ∧ w'.cell? ⟨w1.heap.size, 4, none⟩ = some (.int .i64 aD.done) ∧ Below W.heap.size W w')
      ((refine keepS hdl.out ?_; first | simp only [Below.refl, bel_drew, bel_alloc, *] | exact bel_set (bel_set (bel_set (bel_set (bel_set hW5 (by omega)) (by omega)) (by omega)) (by omega)) (by omega)))
      (first
        | (go_at_call_of 25 (Value.int .u8 5); go_split_ands; refine (block5 _).mono ?_; rintro e w3 ⟨v3, rfl, ho3, hB3⟩; obtain ⟨A3, c3, rfl, r1, r2⟩ := own_form ho3; have hW3 := keepB hB3 (W := W) (by with_reducible assumption); have s3 := hW3.size; have hWl : W.heap.size ≤ W.heap.size := Nat.le_refl _; try (have z3 : Blk w3 W.heap.size 24 zbx := (by with_reducible exact blk_new_d hB3)))
        | (go_at_call_of 25 (Value.int .u8 6); go_split_ands; refine (block6 _).mono ?_; rintro e w4 ⟨v4, rfl, ho4, hB4⟩; obtain ⟨A4, c4, rfl, r3, r4⟩ := own_form ho4; have hW4 := keepB hB4 (W := W) (by with_reducible assumption); have s4 := hW4.size; have s4' : W.heap.size ≤ w4.heap.size + 1 := (by omega); have ho3' : w4.ownsRow _ 5 1 (.slice A3 (blockL 5).length c3) (blockL 5).length (bvs (blockL 5)) := (by first | with_reducible exact own_b hB4 ho3 | with_reducible exact own_ba hB4 ho3); (first | (have z4 : Blk w4 W.heap.size 24 zbx := (by with_reducible exact blk_b hB4 z3)) | (have z4 : Blk w4 w3.heap.size 24 zbx := (by with_reducible exact blk_new hB4)) | skip))
        | (go_at_call 22; go_split_ands; refine (doA (bss_after hdl.out.secs (by with_reducible assumption)) (by first | with_reducible exact wrs_two_m ho3' ho4 | with_reducible exact wrs_two_z ho3' ho4 | with_reducible exact wrs_two_za ho3' ho4)).mono ?_; rintro e w5 ⟨A5, c5, vs5, rfl, hO5, hB5⟩; have hW5 := keepB hB5 (W := W) (by with_reducible assumption); (first | (have z5 := blk_a hB5 z4) | (have z5 : Blk w5 w4.heap.size 24 zbx := (by with_reducible exact blk_new2 hB5)) | (have z5 : Blk w5 (w4.heap.size + 1) 24 zbx := (by with_reducible exact blk_new3 hB5)) | skip); try (have cz := z5.cell; have fz := z5.frozen)))
    all_goals (go_wp2_with fail; go_meet)
    · exact ⟨_, _, _, rfl, rfl, DBox.new hO5, bel_alloc hW5⟩
    all_goals exact ⟨_, _, _, rfl, rfl, DBox.store hO5 z5, bel_set (bel_set (bel_set (bel_set (bel_set hW5 (by omega)) (by omega)) (by omega)) (by omega)) (by omega)⟩
  case rest =>
    obtain ⟨ba, Aa, ca, rfl, rfl, hda, hBa⟩ := hcut
    have hBc : Below w.heap.size w wc := hBw.trans (hBa.mono hBw.size)
    clear hd1 hBa hBw
    obtain ⟨qa0, qa1, qa2, qa3, qa4⟩ := hda.cells
    have HDA := Lib.hid hda
    clear hda
    have ta : (aA.done == 2) = true := by rw [aA_done]; rfl
    go_upto_region 5 with (first
      | (go_at_call 15; refine (limL HDA.out.secs).mono ?_; rintro e w6 ⟨A6, c6, vs6, rfl, hO6, hB6⟩)
      | (go_at_call 25; refine (block7 _).mono ?_; rintro e w7 ⟨v7, rfl, ho7, hB7⟩; obtain ⟨A7, c7, rfl, r7, r8⟩ := own_form ho7)
      | (go_at_call 22; refine (doB (bss_after (bss_after hO6.bss hB7) (below_one _ _)) (wrs_one_m ho7)).mono ?_; rintro e w8 ⟨A8, c8, vs8, rfl, hO8, hB8⟩))
    have hdb : DBox (w8.alloc (.cells #[.slice A8 aB.secs.length c8, .int .i64 aB.left, .int .i64 aB.torn, .bool aB.off, .int .i64 aB.done] 24)) w8.heap.size A8 c8 aB := DBox.new hO8
    have hda : DBox (w8.alloc (.cells #[.slice A8 aB.secs.length c8, .int .i64 aB.left, .int .i64 aB.torn, .bool aB.off, .int .i64 aB.done] 24)) ba Aa ca aA := ((((HDA.out.after hB6).after hB7).alloc _).after hB8).alloc _
    have hBd : Below w.heap.size w (w8.alloc (.cells #[.slice A8 aB.secs.length c8, .int .i64 aB.left, .int .i64 aB.torn, .bool aB.off, .int .i64 aB.done] 24)) := by
      have h1 := keepB hB7 (keepB hB6 (W := w) hBc)
      exact bel_alloc (keepB hB8 (bel_alloc h1))
    generalize (w8.alloc (.cells #[.slice A8 aB.secs.length c8, .int .i64 aB.left, .int .i64 aB.torn, .bool aB.off, .int .i64 aB.done] 24)) = W' at hdb hda hBd ⊢
    generalize w8.heap.size = bb at hdb ⊢
    clear hO6 hO8 hB6 hB7 hB8 ho7 HDA qa0 qa1 qa2 qa3 qa4 hBc
    go_cut [10] (fun s10 wx => s10 = .int .i64 170 ∧ Below W'.heap.size W' wx)
    case first =>
      have hdl := Lib.hid hdb
      clear hdb hda hBd
      go_region_held3 (fun w' => w'.cell? ⟨bb, 0, none⟩ = some (.slice A8 aB.secs.length c8) ∧ w'.cell? ⟨bb, 1, none⟩ = some (.int .i64 aB.left) ∧ w'.cell? ⟨bb, 2, none⟩ = some (.int .i64 aB.torn) ∧ w'.cell? ⟨bb, 3, none⟩ = some (.bool aB.off) ∧ w'.cell? ⟨bb, 4, none⟩ = some (.int .i64 aB.done) ∧ Below W'.heap.size W' w')
        ((refine keepS hdl.out ?_; first | simp only [Below.refl, bel_drew, bel_alloc, *] | exact bel_set (bel_set (bel_set (bel_set (bel_set hW5 (by omega)) (by omega)) (by omega)) (by omega)) (by omega)))
        (first
          | (go_at_call 25; go_split_ands; refine (block7 _).mono ?_; rintro e w4 ⟨v4, rfl, ho4, hB4⟩; obtain ⟨A4, c4, rfl, r3, r4⟩ := own_form ho4; have hW4 := keepB hB4 (W := W') (by with_reducible assumption); have s4 := hW4.size; try (have z4 : Blk w4 W'.heap.size 24 zbx := (by with_reducible exact blk_new_d hB4)))
          | (go_at_call 22; go_split_ands; refine (doI (bss_after hdl.out.secs (by with_reducible assumption)) (by first | with_reducible exact wrs_one_m ho4 | with_reducible exact wrs_one_z ho4 | with_reducible exact wrs_one_za ho4)).mono ?_; rintro e w5 ⟨A5, c5, vs5, rfl, hO5, hB5⟩; have hW5 := keepB hB5 (W := W') (by with_reducible assumption); (first | (have z5 := blk_a hB5 z4) | (have z5 : Blk w5 w4.heap.size 24 zbx := (by with_reducible exact blk_new2 hB5)) | (have z5 : Blk w5 (w4.heap.size + 1) 24 zbx := (by with_reducible exact blk_new3 hB5)) | skip); try (have cz := z5.cell; have fz := z5.frozen)))
      all_goals (go_wp2_with fail; go_meet)
      · exact ⟨rfl, bel_alloc hW5⟩
      all_goals exact ⟨rfl, bel_set (bel_set (bel_set (bel_set (bel_set hW5 (by omega)) (by omega)) (by omega)) (by omega)) (by omega)⟩
    case rest =>
      obtain ⟨rfl, hBe⟩ := hcut
      have hBf := hBd.trans (hBe.mono hBd.size)
      have Db := Lib.hid (hdb.after hBe)
      have Da := Lib.hid (hda.after hBe)
      obtain ⟨qb0, qb1, qb2, qb3, qb4⟩ := Db.out.cells
      clear hdb hda hBd hBe
      go_upto_region 8 with (first
        | (go_at_call 17; refine (onO Db.out.secs).mono ?_; rintro e w6 ⟨A6, c6, vs6, rfl, hO6, hB6⟩)
        | (go_at_call 25; refine (block7 _).mono ?_; rintro e w7 ⟨v7, rfl, ho7, hB7⟩; obtain ⟨A7, c7, rfl, r7, r8⟩ := own_form ho7)
        | (go_at_call 22; refine (doJ (bss_after (bss_after hO6.bss hB7) (below_one _ _)) (wrs_one_m ho7)).mono ?_; rintro e w8 ⟨A9, c9, vs9, rfl, hO9, hB9⟩; have Db8 := ((((Db.out.after hB6).after hB7).alloc _).after hB9).alloc (.cells #[.slice A9 aJ.secs.length c9, .int .i64 aJ.left, .int .i64 aJ.torn, .bool aJ.off, .int .i64 aJ.done] 24); obtain ⟨qc0, qc1, qc2, qc3, qc4⟩ := Db8.cells)
        | (go_at_call 12; refine (readR1 Db8.secs Db8.cap Db8.cm).mono ?_; rintro e w9 ⟨v9, rfl, ho9, hB10⟩; obtain ⟨A10, c10, rfl, r9, r10⟩ := own_form ho9))
      have Db9 := Lib.hid (Db8.after hB10)
      have Da9 := Lib.hid ((((((Da.out.after hB6).after hB7).alloc (.cells #[.int .i64 1, .slice A7 (blockL 7).length c7] 43)).after hB9).alloc (.cells #[.slice A9 aJ.secs.length c9, .int .i64 aJ.left, .int .i64 aJ.torn, .bool aJ.off, .int .i64 aJ.done] 24)).after hB10)
      have hB9w : Below w.heap.size w w9 := keepB hB10 (bel_alloc (keepB hB9 (bel_alloc (keepB hB7 (keepB hB6 hBf)))))
      obtain ⟨qd0, qd1, qd2, qd3, qd4⟩ := Db9.out.cells
      obtain ⟨qe0, qe1, qe2, qe3, qe4⟩ := Da9.out.cells
      have H9 := Lib.hid ho9
      clear ta qb0 qb1 qb2 qb3 qb4 qc0 qc1 qc2 qc3 qc4 Db8 hB6 hB7 hB9 hB10 hO6 hO9 ho7 ho9 Db Da hBf qe0 qe1 qe2 qe3 r7 r8
      go_upto_region 9 with (go_at_call 12; refine (readR2 Db9.out.secs Db9.out.cap Db9.out.cm).mono ?_; rintro e w10 ⟨v11, rfl, ho11, hB11⟩; obtain ⟨A11, c11, rfl, r11, r12⟩ := own_form ho11)
      have Db10 := Lib.hid (Db9.out.after hB11)
      have Da10 := Lib.hid (Da9.out.after hB11)
      have hB10w : Below w.heap.size w w10 := keepB hB11 hB9w
      have H10 := Lib.hid (own_b hB11 H9.out)
      obtain ⟨qg0, qg1, qg2, qg3, qg4⟩ := Db10.out.cells
      have qh4 := Da10.out.cells.2.2.2.2
      rw [aB_off] at qg3
      rw [aA_done] at qh4
      clear qd0 qd1 qd2 qd3 qd4 qe4 ho11 hB11 Db9 Da9 hB9w H9
      obtain ⟨SR, hSR⟩ : ∃ SR : ByteArray, SR = ⟨(blockL 7 ++ blockL 6).toArray⟩ := ⟨_, rfl⟩
      have HS := Lib.hid hSR
      clear hSR
      have hK := Lib.hid (fun w' => keepT (w' := w') (L := (blockL 7).length + (blockL 6).length) (by rw [List.length_append]) Da10.out Db10.out H10.out HS.out)
      have e1 : (SR.toList == SR.toList) = true := by simp
      have hl1 : (blockL 7).length + (blockL 6).length ≤ maxLen := by rw [blockL_length, blockL_length]; unfold maxLen; omega
      have hl2 : ((blockL 7).length + (blockL 6).length) * 1 ≤ 140737488355328 := by rw [blockL_length, blockL_length]; omega
      obtain ⟨i2, hi2, hz2, hs2, hb2⟩ := infoTBi
      clear qg0 qg1 qg2 qg3 qg4 qh4
      simp only [List.append_eq, List.cons_append, List.nil_append]
      refine wp_region_noPanic ?_
      go_region_held_law (fun w' => w'.cell? ⟨ba, 4, none⟩ = some (.int .i64 2) ∧ w'.cell? ⟨bb, 0, none⟩ = some (.slice A8 aB.secs.length c8) ∧ w'.cell? ⟨bb, 1, none⟩ = some (.int .i64 aB.left) ∧ w'.cell? ⟨bb, 2, none⟩ = some (.int .i64 aB.torn) ∧ w'.cell? ⟨bb, 3, none⟩ = some (.bool true) ∧ w'.cell? ⟨bb, 4, none⟩ = some (.int .i64 aB.done) ∧ (convert 30 9 (.slice A10 ((blockL 7).length + (blockL 6).length) c10)).run Try.prog w' = .ok (.string SR) w' ∧ Below w10.heap.size w10 w')
        ((refine hK.out _ ?_; simp only [Below.refl, bel_drew, *]))
        (first
          | (refine step_append_w _ (by rfl) (.tmp 105) (.tmp 106) 30 (by rfl) _ 5 i2 (.int .u8 0) 1 1 Try.underlying30 hi2 hz2 hs2 hb2 rfl (by omega) (.slice A12 (blockL 7).length c12) (blockL 7).length (bvs (blockL 7)) (by rfl) ho12' w13.heap.size A13 (blockL 6).length c13 (bvs (blockL 6)) (by rfl) hr13 (bvs_one _) hl1 hl2 hz13 ?_; intro v14 w14 ho14 hg14 hat14; have hW14 := bel_app hW13 hg14 ho12' (Nat.le_refl _); obtain ⟨A14, c14, rfl, r17, r18⟩ := own_form ho14; have cv14 := conv_app ho14 HS.out)
          | (go_at_call_of 25 (Value.int .u8 7); go_split_ands; refine (block7 _).mono ?_; rintro e w12 ⟨v12, rfl, ho12, hB12⟩; obtain ⟨A12, c12, rfl, r13, r14⟩ := own_form ho12; have hW12 := keepB hB12 (W := w10) (by with_reducible assumption))
          | (go_at_call_of 25 (Value.int .u8 6); go_split_ands; refine (block6 _).mono ?_; rintro e w13 ⟨v13, rfl, ho13, hB13⟩; obtain ⟨A13, c13, rfl, r15, r16⟩ := own_form ho13; have hW13 := keepB hB13 (W := w10) hW12; have ho12' := own_b hB13 ho12; have hr13 : Rd w13 w13.heap.size A13 ((blockL 6).length * 1) (bvs (blockL 6)) := (by rw [Nat.mul_one]; exact own_rd ho13); have hz13 := hW13.size)
          | (go_at_call_of 19 (Value.agg #[.slice none 0 0, .int .i64 0, .int .i64 0, .bool false, .int .i64 0]); go_split_ands; refine chk0.mono ?_; rintro e w16 ⟨rfl, hB16⟩; have hW16 := keepB hB16 (W := w10) hW15)
          | (go_at_call 19; go_split_ands; refine (chkB (bss_after Db10.out.secs hW14)).mono ?_; rintro e w15 ⟨rfl, hB15⟩; have hW15 := keepB hB15 (W := w10) hW14))
      refine NoPanic.normal ?_
      go_wp2
      go_ret
      exact ⟨rfl, keepB hW16 hB10w⟩
end Go.Proofs.Ytgeofnemlijbgaa
