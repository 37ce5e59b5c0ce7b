/- law18's awake. -/
import Derived.Test.YtgeofnemlijbgaaDoorVL
import Derived.Lib.SlBytesConst
namespace Go.Proofs.YtgeofnemlijbgaaDoor
open Go.RowKit
set_option linter.unusedVariables false
set_option linter.unusedSimpArgs false

theorem DBox.new {w : World} {base : Nat} {A : Option Addr} {c : Nat} {vs : List Value} {d : Dsk} (h : OwnS w base (.slice A d.secs.length c) vs d.secs) : DBox (w.alloc (.cells #[.slice A d.secs.length c, .int .i64 d.left, .int .i64 d.torn, .bool d.off, .int .i64 d.done] 24)) w.heap.size A c d := by
  obtain ⟨A', c', e, h1, h2⟩ := h.form
  injection e with ea _ ec
  subst ea
  subst ec
  exact DBox.arg h.bss h1 h2
def t1 : List UInt8 := [111, 110, 101]
def t2 : List UInt8 := [116, 119, 111]
def b0 : Dsk := (newD 6).1
def b1 : Dsk := (saveD b0 t1).1
def b2 : Dsk := (saveD b1 t2).1
theorem b0_ck : checkB b0.secs = true := by decide +kernel
theorem b0_on : OnD b0 := by unfold OnD; decide +kernel
theorem b0_new : newestD b0 = none := by decide +kernel
theorem b0_full : fullD b0 t1 = false := by decide +kernel
theorem b0_tgt : tgtD b0 = (0, 0) := by decide +kernel
theorem b0_load : loadD b0 = ([], 0, 181) := by unfold loadD; rw [b0_ck, if_pos rfl, b0_new]
theorem b1_save : saveD b0 t1 = (b1, 0) := Prod.ext rfl (save_has b0_ck b0_on b0_full).1
theorem b1_has : Has b1 0 0 t1 := by have := (save_has b0_ck b0_on b0_full).2.1; rw [b0_tgt] at this; exact this
theorem b1_len : b1.secs.length = 6 := (save_has b0_ck b0_on b0_full).2.2.1
theorem b1_full : fullD b1 t2 = false := by unfold fullD maxD; rw [b1_has.new, b1_len]; decide +kernel
theorem b1_tgt : tgtD b1 = (1, 1) := by unfold tgtD; rw [b1_has.new]
theorem b2_save : saveD b1 t2 = (b2, 0) := Prod.ext rfl (save_has b1_has.ck b1_has.on b1_full).1
theorem b2_has : Has b2 1 1 t2 := by have := (save_has b1_has.ck b1_has.on b1_full).2.1; rw [b1_tgt] at this; exact this
theorem b2_len : b2.secs.length = 6 := ((save_has b1_has.ck b1_has.on b1_full).2.2.1).trans b1_len
theorem b2_full : fullD b2 (zeros 129) = true := by unfold fullD maxD; rw [b2_has.new, b2_len]; decide +kernel
theorem b2_save2 : saveD b2 (zeros 129) = (b2, 180) := save_full b2_has.ck b2_full
theorem b0_sm : Sm b0.secs := sm_check b0_ck
theorem b1_sm : Sm b1.secs := sm_check b1_has.ck
theorem b2_sm : Sm b2.secs := sm_check b2_has.ck
theorem b0_left : b0.left ≤ 9223372036854775807 := by rw [b0_on.2]; omega
theorem b1_left : b1.left ≤ 9223372036854775807 := by rw [b1_has.on.2]; omega
theorem b2_left : b2.left ≤ 9223372036854775807 := by rw [b2_has.on.2]; omega
def zc129 : Array Value := madeCells #[.int .u8 0] 129
theorem run_make129 (w : World) : (Instr.makeSlice 25 (.int .i64 129) (.int .i64 129)).run Tryd.prog w = .ok (.slice (some ⟨w.heap.size, 0, none⟩) 129 129) (w.alloc (.cells zc129 5)) := by
  obtain ⟨i2, hi2, hz2, hs2, hb2⟩ := info_parts infoTB
  have h := run_make (P := Tryd.prog) w 25 5 i2 (.int .u8 0) Tryd.underlying25 hi2 hz2 .i64 .i64 129 129 (by omega) (by omega) (by rw [hb2]; decide) (by omega)
  rw [hs2] at h
  exact h
theorem rd_z129 (w : World) : Rd (w.alloc (.cells zc129 5)) (w.alloc (.cells zc129 5)).heap.size (some ⟨w.heap.size, 0, none⟩) 129 (bvs (zeros 129)) := by
  have h := World.ownsRow_lit (e := 5) (size := 1) w zc129 129 (Nat.le_refl w.heap.size) (by unfold maxLen; omega) (by rw [zc129, size_madeCells])
  have e : zc129.toList = bvs (zeros 129) := made_zeros 129
  rw [e] at h
  exact own_rd h
theorem rd_lit3 (w : World) (a b c : UInt8) {x y z : Value} (p : Nat × Nat) (hx : x = bv a) (hy : y = bv b) (hz : z = bv c) : Rd (w.alloc (.cells #[x, y, z] 5 p)) (w.alloc (.cells #[x, y, z] 5 p)).heap.size (some ⟨w.heap.size, 0, none⟩) 3 (bvs [a, b, c]) := by
  subst hx hy hz
  refine ⟨rfl, fun _ => ⟨_, rfl, by simp, fun j u hu => ?_⟩⟩
  rw [Addr.add_lit, Nat.zero_add]
  have hc : (w.alloc (.cells #[bv a, bv b, bv c] 5 p)).heap[w.heap.size]? = some (.cells #[bv a, bv b, bv c] 5 p) := World.alloc_heap_new w _
  have : (w.alloc (.cells #[bv a, bv b, bv c] 5 p)).cell? ⟨w.heap.size, j, none⟩ = #[bv a, bv b, bv c][j]? := cell_of_row _ _ j _ 5 p hc
  rw [this, ← hu]
  simp [bvs]
theorem conv_lit (w : World) (C : Array Value) (n c : Nat) : (convert 25 25 (.slice (some ⟨w.heap.size, 0, none⟩) n c)).run Tryd.prog (w.alloc (.cells C 5)) = .ok (.slice (some ⟨w.heap.size, 0, none⟩) n c) (w.alloc (.cells C 5 (C.size, C.size + 1))) :=
  Lib.run_convert_bytes_const (P := Tryd.prog) w 25 5 C n c Tryd.underlying25 Tryd.underlying5
theorem rd_lit3b (w : World) (o : Obj) (a b c : UInt8) {x y z : Value} (p : Nat × Nat) (hx : x = bv a) (hy : y = bv b) (hz : z = bv c) : Rd ((w.alloc o).alloc (.cells #[x, y, z] 5 p)) ((w.alloc o).alloc (.cells #[x, y, z] 5 p)).heap.size (some ⟨w.heap.size + 1, 0, none⟩) 3 (bvs [a, b, c]) := by
  have := rd_lit3 (w.alloc o) a b c p hx hy hz
  rw [World.size_alloc w] at this
  exact this
theorem conv_lit2 (w : World) (o : Obj) (C : Array Value) (n c : Nat) : (convert 25 25 (.slice (some ⟨w.heap.size + 1, 0, none⟩) n c)).run Tryd.prog ((w.alloc o).alloc (.cells C 5)) = .ok (.slice (some ⟨w.heap.size + 1, 0, none⟩) n c) ((w.alloc o).alloc (.cells C 5 (C.size, C.size + 1))) := by
  have := conv_lit (w.alloc o) C n c
  rw [World.size_alloc w] at this
  exact this
theorem conv_two {w : World} {B : Nat} {A : Option Addr} (h : Rd w B A t2.length (bvs t2)) (c : Nat) : (convert 25 9 (.slice A t2.length c)).run Tryd.prog w = .ok (.string ⟨#[116, 119, 111]⟩) w := conv_rd (l := t2) h c
section
variable {A : Option Addr} {c : Nat} {w : World}
theorem new6 (w : World) : Calls Tryd.prog 16 #[.int .i64 6] w (DRet w b0 fun v => .tuple #[v, .int .i64 0]) := new_any 6 w
theorem ld0 {b : Nat} (h : DBox w b A c b0) : Calls Tryd.prog 18 #[dvD A c b0] w (LRet w ([], 0, 181)) := by
  have := load_any A c b0 w h.secs h.cap h.cm b0_sm; rw [b0_load] at this; exact this
theorem ld2 {b : Nat} (h : DBox w b A c b2) : Calls Tryd.prog 18 #[dvD A c b2] w (LRet w (t2, 1, 0)) := by
  have := load_any A c b2 w h.secs h.cap h.cm b2_sm; rw [b2_has.load] at this; exact this
theorem sv0 {b : Nat} {At : Option Addr} (h : DBox w b A c b0) (ht : Rd w w.heap.size At 3 (bvs t1)) : Calls Tryd.prog 12 #[dvD A c b0, .slice At 3 3] w (DRet w b1 fun v => .tuple #[v, .int .i64 0]) := by
  have := save_any A c b0 At 3 t1 w h.secs h.cap h.cm b0_sm b0_left ht (Nat.le_refl _) (by decide); rw [b1_save] at this; exact this
theorem sv1 {b : Nat} {At : Option Addr} (h : DBox w b A c b1) (ht : Rd w w.heap.size At 3 (bvs t2)) : Calls Tryd.prog 12 #[dvD A c b1, .slice At 3 3] w (DRet w b2 fun v => .tuple #[v, .int .i64 0]) := by
  have := save_any A c b1 At 3 t2 w h.secs h.cap h.cm b1_sm b1_left ht (Nat.le_refl _) (by decide); rw [b2_save] at this; exact this
theorem sv2 {b : Nat} {At : Option Addr} (h : DBox w b A c b2) (ht : Rd w w.heap.size At 129 (bvs (zeros 129))) : Calls Tryd.prog 12 #[dvD A c b2, .slice At 129 129] w (DRet w b2 fun v => .tuple #[v, .int .i64 180]) := by
  have hz : (zeros 129).length = 129 := zeros_length 129
  have := save_any A c b2 At 129 (zeros 129) w h.secs h.cap h.cm b2_sm b2_left (by rw [hz]; exact ht) (by rw [hz]; exact Nat.le_refl _) (by rw [hz]; decide); rw [b2_save2, hz] at this; exact this
theorem sc2 {b : Nat} (h : DBox w b A c b2) : Calls Tryd.prog 14 #[dvD A c b2] w (WRet w ([], 0)) := by
  have := scrub_any A c b2 w h.secs h.cap h.cm b2_sm; rw [b2_has.scrub] at this; exact this
theorem rc2 {b : Nat} (h : DBox w b A c b2) : Calls Tryd.prog 27 #[dvD A c b2] w (RRet w (b2, t2, 1, 0)) := by
  have := recover_any A c b2 w h.secs h.cap h.cm b2_sm; rw [b2_has.rec_] at this; exact this
theorem ck2 {b : Nat} (h : DBox w b A c b2) : Calls Tryd.prog 11 #[dvD A c b2] w fun e w' => e = .returned (.bool true) ∧ Below w.heap.size w w' := by
  have := check_any A b2.secs.length c b2.left b2.torn b2.off b2.done b2.secs w h.secs (by have := b2_sm.1; unfold maxLen; omega)
  rw [b2_has.ck] at this
  exact this
end
attribute [irreducible] b0 b1 b2 zc129

set_option maxRecDepth 100000 in
set_option maxHeartbeats 16000000 in
theorem awake_any (w : World) : Calls Tryd.prog 9 #[] w fun e w' => e = .returned (.bool true) ∧ Below w.heap.size w w' := by
  go_enter Tryd.func9, Tryd.ntmps9
  have kc := conv_lit
  have kc2 := conv_lit2
  go_upto_region 6 with (first
    | (go_at_call 18; have _t := D8; refine (ld2 D8.out).mono ?_; rintro e w10 ⟨A10, c10, rfl, k1, k2, k3, hB10, k4⟩; have T10 := Lib.hid k3; have D10 := Lib.hid (D8.out.after hB10); have HB10 := Lib.hid (keepB hB10 HB8.out); clear k1 k2 k3 k4 hB10 q0 q1 q2 q3 q4; obtain ⟨q0, q1, q2, q3, q4⟩ := D10.out.cells)
    | (go_at_call 12; have _t := D6; refine (sv1 (D6.out.alloc _) (rd_lit3b _ _ 116 119 111 _ rfl rfl rfl)).mono ?_; rintro e w8 ⟨A8, c8, vs8, rfl, hO8, hB8⟩; have D8 := Lib.hid (DBox.new hO8); have HB8 := Lib.hid (bel_al (o := (.cells #[.slice A8 b2.secs.length c8, .int .i64 b2.left, .int .i64 b2.torn, .bool b2.off, .int .i64 b2.done] 24)) (keepB hB8 (bel_al HB6.out))); clear hO8 hB8 q0 q1 q2 q3 q4; obtain ⟨q0, q1, q2, q3, q4⟩ := D8.out.cells; dsimp only)
    | (go_at_call 12; refine (sv0 (D3.out.alloc _) (rd_lit3 _ 111 110 101 _ rfl rfl rfl)).mono ?_; rintro e w6 ⟨A6, c6, vs6, rfl, hO6, hB6⟩; have D6 := Lib.hid (DBox.new hO6); have HB6 := Lib.hid (bel_al (o := (.cells #[.slice A6 b1.secs.length c6, .int .i64 b1.left, .int .i64 b1.torn, .bool b1.off, .int .i64 b1.done] 24)) (keepB hB6 (bel_al HB3.out))); clear hO6 hB6 q0 q1 q2 q3 q4; obtain ⟨q0, q1, q2, q3, q4⟩ := D6.out.cells; dsimp only)
    | (go_at_call 18; refine (ld0 D1.out).mono ?_; rintro e w3 ⟨A3, c3, rfl, k1, k2, k3, hB3, k4⟩; have D3 := Lib.hid (D1.out.after hB3); have HB3 := Lib.hid (keepB hB3 HB1.out); clear k1 k2 k3 k4 hB3 q0 q1 q2 q3 q4; obtain ⟨q0, q1, q2, q3, q4⟩ := D3.out.cells)
    | (go_at_call 16; refine (new6 _).mono ?_; rintro e w1 ⟨A1, c1, vs1, rfl, hO1, hB1⟩; have D1 := Lib.hid (DBox.new hO1); have HB1 := Lib.hid (bel_al (o := (.cells #[.slice A1 b0.secs.length c1, .int .i64 b0.left, .int .i64 b0.torn, .bool b0.off, .int .i64 b0.done] 24)) hB1); clear hO1 hB1; obtain ⟨q0, q1, q2, q3, q4⟩ := D1.out.cells; dsimp only))
  obtain ⟨gb, hgb⟩ : ∃ g, g = w8.heap.size := ⟨_, rfl⟩
  rw [← hgb] at D8 D10 q0 q1 q2 q3 q4 ⊢
  clear hgb D1 D3 D6 HB1 HB3 HB6 HB8 D8
  obtain ⟨W, hW⟩ : ∃ W, W = w10 := ⟨_, rfl⟩
  rw [← hW] at T10 D10 HB10 q0 q1 q2 q3 q4 ⊢
  clear hW
  have HS : Hid (∀ w' : World, Below W.heap.size W w' → (fun w' => w'.cell? ⟨gb, 0, none⟩ = some (.slice A8 b2.secs.length c8) ∧ w'.cell? ⟨gb, 1, none⟩ = some (.int .i64 b2.left) ∧ w'.cell? ⟨gb, 2, none⟩ = some (.int .i64 b2.torn) ∧ w'.cell? ⟨gb, 3, none⟩ = some (.bool b2.off) ∧ w'.cell? ⟨gb, 4, none⟩ = some (.int .i64 b2.done)) w') := Lib.hid (fun w' h => (D10.out.after h).cells)
  go_cut [14] (fun s14 wc => s14 = .int .i64 180 ∧ Below W.heap.size W wc)
  case first =>
    have hmk := run_make129
    clear q0 q1 q2 q3 q4
    have hY0 : Below W.heap.size W W.drew := bel_dr (Below.refl _ _)
    refine wp_calm ?_
    refine wp_region_held_drew (S := fun w' => w'.cell? ⟨gb, 0, none⟩ = some (.slice A8 b2.secs.length c8) ∧ w'.cell? ⟨gb, 1, none⟩ = some (.int .i64 b2.left) ∧ w'.cell? ⟨gb, 2, none⟩ = some (.int .i64 b2.torn) ∧ w'.cell? ⟨gb, 3, none⟩ = some (.bool b2.off) ∧ w'.cell? ⟨gb, 4, none⟩ = some (.int .i64 b2.done)) (by kernel_rfl) (HS.out _ hY0) (fun hHeld => ?_)
    refine hw_t (i := 0) (d := some 54) (v := ?_) rfl rfl (by kernel_rfl) (by kernel_rfl) (by kernel_rfl) (fun _ _ _ h => h) (by rfl) ?_ (by assumption) ?_
    rotate_left
    · intro w' hSw
      (try dsimp only at hSw)
      go_split_ands
      go_simp
      try with_reducible rfl
    try simp only [Act.put, List.setIfInBounds_toArray, List.set_cons_zero, List.set_cons_succ]
    generalize W.drew = Y0 at hHeld hY0 ⊢
    refine wpAnyH_ready (rs := [1, 6]) (by kernel_rfl) (by simp) ?_
    refine AllReadyH.cons rfl (fun K hK => ?_) (AllReadyH.cons rfl (fun K hK => ?_) AllReadyH.nil)
    · skip
      go_simp
      have hY1 := bel_al (o := .cells zc129 5) hY0
      refine hK.out _ _ (HS.out _ hY1) (fun hHeld => ?_)
      clear hK K
      try simp only [Act.put, List.setIfInBounds_toArray, List.set_cons_zero, List.set_cons_succ]
      have hz := Lib.hid (rd_z129 Y0)
      obtain ⟨gz, hgz⟩ : ∃ g, g = Y0.heap.size := ⟨_, rfl⟩
      rw [← hgz] at hz ⊢
      generalize (Y0.alloc (.cells zc129 5)) = Y1 at hHeld hY1 hz ⊢
      clear hgz
      refine wpAnyH_ready (rs := [2, 6]) (by kernel_rfl) (by simp) ?_
      refine AllReadyH.cons rfl (fun K hK => ?_) (AllReadyH.cons rfl (fun K hK => ?_) AllReadyH.nil)
      · skip
        go_simp
        go_wp2_with (go_at_call 12; refine (sv2 (D10.out.after hY1) (hz.out)).mono ?_; rintro e Y2 ⟨A2, c2, vs2, rfl, hO2, hB2⟩; dsimp only)
        have hY2 := keepB hB2 hY1
        refine hK.out _ _ (HS.out _ hY2) (fun hHeld => ?_)
        clear hK K
        try simp only [Act.put, List.setIfInBounds_toArray, List.set_cons_zero, List.set_cons_succ]
        refine hw_t (i := 3) (d := some 53) (v := ?_) rfl rfl (by kernel_rfl) (by kernel_rfl) (by kernel_rfl) (fun _ _ _ h => h) (by rfl) ?_ (by assumption) ?_
        rotate_left
        · intro w' hSw
          (try dsimp only at hSw)
          go_split_ands
          go_simp
          try with_reducible rfl
        try simp only [Act.put, List.setIfInBounds_toArray, List.set_cons_zero, List.set_cons_succ]
        refine hw_t (i := 4) (d := some 57) (v := ?_) rfl rfl (by kernel_rfl) (by kernel_rfl) (by kernel_rfl) (fun _ _ _ h => h) (by rfl) ?_ (by assumption) ?_
        rotate_left
        · intro w' hSw
          (try dsimp only at hSw)
          go_split_ands
          go_simp
          try with_reducible rfl
        try simp only [Act.put, List.setIfInBounds_toArray, List.set_cons_zero, List.set_cons_succ]
        refine hw_t (i := 5) (d := some 58) (v := ?_) rfl rfl (by kernel_rfl) (by kernel_rfl) (by kernel_rfl) (fun _ _ _ h => h) (by rfl) ?_ (by assumption) ?_
        rotate_left
        · intro w' hSw
          (try dsimp only at hSw)
          go_split_ands
          go_simp
          try with_reducible rfl
        try simp only [Act.put, List.setIfInBounds_toArray, List.set_cons_zero, List.set_cons_succ]
        refine wpAnyH_ready (rs := [6]) (by kernel_rfl) (by simp) ?_
        refine AllReadyH.cons rfl (fun K hK => ?_) AllReadyH.nil
        go_simp
        have hY3 := bel_al (o := .cells #[.slice none 0 0, .int .i64 0, .int .i64 0, .bool false, .int .i64 0] 24) hY2
        refine hK.out _ _ (HS.out _ hY3) (fun hHeld => ?_)
        clear hK K
        try simp only [Act.put, List.setIfInBounds_toArray, List.set_cons_zero, List.set_cons_succ]
        have bb := Blk.new Y2 24 #[.slice none 0 0, .int .i64 0, .int .i64 0, .bool false, .int .i64 0]
        have hbg := hY2.size
        have hYY := below_one Y2 (.cells #[.slice none 0 0, .int .i64 0, .int .i64 0, .bool false, .int .i64 0] 24)
        obtain ⟨ga, hga⟩ : ∃ g, g = Y2.heap.size := ⟨_, rfl⟩
        rw [← hga] at bb hbg ⊢
        generalize (Y2.alloc (.cells #[.slice none 0 0, .int .i64 0, .int .i64 0, .bool false, .int .i64 0] 24)) = Y3 at hHeld hY3 bb hYY ⊢
        clear hga
        have fz := (bb).frozen
        have cl := (bb).cell
        obtain ⟨E1, E2⟩ := beh_close hY3 (bb) hbg (hO2.below hYY)
        refine wpAnyH_ready (rs := [7]) (by kernel_rfl) (by simp) ?_
        refine AllReadyH.cons rfl (fun K hK => ?_) AllReadyH.nil
        go_simp
        refine hK.out _ _ (HS.out _ E1) (fun hHeld => ?_)
        clear hK K
        try simp only [Act.put, List.setIfInBounds_toArray, List.set_cons_zero, List.set_cons_succ]
        refine wpAnyH_ready (rs := [8]) (by kernel_rfl) (by simp) ?_
        refine AllReadyH.cons rfl (fun K hK => ?_) AllReadyH.nil
        go_simp
        refine hK.out _ _ (HS.out _ E1) (fun hHeld => ?_)
        clear hK K
        try simp only [Act.put, List.setIfInBounds_toArray, List.set_cons_zero, List.set_cons_succ]
        refine wpAnyH_done (by kernel_rfl) ?_ _
        go_wp2
        go_meet
        exact ⟨rfl, E1⟩
      · skip
        go_simp
        have hY2 := bel_al (o := .cells #[.slice none 0 0, .int .i64 0, .int .i64 0, .bool false, .int .i64 0] 24) hY1
        refine hK.out _ _ (HS.out _ hY2) (fun hHeld => ?_)
        clear hK K
        try simp only [Act.put, List.setIfInBounds_toArray, List.set_cons_zero, List.set_cons_succ]
        have bb := Blk.new Y1 24 #[.slice none 0 0, .int .i64 0, .int .i64 0, .bool false, .int .i64 0]
        have hbg := hY1.size
        have hYY := below_one Y1 (.cells #[.slice none 0 0, .int .i64 0, .int .i64 0, .bool false, .int .i64 0] 24)
        obtain ⟨ga, hga⟩ : ∃ g, g = Y1.heap.size := ⟨_, rfl⟩
        rw [← hga] at bb hbg ⊢
        generalize (Y1.alloc (.cells #[.slice none 0 0, .int .i64 0, .int .i64 0, .bool false, .int .i64 0] 24)) = Y2 at hHeld hY2 bb hYY ⊢
        clear hga
        refine wpAnyH_ready (rs := [2]) (by kernel_rfl) (by simp) ?_
        refine AllReadyH.cons rfl (fun K hK => ?_) AllReadyH.nil
        go_simp
        go_wp2_with (go_at_call 12; refine (sv2 (D10.out.after hY2) ((hz.out.below hYY).more hYY.size)).mono ?_; rintro e Y3 ⟨A2, c2, vs2, rfl, hO2, hB2⟩; dsimp only)
        have hY3 := keepB hB2 hY2
        refine hK.out _ _ (HS.out _ hY3) (fun hHeld => ?_)
        clear hK K
        try simp only [Act.put, List.setIfInBounds_toArray, List.set_cons_zero, List.set_cons_succ]
        refine hw_t (i := 3) (d := some 53) (v := ?_) rfl rfl (by kernel_rfl) (by kernel_rfl) (by kernel_rfl) (fun _ _ _ h => h) (by rfl) ?_ (by assumption) ?_
        rotate_left
        · intro w' hSw
          (try dsimp only at hSw)
          go_split_ands
          go_simp
          try with_reducible rfl
        try simp only [Act.put, List.setIfInBounds_toArray, List.set_cons_zero, List.set_cons_succ]
        refine hw_t (i := 4) (d := some 57) (v := ?_) rfl rfl (by kernel_rfl) (by kernel_rfl) (by kernel_rfl) (fun _ _ _ h => h) (by rfl) ?_ (by assumption) ?_
        rotate_left
        · intro w' hSw
          (try dsimp only at hSw)
          go_split_ands
          go_simp
          try with_reducible rfl
        try simp only [Act.put, List.setIfInBounds_toArray, List.set_cons_zero, List.set_cons_succ]
        refine hw_t (i := 5) (d := some 58) (v := ?_) rfl rfl (by kernel_rfl) (by kernel_rfl) (by kernel_rfl) (fun _ _ _ h => h) (by rfl) ?_ (by assumption) ?_
        rotate_left
        · intro w' hSw
          (try dsimp only at hSw)
          go_split_ands
          go_simp
          try with_reducible rfl
        try simp only [Act.put, List.setIfInBounds_toArray, List.set_cons_zero, List.set_cons_succ]
        have fz := (bb.below hB2 bb.lt).frozen
        have cl := (bb.below hB2 bb.lt).cell
        obtain ⟨E1, E2⟩ := beh_close hY3 (bb.below hB2 bb.lt) hbg (hO2)
        refine wpAnyH_ready (rs := [7]) (by kernel_rfl) (by simp) ?_
        refine AllReadyH.cons rfl (fun K hK => ?_) AllReadyH.nil
        go_simp
        refine hK.out _ _ (HS.out _ E1) (fun hHeld => ?_)
        clear hK K
        try simp only [Act.put, List.setIfInBounds_toArray, List.set_cons_zero, List.set_cons_succ]
        refine wpAnyH_ready (rs := [8]) (by kernel_rfl) (by simp) ?_
        refine AllReadyH.cons rfl (fun K hK => ?_) AllReadyH.nil
        go_simp
        refine hK.out _ _ (HS.out _ E1) (fun hHeld => ?_)
        clear hK K
        try simp only [Act.put, List.setIfInBounds_toArray, List.set_cons_zero, List.set_cons_succ]
        refine wpAnyH_done (by kernel_rfl) ?_ _
        go_wp2
        go_meet
        exact ⟨rfl, E1⟩
    · skip
      go_simp
      have hY1 := bel_al (o := .cells #[.slice none 0 0, .int .i64 0, .int .i64 0, .bool false, .int .i64 0] 24) hY0
      refine hK.out _ _ (HS.out _ hY1) (fun hHeld => ?_)
      clear hK K
      try simp only [Act.put, List.setIfInBounds_toArray, List.set_cons_zero, List.set_cons_succ]
      have bb := Blk.new Y0 24 #[.slice none 0 0, .int .i64 0, .int .i64 0, .bool false, .int .i64 0]
      have hbg := hY0.size
      have hYY := below_one Y0 (.cells #[.slice none 0 0, .int .i64 0, .int .i64 0, .bool false, .int .i64 0] 24)
      obtain ⟨ga, hga⟩ : ∃ g, g = Y0.heap.size := ⟨_, rfl⟩
      rw [← hga] at bb hbg ⊢
      generalize (Y0.alloc (.cells #[.slice none 0 0, .int .i64 0, .int .i64 0, .bool false, .int .i64 0] 24)) = Y1 at hHeld hY1 bb hYY ⊢
      clear hga
      refine wpAnyH_ready (rs := [1]) (by kernel_rfl) (by simp) ?_
      refine AllReadyH.cons rfl (fun K hK => ?_) AllReadyH.nil
      have bz := bb.alloc (.cells zc129 5)
      go_simp
      have hY2 := bel_al (o := .cells zc129 5) hY1
      refine hK.out _ _ (HS.out _ hY2) (fun hHeld => ?_)
      clear hK K
      try simp only [Act.put, List.setIfInBounds_toArray, List.set_cons_zero, List.set_cons_succ]
      have hz := Lib.hid (rd_z129 Y1)
      obtain ⟨gz, hgz⟩ : ∃ g, g = Y1.heap.size := ⟨_, rfl⟩
      rw [← hgz] at hz ⊢
      generalize (Y1.alloc (.cells zc129 5)) = Y2 at hHeld hY2 hz bz ⊢
      clear hgz
      refine wpAnyH_ready (rs := [2]) (by kernel_rfl) (by simp) ?_
      refine AllReadyH.cons rfl (fun K hK => ?_) AllReadyH.nil
      go_simp
      go_wp2_with (go_at_call 12; refine (sv2 (D10.out.after hY2) (hz.out)).mono ?_; rintro e Y3 ⟨A2, c2, vs2, rfl, hO2, hB2⟩; dsimp only)
      have hY3 := keepB hB2 hY2
      refine hK.out _ _ (HS.out _ hY3) (fun hHeld => ?_)
      clear hK K
      try simp only [Act.put, List.setIfInBounds_toArray, List.set_cons_zero, List.set_cons_succ]
      refine hw_t (i := 3) (d := some 53) (v := ?_) rfl rfl (by kernel_rfl) (by kernel_rfl) (by kernel_rfl) (fun _ _ _ h => h) (by rfl) ?_ (by assumption) ?_
      rotate_left
      · intro w' hSw
        (try dsimp only at hSw)
        go_split_ands
        go_simp
        try with_reducible rfl
      try simp only [Act.put, List.setIfInBounds_toArray, List.set_cons_zero, List.set_cons_succ]
      refine hw_t (i := 4) (d := some 57) (v := ?_) rfl rfl (by kernel_rfl) (by kernel_rfl) (by kernel_rfl) (fun _ _ _ h => h) (by rfl) ?_ (by assumption) ?_
      rotate_left
      · intro w' hSw
        (try dsimp only at hSw)
        go_split_ands
        go_simp
        try with_reducible rfl
      try simp only [Act.put, List.setIfInBounds_toArray, List.set_cons_zero, List.set_cons_succ]
      refine hw_t (i := 5) (d := some 58) (v := ?_) rfl rfl (by kernel_rfl) (by kernel_rfl) (by kernel_rfl) (fun _ _ _ h => h) (by rfl) ?_ (by assumption) ?_
      rotate_left
      · intro w' hSw
        (try dsimp only at hSw)
        go_split_ands
        go_simp
        try with_reducible rfl
      try simp only [Act.put, List.setIfInBounds_toArray, List.set_cons_zero, List.set_cons_succ]
      have fz := (bz.below hB2 bz.lt).frozen
      have cl := (bz.below hB2 bz.lt).cell
      obtain ⟨E1, E2⟩ := beh_close hY3 (bz.below hB2 bz.lt) hbg (hO2)
      refine wpAnyH_ready (rs := [7]) (by kernel_rfl) (by simp) ?_
      refine AllReadyH.cons rfl (fun K hK => ?_) AllReadyH.nil
      go_simp
      refine hK.out _ _ (HS.out _ E1) (fun hHeld => ?_)
      clear hK K
      try simp only [Act.put, List.setIfInBounds_toArray, List.set_cons_zero, List.set_cons_succ]
      refine wpAnyH_ready (rs := [8]) (by kernel_rfl) (by simp) ?_
      refine AllReadyH.cons rfl (fun K hK => ?_) AllReadyH.nil
      go_simp
      refine hK.out _ _ (HS.out _ E1) (fun hHeld => ?_)
      clear hK K
      try simp only [Act.put, List.setIfInBounds_toArray, List.set_cons_zero, List.set_cons_succ]
      refine wpAnyH_done (by kernel_rfl) ?_ _
      go_wp2
      go_meet
      exact ⟨rfl, E1⟩
  case rest =>
    obtain ⟨rfl, hBc⟩ := hcut
    obtain ⟨W2, hW2⟩ : ∃ W2, W2 = wc := ⟨_, rfl⟩
    rw [← hW2] at hBc ⊢
    clear hW2
    have D11 := Lib.hid (D10.out.after hBc)
    have T11 := Lib.hid ((T10.out.below hBc).more hBc.size)
    have HB11 := Lib.hid (keepB hBc HB10.out)
    clear hBc q0 q1 q2 q3 q4
    obtain ⟨q0, q1, q2, q3, q4⟩ := D11.out.cells
    go_upto_region 9 with (first
      | (go_at_call 15; refine (area_any 9 1 _).mono ?_; rw [show areaN 9 1 = (4, 4) by decide]; rintro e w12 ⟨rfl, hB12⟩; have D12 := Lib.hid (D11.out.after hB12); have T12 := Lib.hid ((T11.out.below hB12).more hB12.size); have HB12 := Lib.hid (keepB hB12 HB11.out); clear hB12 q0 q1 q2 q3 q4; obtain ⟨q0, q1, q2, q3, q4⟩ := D12.out.cells)
      | (go_at_call 27; refine (rc2 D12.out).mono ?_; rintro e w13 ⟨A13, c13, vs13, B13, m13, rfl, hO13, k1, k2, k3, hB13⟩; have N13 := Lib.hid (DBox.new hO13); have D13 := Lib.hid ((D12.out.after hB13).alloc (.cells #[.slice A13 b2.secs.length c13, .int .i64 b2.left, .int .i64 b2.torn, .bool b2.off, .int .i64 b2.done] 24)); have T13 := Lib.hid ((((T12.out.below hB13).more hB13.size).below (below_one w13 (.cells #[.slice A13 b2.secs.length c13, .int .i64 b2.left, .int .i64 b2.torn, .bool b2.off, .int .i64 b2.done] 24))).more (below_one w13 (.cells #[.slice A13 b2.secs.length c13, .int .i64 b2.left, .int .i64 b2.torn, .bool b2.off, .int .i64 b2.done] 24)).size); have U13 := Lib.hid ((k3.below (below_one w13 (.cells #[.slice A13 b2.secs.length c13, .int .i64 b2.left, .int .i64 b2.torn, .bool b2.off, .int .i64 b2.done] 24))).more (below_one w13 (.cells #[.slice A13 b2.secs.length c13, .int .i64 b2.left, .int .i64 b2.torn, .bool b2.off, .int .i64 b2.done] 24)).size); have HB13 := Lib.hid (bel_al (o := (.cells #[.slice A13 b2.secs.length c13, .int .i64 b2.left, .int .i64 b2.torn, .bool b2.off, .int .i64 b2.done] 24)) (keepB hB13 HB12.out)); clear hO13 k1 k2 k3 hB13 q0 q1 q2 q3 q4; obtain ⟨q0, q1, q2, q3, q4⟩ := D13.out.cells; dsimp only))
    have N13' := Lib.hid (N13.out)
    go_wp2_with (first
      | (go_at_call 14; refine (sc2 D13.out).mono ?_; rintro e w15 ⟨A15, c15, xs15, rfl, hO15, hB15⟩; have N15 := Lib.hid (N13.out.after hB15); have T15 := Lib.hid ((T13.out.below hB15).more hB15.size); have U15 := Lib.hid ((U13.out.below hB15).more hB15.size); have HB15 := Lib.hid (keepB hB15 HB13.out); clear hO15 hB15 q0 q1 q2 q3 q4; have kt := conv_two T15.out c10; dsimp only)
      | (go_at_call 17; refine (room_any 4 _).mono ?_; rw [show roomN 4 = 64 by decide]; rintro e w16 ⟨rfl, hB16⟩; have N16 := Lib.hid (N15.out.after hB16); have U16 := Lib.hid ((U15.out.below hB16).more hB16.size); have HB16 := Lib.hid (keepB hB16 HB15.out); clear hB16 kt; have kt := conv_two U16.out m13; obtain ⟨q0, q1, q2, q3, q4⟩ := N16.out.cells)
      | (go_at_call 11; refine (ck2 N16.out).mono ?_; rintro e w17 ⟨rfl, hB17⟩; have HB17 := Lib.hid (keepB hB17 HB16.out); clear hB17))
    go_ret
    exact ⟨rfl, HB17.out⟩
end Go.Proofs.YtgeofnemlijbgaaDoor
