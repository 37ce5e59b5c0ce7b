/- awake: calls whose answers the document fixes. -/
import Derived.Test.YtkiijbbcfbkecaaK0
import Derived.Deep.RegionHeld3
import Derived.Deep.DeepCutAuto
import Derived.Lib.SlBytesConst
namespace Go.Proofs.Ytkiijbbcfbkecaa
open Go.RowKit
set_option linter.unusedVariables false

theorem conv_one (w : World) (C : Array Value) (n c : Nat) : (convert 26 26 (.slice (some ⟨w.heap.size, 0, none⟩) n c)).run Try.prog (w.alloc (.cells C 5)) = .ok (.slice (some ⟨w.heap.size, 0, none⟩) n c) (w.alloc (.cells C 5 (C.size, C.size + 1))) :=
  Lib.run_convert_bytes_const (P := Try.prog) w 26 5 C n c Try.underlying26 Try.underlying5
theorem conv_two (w : World) (o : Obj) (C : Array Value) (n c : Nat) : (convert 26 26 (.slice (some ⟨w.heap.size + 1, 0, none⟩) n c)).run Try.prog ((w.alloc o).alloc (.cells C 5)) = .ok (.slice (some ⟨w.heap.size + 1, 0, none⟩) n c) ((w.alloc o).alloc (.cells C 5 (C.size, C.size + 1))) := by
  have := conv_one (w.alloc o) C n c
  rw [World.size_alloc w] at this
  exact this
def z33 : Array Value := madeCells #[.int .u8 0] 33
theorem z33_eq : z33.toList = bvs zs33 := by kernel_rfl
theorem run_make33 (w : World) : (Instr.makeSlice 26 (.int .i64 33) (.int .i64 33)).run Try.prog w = .ok (.slice (some ⟨w.heap.size, 0, none⟩) 33 33) (w.alloc (.cells z33 5)) := by
  obtain ⟨i2, hi2, hz2, hs2, hb2⟩ := info_parts infoTB
  have h := run_make (P := Try.prog) w 26 5 i2 _ Try.underlying26 hi2 hz2 .i64 .i64 33 33 (by omega) (by omega) (by rw [hb2]; omega) (by omega)
  rw [hs2] at h
  exact h
theorem rd33 (w : World) : Rd (w.alloc (.cells z33 5)) (w.alloc (.cells z33 5)).heap.size (some ⟨w.heap.size, 0, none⟩) zs33.length (bvs zs33) :=
  ⟨bvs_length, fun _ => ⟨_, rfl, by simp, fun j u hu => by
    rw [Addr.add_lit, Nat.zero_add, cell_mark, ← hu, ← z33_eq, Array.getElem?_toList]⟩⟩
theorem rd33d (w : World) : Rd (w.alloc (.cells z33 5)).drew (w.alloc (.cells z33 5)).drew.heap.size (some ⟨w.heap.size, 0, none⟩) zs33.length (bvs zs33) := rd33 w
theorem rd33a (w : World) (o : Obj) : Rd ((w.alloc (.cells z33 5)).alloc o).drew ((w.alloc (.cells z33 5)).alloc o).drew.heap.size (some ⟨w.heap.size, 0, none⟩) zs33.length (bvs zs33) := rd_after (rd33 w) (below_one _ _).drew
theorem rd33b (w : World) (o : Obj) : Rd ((w.alloc o).alloc (.cells z33 5)).drew ((w.alloc o).alloc (.cells z33 5)).drew.heap.size (some ⟨w.heap.size + 1, 0, none⟩) zs33.length (bvs zs33) := by
  have := rd33 (w.alloc o)
  rw [World.size_alloc w] at this
  exact this
theorem blk_new2d {w w' : World} {t : TypeId} {cs : Array Value} {o : Obj} (hb : Below ((w.alloc (.cells cs t)).alloc o).drew.heap.size ((w.alloc (.cells cs t)).alloc o).drew w') : Blk w' w.heap.size t cs := Blk.below (w := ((w.alloc (.cells cs t)).alloc o).drew) ((Blk.new w t cs).alloc o) hb (by show w.heap.size < ((w.alloc (.cells cs t)).alloc o).heap.size; simp; omega)
theorem blk_new3d {w w' : World} {t : TypeId} {cs : Array Value} {o : Obj} (hb : Below ((w.alloc o).alloc (.cells cs t)).drew.heap.size ((w.alloc o).alloc (.cells cs t)).drew w') : Blk w' (w.heap.size + 1) t cs := by
  have := Blk.below (w := ((w.alloc o).alloc (.cells cs t)).drew) (Blk.new (w.alloc o) t cs) hb (by show (w.alloc o).heap.size < ((w.alloc o).alloc (.cells cs t)).heap.size; simp)
  simpa using this
theorem rd01 (w : World) : Rd (w.alloc (.cells #[.int .i64 0, .int .i64 1] 3)) (w.alloc (.cells #[.int .i64 0, .int .i64 1] 3)).heap.size (some ⟨w.heap.size, 0, none⟩) ([0, 1] : List Int).length (ivs [0, 1]) :=
  ⟨rfl, fun _ => ⟨_, rfl, by simp, fun j u hu => by
    rw [Addr.add_lit, Nat.zero_add, cell_mark, ← hu]
    simp [ivs]⟩⟩
theorem ents0 (w : World) (B : Nat) (A : Option Addr) : Ents w B A 0 [] := ⟨rfl, [], Rd.none_ _, fun i x hx => by simp at hx⟩
theorem sm0 : SmE [] := ⟨by simp, fun i x hx => by simp at hx⟩
theorem BBox.o {w : World} {b : Nat} {A : Option Addr} {c : Nat} {k : Bk} (h : BBox w b A c k) : k.ents.length ≤ c ∧ c ≤ maxLen := ⟨h.cap, h.cm⟩

set_option maxRecDepth 100000 in
set_option maxHeartbeats 16000000 in
theorem awake_any (w : World) : Calls Try.prog 9 #[] w fun e w' => e = .returned (.bool true) ∧ Below w.heap.size w w' := by
  have kc := conv_one
  have kc2 := conv_two
  go_enter Try.func9, Try.ntmps9
  go_upto_region 2 with (go_at_call 19; refine (pub_r (A := none) (c := 0) (k := aB0) (lab := [97]) (val := [118]) a_k1 a_p1 (ents0 _ _ _) (Nat.zero_le _) (Nat.zero_le _) sm0 (rd_lit1 w 97 118 (1, 2) (1, 2)) (rd_lit2 w 97 118 (1, 2) (1, 2)) (by decide) (by decide)).mono ?_; rintro e w1 ⟨A1, c1, xs1, rfl, hO1, hB1⟩)
  have hS : Below w.heap.size w (w1.alloc (.cells #[.slice A1 aB1.ents.length c1, .int .i64 aB1.eps] 25)) := bel_alloc (keepB hB1 (bel_alloc (below_one w _)))
  have hd : BBox (w1.alloc (.cells #[.slice A1 aB1.ents.length c1, .int .i64 aB1.eps] 25)) w1.heap.size A1 c1 aB1 := BBox.new hO1
  have HB' := Lib.hid hS
  have HB := HB'
  clear HB'
  clear hS hB1 hO1
  generalize (w1.alloc (.cells #[.slice A1 aB1.ents.length c1, .int .i64 aB1.eps] 25)) = W1 at hd HB ⊢
  generalize w1.heap.size = b1 at hd ⊢
  have D1 := Lib.hid hd
  clear hd
  obtain ⟨q1a, q1b⟩ := D1.out.cells
  go_upto_region 3 with (go_at_call 19; refine (pub_r a_k2 a_p2 ((D1.out.alloc _).alloc _).ents D1.out.cap D1.out.cm (sm_check a_c1) (rd_lit1 W1 97 119 (1, 2) (1, 2)) (rd_lit2 W1 97 119 (1, 2) (1, 2)) (by decide) (by decide)).mono ?_; rintro e w2 ⟨A2, c2, xs2, rfl, hO2, hB2⟩)
  have hS : Below W1.heap.size W1 (w2.alloc (.cells #[.slice A2 aB2.ents.length c2, .int .i64 aB2.eps] 25)) := bel_alloc (keepB hB2 (bel_alloc (below_one W1 _)))
  have hd : BBox (w2.alloc (.cells #[.slice A2 aB2.ents.length c2, .int .i64 aB2.eps] 25)) w2.heap.size A2 c2 aB2 := BBox.new hO2
  have D1' := Lib.hid (D1.out.after hS)
  clear D1
  have HB' := Lib.hid (keepB hS HB.out)
  clear HB
  have D1 := D1'
  clear D1'
  have HB := HB'
  clear HB'
  clear hS hB2 hO2
  generalize (w2.alloc (.cells #[.slice A2 aB2.ents.length c2, .int .i64 aB2.eps] 25)) = W2 at hd D1 HB ⊢
  generalize w2.heap.size = b2 at hd ⊢
  have D2 := Lib.hid hd
  clear hd
  clear q1a
  clear q1b
  obtain ⟨q2a, q2b⟩ := D2.out.cells
  go_upto_region 4 with (go_at_call 21; refine (tick_r a_k3 a_t3 a_l3 D2.out.ents D2.out.cap D2.out.cm (sm_check a_c2)).mono ?_; rintro e w3 ⟨A3, c3, xs3, Ap, cp, rfl, hO3, hp3, hB3⟩)
  have hS : Below W2.heap.size W2 (w3.alloc (.cells #[.slice A3 aB3.ents.length c3, .int .i64 aB3.eps] 25)) := bel_alloc (keepB hB3 (Below.refl _ _))
  have hd : BBox (w3.alloc (.cells #[.slice A3 aB3.ents.length c3, .int .i64 aB3.eps] 25)) w3.heap.size A3 c3 aB3 := BBox.new hO3
  have D1' := Lib.hid (D1.out.after hS)
  clear D1
  have D2' := Lib.hid (D2.out.after hS)
  clear D2
  have HB' := Lib.hid (keepB hS HB.out)
  clear HB
  have PL' : Hid (((w3.alloc (.cells #[.slice A3 aB3.ents.length c3, .int .i64 aB3.eps] 25))).ownsRow _ 3 1 (.slice Ap [0, 1].length cp) [0, 1].length (pvs [0, 1])) := Lib.hid (own_less (hp3.alloc _) (Nat.zero_le _))
  clear hp3
  have D1 := D1'
  clear D1'
  have D2 := D2'
  clear D2'
  have HB := HB'
  clear HB'
  have PL := PL'
  clear PL'
  clear hS hB3 hO3
  generalize (w3.alloc (.cells #[.slice A3 aB3.ents.length c3, .int .i64 aB3.eps] 25)) = W3 at hd D1 D2 HB PL ⊢
  generalize w3.heap.size = b3 at hd ⊢
  have D3 := Lib.hid hd
  clear hd
  clear q2a
  clear q2b
  obtain ⟨q2a, q2b⟩ := D2.out.cells
  go_upto_region 5 with (go_at_call 11; refine (lat_r a_h4 a_a4 (D2.out.alloc _).ents D2.out.cap D2.out.cm (rd_lit W3 97 (1, 2))).mono ?_; rintro e w4 ⟨rfl, hB4⟩)
  have hS : Below W3.heap.size W3 w4 := keepB hB4 (below_one W3 _)
  have D1' := Lib.hid (D1.out.after hS)
  clear D1
  have D2' := Lib.hid (D2.out.after hS)
  clear D2
  have D3' := Lib.hid (D3.out.after hS)
  clear D3
  have HB' := Lib.hid (keepB hS HB.out)
  clear HB
  have PL' := Lib.hid (own_b hS PL.out)
  clear PL
  have D1 := D1'
  clear D1'
  have D2 := D2'
  clear D2'
  have D3 := D3'
  clear D3'
  have HB := HB'
  clear HB'
  have PL := PL'
  clear PL'
  clear hS hB4
  clear q2a
  clear q2b
  obtain ⟨q3a, q3b⟩ := D3.out.cells
  go_upto_region 6 with (go_at_call 11; refine (lat_r a_h5 a_a5 (D3.out.alloc _).ents D3.out.cap D3.out.cm (rd_lit w4 97 (1, 2))).mono ?_; rintro e w5 ⟨rfl, hB5⟩)
  have hS : Below w4.heap.size w4 w5 := keepB hB5 (below_one w4 _)
  have D1' := Lib.hid (D1.out.after hS)
  clear D1
  have D2' := Lib.hid (D2.out.after hS)
  clear D2
  have D3' := Lib.hid (D3.out.after hS)
  clear D3
  have HB' := Lib.hid (keepB hS HB.out)
  clear HB
  have PL' := Lib.hid (own_b hS PL.out)
  clear PL
  have D1 := D1'
  clear D1'
  have D2 := D2'
  clear D2'
  have D3 := D3'
  clear D3'
  have HB := HB'
  clear HB'
  have PL := PL'
  clear PL'
  clear hS hB5
  clear q3a
  clear q3b
  obtain ⟨q3a, q3b⟩ := D3.out.cells
  go_upto_region 7 with (go_at_call 13; refine (get_r a_g6 a_o6 (D3.out.alloc _).ents D3.out.cap D3.out.cm (rd_lit w5 97 (1, 2))).mono ?_; rintro e w6 ⟨rfl, hB6⟩)
  have hS : Below w5.heap.size w5 w6 := keepB hB6 (below_one w5 _)
  have D1' := Lib.hid (D1.out.after hS)
  clear D1
  have D2' := Lib.hid (D2.out.after hS)
  clear D2
  have D3' := Lib.hid (D3.out.after hS)
  clear D3
  have HB' := Lib.hid (keepB hS HB.out)
  clear HB
  have PL' := Lib.hid (own_b hS PL.out)
  clear PL
  have D1 := D1'
  clear D1'
  have D2 := D2'
  clear D2'
  have D3 := D3'
  clear D3'
  have HB := HB'
  clear HB'
  have PL := PL'
  clear PL'
  clear hS hB6
  clear q3a
  clear q3b
  obtain ⟨q3a, q3b⟩ := D3.out.cells
  go_upto_region 8 with (go_at_call 23; refine (era_r a_k7 a_e7 (D3.out.alloc _).ents D3.out.cap D3.out.cm (sm_check a_c) (rd_lit w6 97 (1, 2))).mono ?_; rintro e w7 ⟨A7, c7, xs7, rfl, hO7, hB7⟩)
  have hS : Below w6.heap.size w6 (w7.alloc (.cells #[.slice A7 aB4.ents.length c7, .int .i64 aB4.eps] 25)) := bel_alloc (keepB hB7 (below_one w6 _))
  have hd : BBox (w7.alloc (.cells #[.slice A7 aB4.ents.length c7, .int .i64 aB4.eps] 25)) w7.heap.size A7 c7 aB4 := BBox.new hO7
  have D1' := Lib.hid (D1.out.after hS)
  clear D1
  have D2' := Lib.hid (D2.out.after hS)
  clear D2
  have D3' := Lib.hid (D3.out.after hS)
  clear D3
  have HB' := Lib.hid (keepB hS HB.out)
  clear HB
  have PL' := Lib.hid (own_b hS PL.out)
  clear PL
  have D1 := D1'
  clear D1'
  have D2 := D2'
  clear D2'
  have D3 := D3'
  clear D3'
  have HB := HB'
  clear HB'
  have PL := PL'
  clear PL'
  clear hS hB7 hO7
  generalize (w7.alloc (.cells #[.slice A7 aB4.ents.length c7, .int .i64 aB4.eps] 25)) = W7 at hd D1 D2 D3 HB PL ⊢
  generalize w7.heap.size = b7 at hd ⊢
  have D7 := Lib.hid hd
  clear hd
  clear q3a
  clear q3b
  obtain ⟨q2a, q2b⟩ := D2.out.cells
  go_upto_region 9 with (go_at_call 23; refine (era_r (era_keep (by rw [a_e8]; decide)) a_e8 (D2.out.alloc _).ents D2.out.cap D2.out.cm (sm_check a_c2) (rd_lit W7 97 (1, 2))).mono ?_; rintro e w8 ⟨A8, c8, xs8, rfl, hO8, hB8⟩)
  have hS : Below W7.heap.size W7 (w8.alloc (.cells #[.slice A8 aB2.ents.length c8, .int .i64 aB2.eps] 25)) := bel_alloc (keepB hB8 (below_one W7 _))
  have hd : BBox (w8.alloc (.cells #[.slice A8 aB2.ents.length c8, .int .i64 aB2.eps] 25)) w8.heap.size A8 c8 aB2 := BBox.new hO8
  have D1' := Lib.hid (D1.out.after hS)
  clear D1
  have D2' := Lib.hid (D2.out.after hS)
  clear D2
  have D3' := Lib.hid (D3.out.after hS)
  clear D3
  have D7' := Lib.hid (D7.out.after hS)
  clear D7
  have HB' := Lib.hid (keepB hS HB.out)
  clear HB
  have PL' := Lib.hid (own_b hS PL.out)
  clear PL
  have D1 := D1'
  clear D1'
  have D2 := D2'
  clear D2'
  have D3 := D3'
  clear D3'
  have D7 := D7'
  clear D7'
  have HB := HB'
  clear HB'
  have PL := PL'
  clear PL'
  clear hS hB8 hO8
  generalize (w8.alloc (.cells #[.slice A8 aB2.ents.length c8, .int .i64 aB2.eps] 25)) = W8 at hd D1 D2 D3 D7 HB PL ⊢
  generalize w8.heap.size = b8 at hd ⊢
  have D8 := Lib.hid hd
  clear hd
  clear q2a
  clear q2b
  go_cut [19] (fun s19 wx => s19 = .int .i64 100 ∧ Below W8.heap.size W8 wx)
  case first =>
    have hK := Lib.hid (fun (w' : World) (h : Below W8.heap.size W8 w') => And.intro (D1.out.after h).cells.1 (And.intro (D1.out.after h).cells.2 h))
    have hmk := run_make33
    go_region_held3 (fun w' => w'.cell? ⟨b1, 0, none⟩ = some (.slice A1 aB1.ents.length c1) ∧ w'.cell? ⟨b1, 1, none⟩ = some (.int .i64 aB1.eps) ∧ Below W8.heap.size W8 w')
      ((refine hK.out _ ?_; first | simp only [Below.refl, bel_drew, bel_alloc, *] | with_reducible exact bel_drew (bel_alloc (bel_alloc (Below.refl _ _))) | exact bel_set (bel_set hW9 (by omega)) (by omega)))
      (first
        | (go_at_call 19; go_split_ands; refine (pub_r (lab := zs33) (val := []) (pub_keep (by rw [a_p9]; decide)) a_p9 (ents_after D1.out.ents (by with_reducible assumption)) D1.out.cap D1.out.cm (sm_check a_c1) (by first | with_reducible exact rd33d _ | with_reducible exact rd33a _ _ | with_reducible exact rd33b _ _) (Rd.none_ _) (by decide) (by decide)).mono ?_; rintro e w9 ⟨A9, c9, xs9, rfl, hO9, hB9⟩; have hW9 := keepB hB9 (W := W8) (by with_reducible assumption); have s9 := hW9.size; have s8 : W8.heap.size ≤ W8.heap.size := Nat.le_refl _; (first | (have z9 : Blk w9 (W8.heap.size + 1) 25 zbk := (by with_reducible exact blk_new3d hB9)) | (have z9 : Blk w9 W8.heap.size 25 zbk := (by with_reducible exact blk_new2d hB9)) | skip); try (have cz := z9.cell; have fz := z9.frozen)))
    all_goals (go_wp2_with fail; go_meet)
    all_goals first
      | exact ⟨rfl, bel_alloc hW9⟩
      | exact ⟨rfl, bel_set (bel_set hW9 (by omega)) (by omega)⟩
  case rest =>
    obtain ⟨rfl, hB9⟩ := hcut
    have hS := hB9
    clear hB9
    have D1' := Lib.hid (D1.out.after hS)
    clear D1
    have D1 := D1'
    clear D1'
    have D2' := Lib.hid (D2.out.after hS)
    clear D2
    have D2 := D2'
    clear D2'
    have D3' := Lib.hid (D3.out.after hS)
    clear D3
    have D3 := D3'
    clear D3'
    have D7' := Lib.hid (D7.out.after hS)
    clear D7
    have D7 := D7'
    clear D7'
    have D8' := Lib.hid (D8.out.after hS)
    clear D8
    have D8 := D8'
    clear D8'
    have HB' := Lib.hid (keepB hS HB.out)
    clear HB
    have HB := HB'
    clear HB'
    have PL' := Lib.hid (own_b hS PL.out)
    clear PL
    have PL := PL'
    clear PL'
    clear hS
    go_upto_region 11 with (go_at_call 21; refine (tick_r (A := none) (c := 0) (k := aS) (tick_keep (by rw [a_t10]; decide)).1 a_t10 (tick_keep (by rw [a_t10]; decide)).2 (ents0 _ _ _) (Nat.zero_le _) (Nat.zero_le _) sm0).mono ?_; rintro e w10 ⟨A10, c10, xs10, Aq, cq, rfl, hO10, hp10, hB10⟩)
    have hS : Below wc.heap.size wc (w10.alloc (.cells #[.slice A10 aS.ents.length c10, .int .i64 aS.eps] 25)) := bel_alloc (keepB hB10 (Below.refl _ _))
    have hd : BBox (w10.alloc (.cells #[.slice A10 aS.ents.length c10, .int .i64 aS.eps] 25)) w10.heap.size A10 c10 aS := BBox.new hO10
    have D1' := Lib.hid (D1.out.after hS)
    clear D1
    have D2' := Lib.hid (D2.out.after hS)
    clear D2
    have D3' := Lib.hid (D3.out.after hS)
    clear D3
    have D7' := Lib.hid (D7.out.after hS)
    clear D7
    have D8' := Lib.hid (D8.out.after hS)
    clear D8
    have HB' := Lib.hid (keepB hS HB.out)
    clear HB
    have PL' := Lib.hid (own_b hS PL.out)
    clear PL
    have D1 := D1'
    clear D1'
    have D2 := D2'
    clear D2'
    have D3 := D3'
    clear D3'
    have D7 := D7'
    clear D7'
    have D8 := D8'
    clear D8'
    have HB := HB'
    clear HB'
    have PL := PL'
    clear PL'
    clear hS hB10 hO10
    generalize (w10.alloc (.cells #[.slice A10 aS.ents.length c10, .int .i64 aS.eps] 25)) = W10 at hd D1 D2 D3 D7 D8 HB PL ⊢
    generalize w10.heap.size = b10 at hd ⊢
    have D10 := Lib.hid hd
    clear hd
    go_upto_region 12 with (go_at_call 21; refine (tick_r (A := none) (c := 0) (k := aT) (tick_keep (by rw [a_t11]; decide)).1 a_t11 (tick_keep (by rw [a_t11]; decide)).2 (ents0 _ _ _) (Nat.zero_le _) (Nat.zero_le _) sm0).mono ?_; rintro e w11 ⟨A11, c11, xs11, Ar, cr, rfl, hO11, hp11, hB11⟩)
    have hS : Below W10.heap.size W10 (w11.alloc (.cells #[.slice A11 aT.ents.length c11, .int .i64 aT.eps] 25)) := bel_alloc (keepB hB11 (Below.refl _ _))
    have hd : BBox (w11.alloc (.cells #[.slice A11 aT.ents.length c11, .int .i64 aT.eps] 25)) w11.heap.size A11 c11 aT := BBox.new hO11
    have D1' := Lib.hid (D1.out.after hS)
    clear D1
    have D2' := Lib.hid (D2.out.after hS)
    clear D2
    have D3' := Lib.hid (D3.out.after hS)
    clear D3
    have D7' := Lib.hid (D7.out.after hS)
    clear D7
    have D8' := Lib.hid (D8.out.after hS)
    clear D8
    have D10' := Lib.hid (D10.out.after hS)
    clear D10
    have HB' := Lib.hid (keepB hS HB.out)
    clear HB
    have PL' := Lib.hid (own_b hS PL.out)
    clear PL
    have D1 := D1'
    clear D1'
    have D2 := D2'
    clear D2'
    have D3 := D3'
    clear D3'
    have D7 := D7'
    clear D7'
    have D8 := D8'
    clear D8'
    have D10 := D10'
    clear D10'
    have HB := HB'
    clear HB'
    have PL := PL'
    clear PL'
    clear hS hB11 hO11
    generalize (w11.alloc (.cells #[.slice A11 aT.ents.length c11, .int .i64 aT.eps] 25)) = W11 at hd D1 D2 D3 D7 D8 D10 HB PL ⊢
    generalize w11.heap.size = b11 at hd ⊢
    have D11 := Lib.hid hd
    clear hd
    obtain ⟨q7a, q7b⟩ := D7.out.cells
    have h0 : (0 : Nat) < aB4.ents.length := by decide
    have hl4 : ((aB4.ents.length : Int) != 2) = false := by decide
    obtain ⟨eb, eo, ex, eAl, ecl, eAv, ecv, rfl, ebl, ehx, e1, e2, e3, e4, e5, _⟩ := D7.out.ents.at_ h0
    have ehx' : aB4.ents[0]? = some ⟨[97], [], 1, 1, true⟩ := rfl
    rw [ehx'] at ehx
    injection ehx with ehx
    subst ehx
    simp only [Nat.zero_mul, Nat.add_zero, List.length_nil] at e2 e5
    have HE := Lib.hid (fun (w' : World) (h : Below W11.heap.size W11 w') => And.intro ((h.cell (p := ⟨eb, eo + 1, none⟩) ebl).trans e2) ((h.cell (p := ⟨eb, eo + 4, none⟩) ebl).trans e5))
    clear ehx' e1 e2 e3 e4 e5
    go_upto_region 14 with (fail)
    go_wp2_with fail
    refine (numbers_eq Ap (some ⟨W11.heap.size, 0, none⟩) cp 2 [0, 1] _ (own_rd (PL.out.alloc _)) (rd01 W11) (by decide)).mono ?_
    rintro e w14 ⟨rfl, hB14⟩
    have hS := keepB hB14 (below_one W11 _)
    obtain ⟨q7a, q7b⟩ := (D7.out.after hS).cells
    obtain ⟨q2a, q2b⟩ := (D2.out.after hS).cells
    have E2 := Lib.hid (D2.out.after hS).ents
    have D3' := Lib.hid (D3.out.after hS)
    have HB' := Lib.hid (keepB hS HB.out)
    obtain ⟨x1, x2⟩ := HE.out _ hS
    have hcap2 := D2.out.o
    have hcap3 := D3.out.o
    clear hS hB14
    go_wp2_with (first
      | (go_at_call 17; refine (waiting_any A2 c2 aB2 _ E2.out hcap2.1 hcap2.2).mono ?_; rw [a_w]; rintro e w15 ⟨rfl, hB15⟩; have D3'' := Lib.hid (D3'.out.after hB15); obtain ⟨q3a, q3b⟩ := D3''.out.cells)
      | (go_at_call 15; refine (check_any A3 c3 aB3 _ D3''.out.ents hcap3.1 hcap3.2).mono ?_; rw [a_c]; simp only [errOf, if_true]; rintro e w16 ⟨rfl, hB16⟩))
    go_ret
    exact ⟨rfl, keepB hB16 (keepB hB15 HB'.out)⟩
end Go.Proofs.Ytkiijbbcfbkecaa
