/- epoch.clone. -/
import Derived.Test.YtkiijbbcfbkecaaF3
import Derived.Test.YtkiijbbcfbkecaaM1
import Derived.Deep.RegionLaw
import Derived.Deep.RegionWith
namespace Go.Proofs.Ytkiijbbcfbkecaa
open Go.RowKit
set_option linter.unusedVariables false

theorem infoTE : (Try.prog.info? 49).map (fun i => (i.zero, i.size, i.bytes)) = some (some (.agg #[.slice none 0 0, .slice none 0 0, .int .i64 0, .int .i64 0, .bool false]), 5, 72) := by kernel_rfl
def SmE (l : List Ent) : Prop := l.length ≤ 1000 ∧ ∀ (i : Nat) (x : Ent), l[i]? = some x → x.label.length ≤ 1000 ∧ x.value.length ≤ 1000
/-- A call hands back a book in memory of its own. -/
def BkRet (w : World) (k : Bk) (f : Value → Value) (e : Ending) (w' : World) : Prop :=
  ∃ A c xs, e = .returned (f (bkv A k.ents.length c k.eps)) ∧ OwnE w' w.heap.size (.slice A k.ents.length c) xs k.ents ∧ Below w.heap.size w w'

theorem made_at (n i j : Nat) (hi : i < n) (hj : j < 5) : (madeCells #[Value.slice none 0 0, .slice none 0 0, .int .i64 0, .int .i64 0, .bool false] (n * 5)).toList[i * 5 + j]? = #[Value.slice none 0 0, .slice none 0 0, .int .i64 0, .int .i64 0, .bool false][j]? := by
  have hlt : i * 5 + j < n * 5 := by omega
  have hm : (i * 5 + j) % 5 = j := by omega
  unfold madeCells
  rw [Array.getElem?_toList, Array.getElem?_map, Array.getElem?_range, if_pos hlt]
  simp only [Option.map_some, List.size_toArray, List.length_cons, List.length_nil, Nat.zero_add, Nat.reduceAdd, hm]
  match j, hj with
  | 0, _ => rfl
  | 1, _ => rfl
  | 2, _ => rfl
  | 3, _ => rfl
  | 4, _ => rfl
theorem run_makeE (w : World) (n : Nat) (hn : n ≤ 1000) : (Instr.makeSlice 23 (.int .i64 (n : Int)) (.int .i64 (n : Int))).run Try.prog w = .ok (.slice (some ⟨w.heap.size, 0, none⟩) n n) (w.alloc (.cells (madeCells #[Value.slice none 0 0, .slice none 0 0, .int .i64 0, .int .i64 0, .bool false] (n * 5)) 49)) := by
  obtain ⟨i2, hi2, hz2, hs2, hb2⟩ := info_parts infoTE
  have h := run_make (P := Try.prog) w 23 49 i2 _ Try.underlying23 hi2 hz2 .i64 .i64 (n : Int) (n : Int) (by omega) (by omega) (by rw [hb2]; omega) (by omega)
  rw [hs2] at h
  simp only [Int.toNat_natCast] at h
  exact h
theorem own_madeE (w : World) (base n : Nat) (hb : base ≤ w.heap.size) (hn : n ≤ 1000) : OwnE (w.alloc (.cells (madeCells #[Value.slice none 0 0, .slice none 0 0, .int .i64 0, .int .i64 0, .bool false] (n * 5)) 49)) base (.slice (some ⟨w.heap.size, 0, none⟩) n n) (madeCells #[Value.slice none 0 0, .slice none 0 0, .int .i64 0, .int .i64 0, .bool false] (n * 5)).toList (List.replicate n zEnt) := by
  refine OwnE.zeros (World.ownsRow_lit w _ n hb (by unfold maxLen; omega) (size_madeCells _ _)) (fun i hi => ⟨?_, ?_, ?_, ?_, ?_⟩)
  · exact made_at n i 0 hi (by omega)
  · exact made_at n i 1 hi (by omega)
  · exact made_at n i 2 hi (by omega)
  · exact made_at n i 3 hi (by omega)
  · exact made_at n i 4 hi (by omega)

/-- The entries behind i rounds. -/
def sofar (l : List Ent) (n i : Nat) : List Ent := l.take i ++ List.replicate (n - i) zEnt
theorem sofar_len {l : List Ent} {n i : Nat} (h : l.length = n) (hi : i ≤ n) : (sofar l n i).length = n := by simp [sofar]; omega
theorem sofar_set {l : List Ent} {n i : Nat} {x : Ent} (h : l.length = n) (hx : l[i]? = some x) : (sofar l n i).set i x = sofar l n (i + 1) := by
  have hi := (List.getElem?_eq_some_iff.1 hx).1
  unfold sofar
  have hl : (l.take i).length = i := by rw [List.length_take]; omega
  rw [List.set_append_right _ _ (by omega), hl, Nat.sub_self, take_snoc_of hx]
  have e : n - i = (n - (i + 1)) + 1 := by omega
  rw [e, List.replicate_succ, List.set_cons_zero, List.append_assoc]
  rfl
theorem keepK {W w' : World} {b : Nat} {A : Option Addr} {c : Nat} {k : Bk} (hd : BBox W b A c k) (h : Below W.heap.size W w') : w'.cell? ⟨b, 0, none⟩ = some (.slice A k.ents.length c) ∧ w'.cell? ⟨b, 1, none⟩ = some (.int .i64 k.eps) ∧ Below W.heap.size W w' := by
  obtain ⟨g0, g1⟩ := (hd.after h).cells
  exact ⟨g0, g1, h⟩
theorem bel_set {W X : World} {g i : Nat} {v : Value} (h : Below W.heap.size W X) (hg : W.heap.size ≤ g) : Below W.heap.size W (X.setCell ⟨g, i, none⟩ v) := h.setCell (p := ⟨g, i, none⟩) hg v
theorem blk_two (W : World) (o : Obj) (cs : Array Value) : Blk ((W.alloc o).alloc (.cells cs 25)).drew (W.heap.size + 1) 25 cs := by
  have := Blk.new (W.alloc o) 25 cs
  simp at this
  exact this
section
variable {w w' w4 : World} {b base n : Nat} {x0 x1 x2 x3 x4 : Value}
theorem sets_ab (hb : Blk w4 b 49 #[x0, x1, x2, x3, x4]) (u v : Value) : Blk ((w4.setCell ⟨b, 0, none⟩ u).setCell ⟨b, 1, none⟩ v) b 49 #[u, v, x2, x3, x4] ∧ w4.grownBy ((w4.setCell ⟨b, 0, none⟩ u).setCell ⟨b, 1, none⟩ v) (some b) :=
  ⟨by simpa using (hb.set_ 0 u).set_ 1 v, (grown_setCell w4 ⟨b, 0, none⟩ u).trans (grown_setCell _ ⟨b, 1, none⟩ v)⟩
theorem sets_ba (hb : Blk w4 b 49 #[x0, x1, x2, x3, x4]) (u v : Value) : Blk ((w4.setCell ⟨b, 1, none⟩ v).setCell ⟨b, 0, none⟩ u) b 49 #[u, v, x2, x3, x4] ∧ w4.grownBy ((w4.setCell ⟨b, 1, none⟩ v).setCell ⟨b, 0, none⟩ u) (some b) :=
  ⟨by simpa using (hb.set_ 1 v).set_ 0 u, (grown_setCell w4 ⟨b, 1, none⟩ v).trans (grown_setCell _ ⟨b, 0, none⟩ u)⟩
theorem own_farB {v : Value} {xs : List Value} {t : TypeId} {cs : Array Value} (ho : w.ownsRow base 5 1 v n xs) (hg : w.grownBy w' (some b)) (hb : Blk w b t cs) (hne : t ≠ 5) : w'.ownsRow base 5 1 v n xs := by
  refine ho.kept hg ?_
  rcases hb' : v.ownBlock with _ | g
  · exact .inl rfl
  · refine .inr fun e => ?_
    injection e with e
    subst e
    obtain ⟨c, hc, _⟩ := own_block ho hb'
    unfold Blk at hb
    rw [hb] at hc
    injection hc with hc
    injection hc with _ ht
    exact hne ht
end
theorem own_b {w w' : World} {base : Nat} {e : TypeId} {size n : Nat} {v : Value} {xs : List Value} (hb : Below w.heap.size w w') (h : w.ownsRow base e size v n xs) : w'.ownsRow base e size v n xs := h.kept (grown_of_below (row := none) hb) (by rcases v.ownBlock with _ | g <;> simp)
abbrev zbk : Array Value := #[.slice none 0 0, .int .i64 0]

set_option maxRecDepth 100000 in
set_option maxHeartbeats 2000000 in
theorem eclone_any (A : Option Addr) (c : Nat) (k : Bk) (w : World) (hA : Ents w w.heap.size A k.ents.length k.ents) (h1 : k.ents.length ≤ c) (h2 : c ≤ maxLen) (hs : SmE k.ents) :
    Calls Try.prog 43 #[bkv A k.ents.length c k.eps] w (BkRet w k id) := by
  have D0 := Lib.hid ((BBox.arg hA h1 h2).alloc (.cells #[.slice none 0 0, .int .i64 0] 25))
  have HS := Lib.hid hs
  have HA := Lib.hid hA
  obtain ⟨ents, eps⟩ := k
  dsimp only at D0 hs HS HA ⊢
  obtain ⟨n, hn⟩ : ∃ n, n = ents.length := ⟨_, rfl⟩
  have hn1 : n ≤ 1000 := by rw [hn]; exact hs.1
  have HN := Lib.hid hn
  clear hA h1 h2 hs
  have d0 := D0.out
  have bz : Blk ((w.alloc (.cells #[.slice A ents.length c, .int .i64 eps] 25)).alloc (.cells #[.slice none 0 0, .int .i64 0] 25)) (w.heap.size + 1) 25 #[.slice none 0 0, .int .i64 0] := by simpa using Blk.new (w.alloc (.cells #[.slice A ents.length c, .int .i64 eps] 25)) 25 #[.slice none 0 0, .int .i64 0]
  have hBW : Below w.heap.size w ((w.alloc (.cells #[.slice A ents.length c, .int .i64 eps] 25)).alloc (.cells #[.slice none 0 0, .int .i64 0] 25)) := bel_alloc (below_one w _)
  have hsz : ((w.alloc (.cells #[.slice A ents.length c, .int .i64 eps] 25)).alloc (.cells #[.slice none 0 0, .int .i64 0] 25)).heap.size = w.heap.size + 2 := by simp
  have HSZ := Lib.hid hsz
  have BZ := Lib.hid bz
  have DD := Lib.hid d0
  have HBW := Lib.hid hBW
  clear D0 d0 bz hBW hsz
  go_enter Try.func43, Try.ntmps43
  go_wp2_with fail
  generalize ((w.alloc (.cells #[.slice A ents.length c, .int .i64 eps] 25)).alloc (.cells #[.slice none 0 0, .int .i64 0] 25)) = W at DD BZ HBW HSZ ⊢
  have hwn : ents.length ≤ 1000 := by rw [← HN.out]; exact hn1
  go_cut [3] (fun s3 wx => ∃ (g G : Nat) (xs : List Value), s3 = .pointer (some ⟨g, 0, none⟩) ∧ Blk wx g 25 #[.slice (some ⟨G, 0, none⟩) ents.length ents.length, .int .i64 eps] ∧ OwnE wx W.heap.size (.slice (some ⟨G, 0, none⟩) ents.length ents.length) xs (List.replicate ents.length zEnt) ∧ Below W.heap.size W wx ∧ W.heap.size ≤ g)
  case first =>
    have hK := Lib.hid (fun w' => keepK (w' := w') DD.out)
    have hmk := fun w' : World => run_makeE w' ents.length hwn
    generalize hZ : madeCells #[Value.slice none 0 0, .slice none 0 0, .int .i64 0, .int .i64 0, .bool false] (ents.length * 5) = Z at hmk
    have HZ := Lib.hid hZ
    clear hZ DD BZ HBW HSZ
    go_region_held3 (fun w' => w'.cell? ⟨w.heap.size, 0, none⟩ = some (.slice A ents.length c) ∧ w'.cell? ⟨w.heap.size, 1, none⟩ = some (.int .i64 eps) ∧ Below W.heap.size W w')
      ((refine hK.out _ ?_; first | simp only [Below.refl, bel_drew, bel_alloc, *] | with_reducible exact bel_drew (bel_alloc (bel_alloc (Below.refl _ _)))))
      (fail)
    all_goals (go_wp2_with fail; go_meet)
    · rw [← HZ.out]
      exact ⟨_, _, _, rfl, blk_two W _ _, (own_madeE W W.heap.size ents.length (Nat.le_refl _) hwn).alloc _ |>.drew, bel_drew (bel_alloc (bel_alloc (Below.refl _ _))), by omega⟩
    · rw [← HZ.out]
      have := own_madeE (W.alloc (.cells #[.slice (some ⟨W.heap.size + 1, 0, none⟩) ents.length ents.length, .int .i64 eps] 25)) W.heap.size ents.length (by simp) hwn
      simp only [World.size_alloc] at this
      exact ⟨_, _, _, rfl, (Blk.new W _ _).alloc _, this.drew, bel_drew (bel_alloc (bel_alloc (Below.refl _ _))), Nat.le_refl _⟩
  case rest =>
    obtain ⟨g, G, xs, rfl, hg, hO, hB, hgl⟩ := hcut
    have HO := Lib.hid hO
    have d1 := Lib.hid (DD.out.after hB)
    have z1 := Lib.hid (BZ.out.below hB BZ.out.lt)
    have HG := Lib.hid hg
    have HB := Lib.hid (keepB hB HBW.out)
    obtain ⟨q0, q1⟩ := d1.out.cells
    dsimp only at q0 q1
    have hWs : w.heap.size + 2 ≤ W.heap.size := by rw [HSZ.out]; exact Nat.le_refl _
    have hWx := hB.size
    clear hO hB hg DD BZ HBW HSZ
    go_wp2_with fail
    go_loopw [16] (fun i wr => ∃ (j : Nat) (ys : List Value), j ≤ ents.length ∧ i = .int .i64 j ∧ OwnE wr W.heap.size (.slice (some ⟨G, 0, none⟩) ents.length ents.length) ys (sofar ents ents.length j) ∧ Below w.heap.size w wr ∧ Blk wr w.heap.size 25 #[.slice A ents.length c, .int .i64 eps] ∧ Blk wr (w.heap.size + 1) 25 #[.slice none 0 0, .int .i64 0] ∧ Blk wr g 25 #[.slice (some ⟨G, 0, none⟩) ents.length ents.length, .int .i64 eps] ∧ W.heap.size ≤ wr.heap.size) (fun i _ => ents.length - (intOf i).toNat)
    case atStart => exact ⟨0, xs, Nat.zero_le _, rfl, by simpa [sofar] using HO.out, HB.out, d1.out.blk, z1.out, HG.out, hWx⟩
    case round =>
      obtain ⟨j, ys, hj, rfl, hO, hBr, b0, b1, bg, hWr⟩ := hrel
      have JO := Lib.hid hO
      have JB := Lib.hid hBr
      have B0 := Lib.hid b0
      have B1 := Lib.hid b1
      have BG := Lib.hid bg
      have JE := Lib.hid (HA.out.below hBr)
      have hlen := sofar_len (l := ents) rfl hj
      have HLEN := Lib.hid hlen
      clear hO hBr b0 b1 bg hlen q0 q1
      by_cases hlt : j < ents.length
      · obtain ⟨xb, xo, ⟨xl, xv, xver, xep, xer⟩, Ax, cx, Ay, cy, rfl, hb, hx, c1, c2, c3, c4, c5, p1, p2, p3, s1, s2, s3⟩ := JE.out.at_ hlt
        obtain ⟨hs1, hs2⟩ := HS.out.2 j _ hx
        have X := Lib.hid hx
        have P3 := Lib.hid p3
        have S3 := Lib.hid s3
        dsimp only at c1 c2 c3 c4 c5 p1 p2 s1 s2 hs1 hs2
        clear hx p3 s3
        have hk0 : (0 : Int) ≤ (j : Int) := by omega
        have hk1 : (j : Int) < (ents.length : Int) := by omega
        have bx : Blk (wr.alloc (.cells #[.slice Ax xl.length cx, .slice Ay xv.length cy, .int .i64 xver, .int .i64 xep, .bool xer] 49)) wr.heap.size 49 #[.slice Ax xl.length cx, .slice Ay xv.length cy, .int .i64 xver, .int .i64 xep, .bool xer] := Blk.new wr _ _
        have hB2 : Below wr.heap.size wr (wr.alloc (.cells #[.slice Ax xl.length cx, .slice Ay xv.length cy, .int .i64 xver, .int .i64 xep, .bool xer] 49)) := below_one wr _
        go_wp2_with fail
        generalize (wr.alloc (.cells #[.slice Ax xl.length cx, .slice Ay xv.length cy, .int .i64 xver, .int .i64 xep, .bool xer] 49)) = W2 at bx hB2 ⊢
        have R3 := Lib.hid ((P3.out.more JB.out.size).below hB2)
        have R4 := Lib.hid ((S3.out.more JB.out.size).below hB2)
        have HB2 := Lib.hid hB2
        have hsz2 := hB2.size
        have BX := Lib.hid bx
        have cb := bx.cell
        clear c1 c2 c3 c4 c5 P3 S3 hB2 bx
        go_region_with (first
          | (go_at_call_of 34 (Value.slice Ax xl.length cx); refine (clone_any (B := wr.heap.size) Ax cx xl _ (by exact R3.out) (by exact hsz2) (by omega)).mono ?_; rintro e w3 ⟨A3, c3, rfl, ho3, hB3⟩; have hB3' := hB3.mono hsz2; have bx3 : Blk w3 wr.heap.size 49 _ := Blk.below (w := W2.drew) BX.out hB3 BX.out.lt; have cb3 := bx3.cell; have BX3 := Lib.hid bx3; have HO3 := Lib.hid ho3; have HB3 := Lib.hid hB3; clear bx3 ho3)
          | (go_at_call_of 34 (Value.slice Ay xv.length cy); refine (clone_any (B := wr.heap.size) Ay cy xv _ (by exact Rd.below (w := W2.drew) R4.out (HB3.out.mono hsz2)) (by exact Nat.le_trans hsz2 HB3.out.size) (by omega)).mono ?_; rintro e w4 ⟨A4, c4, rfl, ho4, hB4⟩; have bx4 := BX3.out.below hB4 BX3.out.lt; have cb4 := bx4.cell; have fb4 := bx4.frozen; have BX4 := Lib.hid bx4; have HO4 := Lib.hid ho4; have HB4 := Lib.hid hB4; clear bx4 ho4))
        all_goals
          have F := sets_ab BX4.out (.slice A3 xl.length c3) (.slice A4 xv.length c4)
          have hW4 := keepB HB4.out (keepB HB3.out (bel_drew HB2.out))
          have hWf : Below wr.heap.size wr ((w4.setCell ⟨wr.heap.size, 0, none⟩ (.slice A3 xl.length c3)).setCell ⟨wr.heap.size, 1, none⟩ (.slice A4 xv.length c4)) := bel_set (bel_set hW4 (Nat.le_refl _)) (Nat.le_refl _)
          have o3 := own_farB (own_b HB4.out HO3.out) F.2 BX4.out (by decide)
          have o4 := own_farB HO4.out F.2 BX4.out (by decide)
          have z3 : W.heap.size ≤ W2.heap.size := Nat.le_trans hWr hsz2
          have z4 : W.heap.size ≤ w3.heap.size := Nat.le_trans z3 HB3.out.size
          have bF := F.1
          generalize ((w4.setCell ⟨wr.heap.size, 0, none⟩ (.slice A3 xl.length c3)).setCell ⟨wr.heap.size, 1, none⟩ (.slice A4 xv.length c4)) = Wf at bF hWf o3 o4 ⊢
          clear F hW4 cb cb3 cb4 fb4 BX3 BX4 HO3 HO4 HB4 HB3 hB3 hB3' hB4 BX R3 R4 HB2
          have O3 := Lib.hid (own_less o3 z3)
          have O4 := Lib.hid (own_less o4 z4)
          have bg := BG.out.below hWf BG.out.lt
          have JOF := Lib.hid (JO.out.below hWf)
          have HWF := Lib.hid hWf
          obtain ⟨G', cap', x', Al', cl', Av', cv', hV, hq1, hq2, hGb, hGl, hx', g1, g2, g3, g4, g5, gf⟩ := JOF.out.at_ (i := j) (by rw [HLEN.out]; exact hlt)
          simp only [Value.slice.injEq, Option.some.injEq, Addr.mk.injEq, and_true] at hV
          obtain ⟨rfl, hVe⟩ := hV
          clear hVe
          have cF := bF.cell
          have cg := bg.cell
          have BGF := Lib.hid bg
          clear o3 o4 z3 z4 hWf bF bg hx' hq1 hq2
          go_wp2
          obtain ⟨ys', hO', hgr⟩ := OwnE.store (x' := ⟨xl, xv, xver, xep, xer⟩) JOF.out (by rw [HLEN.out]; exact hlt) O3.out O4.out
          rw [sofar_set rfl X.out] at hO'
          have hBf := JB.out.trans (HWF.out.mono JB.out.size)
          have hBn := hBf.grown hgr hBf.size (fun k e => by injection e with e; omega)
          have n0 : some w.heap.size ≠ some G := by simp; omega
          have n1 : some (w.heap.size + 1) ≠ some G := by simp; omega
          have n2 : some g ≠ some G := by
            intro e
            injection e with e
            obtain ⟨cur, hcur⟩ := JOF.out.blk rfl
            have hb := BGF.out
            rw [e] at hb
            unfold Blk at hb hcur
            rw [hb] at hcur
            injection hcur with hcur
            injection hcur with _ ht
            exact absurd ht (by decide)
          go_roundw
          case rel => exact ⟨j + 1, ys', by omega, by go_num, hO', hBn, (B0.out.below HWF.out B0.out.lt).grown hgr n0, (B1.out.below HWF.out B1.out.lt).grown hgr n1, BGF.out.grown hgr n2, Nat.le_trans hWr (Nat.le_trans HWF.out.size hgr.size)⟩
          case measure => simp [intOf]; omega
      · have hjn : ¬ (j : Int) < (ents.length : Int) := by omega
        have hso : sofar ents ents.length j = ents := by
          unfold sofar
          rw [List.take_of_length_le (by omega), show ents.length - j = 0 by omega]
          simp
        have JO2 : Hid (OwnE wr W.heap.size (.slice (some ⟨G, 0, none⟩) ents.length ents.length) ys ents) := Lib.hid (by have := JO.out; rw [hso] at this; exact this)
        have cg := BG.out.cell
        have c1 := B1.out.cell
        have f1 := B1.out.frozen
        clear JO hso
        go_wp2
        refine bodyPost_ret (v := bkv (some ⟨G, 0, none⟩) ents.length ents.length eps) (by simp [results, Try.results43, go_sem, c1]) rfl ?_
        have hgr := (grown_setCell wr ⟨w.heap.size + 1, 0, none⟩ (.slice (some ⟨G, 0, none⟩) ents.length ents.length)).trans (grown_setCell _ ⟨w.heap.size + 1, 1, none⟩ (.int .i64 eps))
        exact ⟨_, _, ys, rfl, (JO2.out.grownB hgr B1.out (by decide) (by decide)).less (by omega), JB.out.grown hgr JB.out.size (fun k e => by injection e with e; dsimp only at e; omega)⟩
end Go.Proofs.Ytkiijbbcfbkecaa
