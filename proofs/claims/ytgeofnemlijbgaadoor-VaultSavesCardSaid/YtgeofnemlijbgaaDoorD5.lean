/- disk.Do. -/
import Derived.Test.YtgeofnemlijbgaaDoorD4
namespace Go.Proofs.YtgeofnemlijbgaaDoor
open Go.RowKit
set_option linter.unusedVariables false

/-- A slice of writes reads as l. -/
def Wrs (w : World) (B : Nat) (A : Option Addr) (n : Nat) (l : List Wr) : Prop :=
  l.length = n ∧ ∃ xs : List Value, Rd w B A (n * 2) xs ∧ ∀ (i : Nat) (x : Wr), l[i]? = some x → xs[i * 2]? = some (.int .i64 x.1) ∧ ∃ v, xs[i * 2 + 1]? = some v ∧ Bs w B v x.2
section
variable {w w' : World} {B B' n : Nat} {A : Option Addr} {l : List Wr}
theorem Wrs.keep (h : Wrs w B A n l) (hk : ∀ p : Addr, p.block < B → w'.cell? p = w.cell? p) : Wrs w' B A n l := by
  obtain ⟨h0, xs, h1, h2⟩ := h
  refine ⟨h0, xs, h1.keep hk, fun i x hx => ?_⟩
  obtain ⟨g1, v, g2, g3⟩ := h2 i x hx
  exact ⟨g1, v, g2, g3.keep hk⟩
theorem Wrs.more (h : Wrs w B A n l) (hB : B ≤ B') : Wrs w B' A n l := by
  obtain ⟨h0, xs, h1, h2⟩ := h
  refine ⟨h0, xs, h1.more hB, fun i x hx => ?_⟩
  obtain ⟨g1, v, g2, g3⟩ := h2 i x hx
  exact ⟨g1, v, g2, g3.more hB⟩
theorem Wrs.below (h : Wrs w B A n l) (hb : Below B w w') : Wrs w' B A n l := h.keep fun _ hp => hb.cell hp
theorem wrs_after (h : Wrs w w.heap.size A n l) (hb : Below w.heap.size w w') : Wrs w' w'.heap.size A n l := (h.below hb).more hb.size
theorem Wrs.at_ {k : Nat} (h : Wrs w B A n l) (hk : k < n) : ∃ b o x Ad cd, A = some ⟨b, o, none⟩ ∧ b < B ∧ l[k]? = some x ∧ w.cell? ⟨b, o + k * 2, none⟩ = some (.int .i64 x.1) ∧ w.cell? ⟨b, o + k * 2 + 1, none⟩ = some (.slice Ad x.2.length cd) ∧ x.2.length ≤ cd ∧ cd ≤ maxLen ∧ Rd w B Ad x.2.length (bvs x.2) := by
  obtain ⟨h0, xs, h1, h2⟩ := h
  obtain ⟨⟨b, o, sp⟩, e, hb, hc⟩ := h1.2 (by omega)
  have hx : l[k]? = some (l[k]'(by omega)) := List.getElem?_eq_getElem _
  obtain ⟨g1, v, g2, Ad, cd, rfl, g3, g4, g5⟩ := h2 k _ hx
  have c1 := hc _ _ g1
  have c2 := hc _ _ g2
  have hx0 : l[0]? = some (l[0]'(by omega)) := List.getElem?_eq_getElem _
  have hsp : sp = none := by simpa [Addr.add] using World.cell?_spot (hc _ _ (h2 0 _ hx0).1)
  subst hsp
  rw [Addr.add_lit] at c1 c2
  exact ⟨b, o, _, Ad, cd, e, hb, hx, c1, c2, g3, g4, g5⟩
end

set_option maxHeartbeats 400000 in
theorem do_bad (A : Option Addr) (c : Nat) (d : Dsk) (Al : Option Addr) (nl cl : Nat) (l : List Wr) (w : World) (hd : Bss w w.heap.size A d.secs.length d.secs) (hs : Sm d.secs) (hck : checkB d.secs = false) :
    Calls Tryd.prog 31 #[dvD A c d, .slice Al nl cl] w (DRet w (doD d l).1 fun v => .tuple #[v, .int .i64 (doD d l).2]) := by
  have hdo : doD d l = (d, 1) := by simp [doD, hck]
  rw [hdo]
  obtain ⟨ss, left, torn, off, done⟩ := d
  dsimp only at hd hs hck ⊢
  have Hd := Lib.hid hd
  have Hs := Lib.hid hs
  have hm : ss.length ≤ maxLen := by have := hs.1; unfold maxLen; omega
  clear hd hs hdo
  go_enter Tryd.func31, Tryd.ntmps31
  go_wp2_with fail
  go_step3
  go_wp2_with (first
    | (go_at_call 11; refine (check_any A ss.length c left torn off done ss _ ?h1 hm).mono ?_; rotate_left; rintro e w0 ⟨rfl, hB0⟩; obtain ⟨b0, b1, hB1⟩ := two_boxes_below hB0; have cc0 := b0.cell; have cc1 := b1.cell; have ff1 := b1.frozen)
    | (go_at_call 33; refine (clone_any A c ⟨ss, left, torn, off, done⟩ _ ?h2 Hs.out).mono ?_; rotate_left; rintro e w1 ⟨A1, c1, vs, rfl, hO, hB⟩; have b1' := b1.below hB b1.lt; have cc1' := b1'.cell; have ff1' := b1'.frozen))
  case h1 => exact bss_two Hd.out _ _ (by first | omega | (simp; omega))
  case h2 => exact bss_after (bss_two Hd.out _ _ (by simp; omega)) hB0
  rw [Exit.noGoto_ret]
  refine bodyPost_ret (v := .tuple #[dv A1 ss.length c1 left torn off done, .int .i64 1]) (by simp [results, Tryd.results31, go_sem, cc1']) rfl ?_
  exact dret_fin (fun v => .tuple #[v, .int .i64 1]) left torn off done hO (by have := hB1.size; omega) (hB1.trans (hB.mono hB1.size)) b1' (by omega)

abbrev zbx : Array Value := #[.slice none 0 0, .int .i64 0, .int .i64 0, .bool false, .int .i64 0]
/-- What holds behind k writes. -/
structure DoInv (w wr : World) (D R n : Nat) (V : Value) (vs : List Value) (r : Dsk × Int) (l : List Wr) (k : Nat) (dk : Dsk) : Prop where
  res : r = doL dk (l.drop k)
  good : GoodD dk
  len : dk.secs.length = n
  box : Blk wr D 77 (bx V dk)
  own : OwnS wr w.heap.size V vs dk.secs
  bel : Below w.heap.size w wr
  out : Blk wr R 24 zbx

theorem DoInv.next {w wr w' : World} {D R n : Nat} {V : Value} {vs : List Value} {r : Dsk × Int} {l : List Wr} {k : Nat} {dk : Dsk} {x : Wr} {o : Obj} {e : Ending} (h : DoInv w wr D R n V vs r l k dk) (hx : l[k]? = some x) (hp : WPost (wr.alloc o) w.heap.size D V vs dk x e w') (hRD : R ≠ D) :
    Blk w' D 77 (bx V (wrD dk x).1) ∧ OwnS w' w.heap.size V vs (wrD dk x).1.secs ∧ Below w.heap.size w w' ∧ Blk w' R 24 zbx ∧ GoodD (wrD dk x).1 ∧ (wrD dk x).1.secs.length = n ∧
      ((wrD dk x).2 = 0 → DoInv w w' D R n V vs r l (k + 1) (wrD dk x).1) ∧ ((wrD dk x).2 ≠ 0 → r = wrD dk x) := by
  obtain ⟨_, h1, h2, h3, h4⟩ := hp
  have hR := h4 R 24 zbx (by decide) hRD (h.out.alloc o)
  have hB := (h.bel.alloc h.bel.size o).trans h3
  have hl := (wrD_len dk x).trans h.len
  have hr := h.res
  rw [drop_at hx] at hr
  exact ⟨h1, h2, hB, hR, good_wr x h.good, hl, fun e0 => ⟨by rw [hr, doL_go e0], good_wr x h.good, hl, h1, h2, hB, hR⟩, fun e0 => by rw [hr, doL_stop e0]⟩

theorem do_close {w w2 : World} {R n c1 : Nat} {A1 : Option Addr} {vs : List Value} {d' : Dsk} {err : Int} {r : Dsk × Int} (hr : r = (d', err)) (hlen : d'.secs.length = n) (hO : OwnS w2 w.heap.size (.slice A1 n c1) vs d'.secs) (hB : Below w.heap.size w w2) (hb : Blk w2 R 24 zbx) (hR : w.heap.size ≤ R) :
    DRet w r.1 (fun v => .tuple #[v, .int .i64 r.2]) (.returned (.tuple #[dv A1 n c1 d'.left d'.torn d'.off d'.done, .int .i64 err])) (set5 w2 R (.slice A1 n c1) (.int .i64 d'.left) (.int .i64 d'.torn) (.bool d'.off) (.int .i64 d'.done)) := by
  subst hr
  subst hlen
  exact dret_fin (fun v => .tuple #[v, .int .i64 err]) d'.left d'.torn d'.off d'.done hO (Nat.le_refl _) hB hb hR

set_option maxHeartbeats 1000000 in
theorem do_good (A : Option Addr) (c : Nat) (d : Dsk) (Al : Option Addr) (nl cl : Nat) (l : List Wr) (w : World) (hd : Bss w w.heap.size A d.secs.length d.secs) (hs : Sm d.secs) (hck : checkB d.secs = true) (hl : Wrs w w.heap.size Al nl l) (hcl : nl ≤ 10000) (hli : d.left ≤ 9223372036854775807) :
    Calls Tryd.prog 31 #[dvD A c d, .slice Al nl cl] w (DRet w (doD d l).1 fun v => .tuple #[v, .int .i64 (doD d l).2]) := by
  have hdo : doD d l = doL d l := by simp [doD, hck]
  rw [hdo]
  have HG := Lib.hid (good_check hck hli)
  obtain ⟨r, hD0⟩ : ∃ r, r = doL d l := ⟨_, rfl⟩
  rw [← hD0]
  obtain ⟨ss, left, torn, off, done⟩ := d
  dsimp only at hd hs hck
  have Hd := Lib.hid hd
  have Hs := Lib.hid hs
  have HD := Lib.hid hD0
  have Hl := Lib.hid hl
  have hm : ss.length ≤ maxLen := by have := hs.1; unfold maxLen; omega
  clear hd hs hdo hD0 hl hli
  go_enter Tryd.func31, Tryd.ntmps31
  go_wp2_with fail
  go_step3
  go_wp2_with (first
    | (go_at_call 11; refine (check_any A ss.length c left torn off done ss _ ?h1 hm).mono ?_; rotate_left; rintro e w0 ⟨rfl, hB0⟩; obtain ⟨b0, b1, hB1⟩ := two_boxes_below hB0; have cc0 := b0.cell; have cc1 := b1.cell; have ff1 := b1.frozen)
    | (go_at_call 33; refine (clone_any A c ⟨ss, left, torn, off, done⟩ _ ?h2 Hs.out).mono ?_; rotate_left; rintro e w1 ⟨A1, c1, vs, rfl, hO, hB⟩; have b1' := b1.below hB b1.lt; have cc1' := b1'.cell; have ff1' := b1'.frozen))
  case h1 => exact bss_two Hd.out _ _ (by first | omega | (simp; omega))
  case h2 => exact bss_after (bss_two Hd.out _ _ (by simp; omega)) hB0
  go_step3
  go_wp2
  have hBB : Below w.heap.size w w1 := hB1.trans (hB.mono hB1.size)
  have hI : DoInv w (w1.alloc (.cells #[.slice A1 ss.length c1, .int .i64 left, .int .i64 torn, .bool off, .int .i64 done] 77)) w1.heap.size (w.heap.size + 1) ss.length (.slice A1 ss.length c1) vs r l 0 ⟨ss, left, torn, off, done⟩ :=
    ⟨by rw [HD.out]; simp, HG.out, rfl, Blk.new w1 _ _, (hO.alloc _).less (by have := hB1.size; omega), hBB.alloc hBB.size _, b1'.alloc _⟩
  have hRD : w.heap.size + 1 ≠ w1.heap.size := by have := b1'.lt; omega
  have hBD := hBB.size
  clear cc0 cc1 ff1 cc1' ff1' hO hB hB0 hB1 hBB b0 b1 b1'
  go_loopw [8, 24] (fun err i wr => ∃ (k : Nat) (dk : Dsk), k ≤ nl ∧ i = .int .i64 k ∧ err = .int .i64 0 ∧ DoInv w wr w1.heap.size (w.heap.size + 1) ss.length (.slice A1 ss.length c1) vs r l k dk) (fun _ i _ => nl - (intOf i).toNat)
  case atStart => exact ⟨0, _, Nat.zero_le _, rfl, rfl, hI⟩
  case round =>
    obtain ⟨k, dk, hk, rfl, rfl, hJ⟩ := hrel
    have J := Lib.hid hJ
    by_cases hlt : k < nl
    · obtain ⟨lb, lo, ⟨xa, xd⟩, Ad, cd, rfl, hb, hx, g1, g2, g3, g4, g5⟩ := Hl.out.at_ hlt
      have q1 := (hJ.bel.cell (p := ⟨lb, lo + k * 2, none⟩) hb).trans g1
      have q2 := (hJ.bel.cell (p := ⟨lb, lo + k * 2 + 1, none⟩) hb).trans g2
      have X := Lib.hid hx
      have R5 := Lib.hid (g5.below hJ.bel)
      have hsz := hJ.bel.size
      dsimp only at q1 q2 g3
      clear g1 g2 g5 hx hJ hI
      by_cases he : (wrD dk (xa, xd)).2 = 0
      · have heb : ((wrD dk (xa, xd)).2 != 0) = false := by rw [he]; rfl
        have HE := Lib.hid he
        clear he
        go_wp2_with (go_at_call 48; refine (write_any w.heap.size w1.heap.size A1 ss.length c1 vs dk xa Ad xd.length cd w.heap.size xd _ (J.out.box.alloc _) (J.out.own.alloc _) J.out.len.symm rfl g3 g4 ?h3 hBD ?h4 (Nat.le_refl _) J.out.good.1 J.out.good.2).mono ?_; rotate_left; rotate_left; rintro e w2 hW; have hN := Lib.hid (J.out.next X.out hW hRD); obtain ⟨rfl, _⟩ := hW; have bD := hN.out.1; have bR := hN.out.2.2.2.1; have cD := bD.cell; have cR := bR.cell; have fR := bR.frozen)
        case h3 => first | omega | (simp; omega)
        case h4 => exact R5.out.below ((below_one wr _).mono hsz)
        go_roundw
        case rel => exact ⟨k + 1, _, by omega, by go_num, by rw [HE.out], hN.out.2.2.2.2.2.2.1 HE.out⟩
        case measure => simp [intOf]; omega
      · have heb : ((wrD dk (xa, xd)).2 != 0) = true := by rw [bne_iff_ne]; exact he
        have HE := Lib.hid he
        clear he
        go_wp2_with (go_at_call 48; refine (write_any w.heap.size w1.heap.size A1 ss.length c1 vs dk xa Ad xd.length cd w.heap.size xd _ (J.out.box.alloc _) (J.out.own.alloc _) J.out.len.symm rfl g3 g4 ?h3 hBD ?h4 (Nat.le_refl _) J.out.good.1 J.out.good.2).mono ?_; rotate_left; rotate_left; rintro e w2 hW; have hN := Lib.hid (J.out.next X.out hW hRD); obtain ⟨rfl, _⟩ := hW; have bD := hN.out.1; have bR := hN.out.2.2.2.1; have cD := bD.cell; have cR := bR.cell; have fR := bR.frozen)
        case h3 => first | omega | (simp; omega)
        case h4 => exact R5.out.below ((below_one wr _).mono hsz)
        rw [Exit.noGoto_ret]
        refine bodyPost_ret (v := .tuple #[dv A1 ss.length c1 (wrD dk (xa, xd)).1.left (wrD dk (xa, xd)).1.torn (wrD dk (xa, xd)).1.off (wrD dk (xa, xd)).1.done, .int .i64 (wrD dk (xa, xd)).2]) (by simp [results, Tryd.results31, go_sem, cR]) rfl ?_
        obtain ⟨n1, n2, n3, n4, n5, n6, n7, n8⟩ := hN.out
        exact do_close (n8 HE.out) n6 n2 n3 n4 (by omega)
    · obtain rfl : k = nl := by omega
      have bD := hJ.box
      have bR := hJ.out
      have cD := bD.cell
      have cR := bR.cell
      have fR := bR.frozen
      clear hJ
      go_wp2
      refine bodyPost_ret (v := .tuple #[dv A1 ss.length c1 dk.left dk.torn dk.off dk.done, .int .i64 0]) (by simp [results, Tryd.results31, go_sem, cR]) rfl ?_
      exact do_close (J.out.res.trans (by rw [List.drop_of_length_le (by rw [Hl.out.1]; exact Nat.le_refl _)]; rfl)) J.out.len J.out.own J.out.bel J.out.out (by omega)
theorem do_any (A : Option Addr) (c : Nat) (d : Dsk) (Al : Option Addr) (nl cl : Nat) (l : List Wr) (w : World) (hd : Bss w w.heap.size A d.secs.length d.secs) (hs : Sm d.secs) (hl : Wrs w w.heap.size Al nl l) (hcl : nl ≤ 10000) (hli : d.left ≤ 9223372036854775807) :
    Calls Tryd.prog 31 #[dvD A c d, .slice Al nl cl] w (DRet w (doD d l).1 fun v => .tuple #[v, .int .i64 (doD d l).2]) := by
  cases hck : checkB d.secs
  · exact do_bad A c d Al nl cl l w hd hs hck
  · exact do_good A c d Al nl cl l w hd hs hck hl hcl hli
end Go.Proofs.YtgeofnemlijbgaaDoor
