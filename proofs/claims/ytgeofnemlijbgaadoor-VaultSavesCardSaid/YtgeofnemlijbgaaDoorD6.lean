/- disk.Read, and the document's. -/
import Derived.Test.YtgeofnemlijbgaaDoorD2
import Derived.Test.YtgeofnemlijbgaaDoorPlain
namespace Go.Proofs.YtgeofnemlijbgaaDoor
open Go.RowKit
set_option linter.unusedVariables false

def okR (d : Dsk) (at_ n : Int) : Bool := checkB d.secs && decide (0 ≤ at_) && decide (0 ≤ n) && decide (at_ ≤ d.secs.length) && decide (n ≤ d.secs.length - at_)
def readD (d : Dsk) (at_ n : Int) : List UInt8 × Int := if okR d at_ n then (((d.secs.drop at_.toNat).take n.toNat).flatten, 0) else ([], 1)
/-- A call hands back bytes in memory of its own, and a number. -/
def BRet (w : World) (l : List UInt8) (f : Value → Value) (e : Ending) (w' : World) : Prop :=
  ∃ v, e = .returned (f v) ∧ w'.ownsRow w.heap.size 5 1 v l.length (bvs l) ∧ Below w.heap.size w w'

set_option maxRecDepth 100000 in
set_option maxHeartbeats 800000 in
theorem read_bad (A : Option Addr) (c : Nat) (d : Dsk) (at_ n : Int) (w : World) (hd : Bss w w.heap.size A d.secs.length d.secs) (hs : Sm d.secs) (hi1 : -9223372036854775808 ≤ at_) (hi2 : at_ ≤ 9223372036854775807) (hx : okR d at_ n = false) :
    Calls Tryd.prog 37 #[dvD A c d, .int .i64 at_, .int .i64 n] w (BRet w (readD d at_ n).1 fun v => .tuple #[v, .int .i64 (readD d at_ n).2]) := by
  have hr : readD d at_ n = ([], 1) := by simp [readD, hx]
  rw [hr]
  obtain ⟨ss, left, torn, off, done⟩ := d
  dsimp only at hd hs ⊢
  have Hd := Lib.hid hd
  have Hs := Lib.hid hs
  have hm0 : ss.length ≤ 2048 := hs.1
  have hm : ss.length ≤ maxLen := by unfold maxLen; omega
  have hm1 : (ss.length : Int) ≤ 2048 := by omega
  simp only [okR, Bool.and_eq_false_iff, decide_eq_false_iff_not, or_assoc] at hx
  clear hd hs hr
  cases hck : checkB ss
  · clear hx
    go_enter Tryd.func37, Tryd.ntmps37
    go_wp2_with (go_at_call 11; refine (check_any A ss.length c left torn off done ss _ ?h1 hm).mono ?_; rotate_left; rintro e w0 ⟨rfl, hB0⟩; have b0 := (Blk.new w _ _).below hB0 (by simp); have cc0 := b0.cell)
    case h1 => exact bss_one Hd.out _ (by first | omega | (simp; done) | (simp; omega))
    go_ret2
    exact ⟨_, rfl, World.ownsRow_nil _ _ _ _, (below_one w _).trans (hB0.mono (by simp))⟩
  · rw [hck] at hx
    simp only [Bool.true_eq_false, false_or] at hx
    by_cases h1 : 0 ≤ at_
    · by_cases h2 : 0 ≤ n
      · by_cases h3 : at_ ≤ (ss.length : Int)
        · have h4 : (ss.length : Int) - at_ < n := by omega
          clear hx
          go_enter Tryd.func37, Tryd.ntmps37
          go_wp2_with (go_at_call 11; refine (check_any A ss.length c left torn off done ss _ ?h1 hm).mono ?_; rotate_left; rintro e w0 ⟨rfl, hB0⟩; have b0 := (Blk.new w _ _).below hB0 (by simp); have cc0 := b0.cell)
          case h1 => exact bss_one Hd.out _ (by first | omega | (simp; done) | (simp; omega))
          go_ret2
          exact ⟨_, rfl, World.ownsRow_nil _ _ _ _, (below_one w _).trans (hB0.mono (by simp))⟩
        · have h4 : (ss.length : Int) < at_ := by omega
          clear hx
          go_enter Tryd.func37, Tryd.ntmps37
          go_wp2_with (go_at_call 11; refine (check_any A ss.length c left torn off done ss _ ?h1 hm).mono ?_; rotate_left; rintro e w0 ⟨rfl, hB0⟩; have b0 := (Blk.new w _ _).below hB0 (by simp); have cc0 := b0.cell)
          case h1 => exact bss_one Hd.out _ (by first | omega | (simp; done) | (simp; omega))
          go_ret2
          exact ⟨_, rfl, World.ownsRow_nil _ _ _ _, (below_one w _).trans (hB0.mono (by simp))⟩
      · have h4 : n < 0 := by omega
        clear hx
        go_enter Tryd.func37, Tryd.ntmps37
        go_wp2_with (go_at_call 11; refine (check_any A ss.length c left torn off done ss _ ?h1 hm).mono ?_; rotate_left; rintro e w0 ⟨rfl, hB0⟩; have b0 := (Blk.new w _ _).below hB0 (by simp); have cc0 := b0.cell)
        case h1 => exact bss_one Hd.out _ (by first | omega | (simp; done) | (simp; omega))
        go_ret2
        exact ⟨_, rfl, World.ownsRow_nil _ _ _ _, (below_one w _).trans (hB0.mono (by simp))⟩
    · have h4 : at_ < 0 := by omega
      clear hx
      go_enter Tryd.func37, Tryd.ntmps37
      go_wp2_with (go_at_call 11; refine (check_any A ss.length c left torn off done ss _ ?h1 hm).mono ?_; rotate_left; rintro e w0 ⟨rfl, hB0⟩; have b0 := (Blk.new w _ _).below hB0 (by simp); have cc0 := b0.cell)
      case h1 => exact bss_one Hd.out _ (by first | omega | (simp; done) | (simp; omega))
      go_ret2
      exact ⟨_, rfl, World.ownsRow_nil _ _ _ _, (below_one w _).trans (hB0.mono (by simp))⟩

/-- The bytes of k sectors, from a on. -/
def fl (ss : List (List UInt8)) (a k : Nat) : List UInt8 := ((ss.drop a).take k).flatten
theorem fl_succ {ss : List (List UInt8)} {a k : Nat} {l : List UInt8} (h : ss[a + k]? = some l) : fl ss a (k + 1) = fl ss a k ++ l := by
  unfold fl
  rw [List.take_add_one, List.getElem?_drop, h]
  simp
theorem fl_le {ss : List (List UInt8)} (h : ∀ (i : Nat) (l : List UInt8), ss[i]? = some l → l.length ≤ 100) (a : Nat) : ∀ k, (fl ss a k).length ≤ k * 100
  | 0 => by simp [fl]
  | k + 1 => by
    have ih := fl_le h a k
    rcases hx : ss[a + k]? with _ | l
    · have : fl ss a (k + 1) = fl ss a k := by
        unfold fl
        rw [List.take_add_one, List.getElem?_drop, hx]
        simp
      rw [this]; omega
    · rw [fl_succ hx, List.length_append]
      have := h _ _ hx
      omega
theorem read_step {w wr w' : World} {v v' : Value} {ss : List (List UInt8)} {a k : Nat} {l : List UInt8} (hB : Below w.heap.size w wr) (ho : wr.ownsRow w.heap.size 5 1 v (fl ss a k).length (bvs (fl ss a k))) (hl : ss[a + k]? = some l)
    (ho' : w'.ownsRow w.heap.size 5 1 v' ((fl ss a k).length + l.length) (bvs (fl ss a k) ++ bvs l)) (hg : wr.grownBy w' v.ownBlock) :
    w'.ownsRow w.heap.size 5 1 v' (fl ss a (k + 1)).length (bvs (fl ss a (k + 1))) ∧ Below w.heap.size w w' := by
  rw [fl_succ hl, List.length_append, bvs_append]
  exact ⟨ho', hB.grown hg hB.size (fun g e => (own_block ho e).elim fun _ h => h.2.1)⟩

set_option maxRecDepth 100000 in
set_option maxHeartbeats 1000000 in
theorem read_good (A : Option Addr) (c : Nat) (d : Dsk) (at_ n : Int) (w : World) (hd : Bss w w.heap.size A d.secs.length d.secs) (hcc : d.secs.length ≤ c) (hcm : c ≤ maxLen) (hs : Sm d.secs) (hx : okR d at_ n = true) :
    Calls Tryd.prog 37 #[dvD A c d, .int .i64 at_, .int .i64 n] w (BRet w (readD d at_ n).1 fun v => .tuple #[v, .int .i64 (readD d at_ n).2]) := by
  obtain ⟨i2, hi2, hz2, hs2, hb2⟩ := info_parts infoTB
  have hr : readD d at_ n = (((d.secs.drop at_.toNat).take n.toNat).flatten, 0) := by simp [readD, hx]
  rw [hr]
  obtain ⟨ss, left, torn, off, done⟩ := d
  dsimp only at hd hs hcc ⊢
  have Hd := Lib.hid hd
  have Hs := Lib.hid hs
  have hm0 : ss.length ≤ 2048 := hs.1
  have hm : ss.length ≤ maxLen := by unfold maxLen; omega
  simp only [okR, Bool.and_eq_true, decide_eq_true_eq] at hx
  obtain ⟨⟨⟨⟨hck, h1⟩, h2⟩, h3⟩, h4⟩ := hx
  obtain ⟨a, rfl⟩ := Int.eq_ofNat_of_zero_le h1
  obtain ⟨m, rfl⟩ := Int.eq_ofNat_of_zero_le h2
  simp only [Int.toNat_natCast]
  have g1 : a ≤ ss.length := by omega
  have g2 : m ≤ ss.length - a := by omega
  have g3 : a + m ≤ ss.length := by omega
  have hq1 : i2.bytes * (m * 64) ≤ 281474976710656 := by rw [hb2]; omega
  have hq2 : m * 64 ≤ maxLen := by unfold maxLen; omega
  have hC : (m : Int) * 64 = ((m * 64 : Nat) : Int) := by omega
  have HC := Lib.hid hC
  have HK := Lib.hid hck
  unfold maxLen at hcm
  clear hd hs hr h1 h2 h3 h4 hC
  have d1 : decide ((a : Int) < 0) = false := by simp
  have d2 : decide ((m : Int) < 0) = false := by simp
  have d3 : decide ((ss.length : Int) - (a : Int) < (m : Int)) = false := by simp; omega
  have hfl := fun k => fl_le Hs.out.2 a k
  have HF := Lib.hid hfl
  clear hfl
  by_cases hca : c = a
  · have hm00 : m ≤ 0 := by omega
    subst hca
    go_enter Tryd.func37, Tryd.ntmps37
    go_wp2_with (first
      | (go_at_call 11; refine (check_any A ss.length c left torn off done ss _ ?h1 hm).mono ?_; rotate_left; rintro e w0 ⟨rfl, hB0⟩; have b0 := (Blk.new w _ _).below hB0 (by simp); have cc0 := b0.cell; have hB1 : Below w.heap.size w w0 := (below_one w _).trans (hB0.mono (by simp)); have hsz := hB1.size)
      | (at_make; refine wpList_make_own _ rfl _ _ 25 rfl w.heap.size 5 i2 (.int .u8 0) 1 Tryd.underlying25 hi2 hz2 hs2 .i64 .i64 _ (m * 64) rfl rfl HC.out hq1 hq2 hsz ?_; intro w1 hown1 hgr1; have b1 := b0.grown hgr1 (by simp); have cc1 := b1.cell))
    case h1 => exact bss_one Hd.out _ (by first | omega | (simp; done) | (simp; omega))
    refine wp_loop_rounds 1 ?_
    rw [rounds_succ]
    go_wp2
    go_ret2
    have := hB1.grown hgr1 hsz (fun _ e => by cases e)
    obtain rfl : m = 0 := by omega
    exact ⟨_, rfl, by simpa [bvs] using hown1, this⟩
  · have hca1 : a < c := by omega
    have h4 : 4 ≤ ss.length := (checkB_len HK.out).1
    obtain ⟨ad, _, _, _, rfl, hadb, _⟩ := Hd.out.at_ (k := 0) (by omega)
    go_enter Tryd.func37, Tryd.ntmps37
    go_wp2_with (first
      | (go_at_call 11; refine (check_any (some ad) ss.length c left torn off done ss _ ?h1 hm).mono ?_; rotate_left; rintro e w0 ⟨rfl, hB0⟩; have b0 := (Blk.new w _ _).below hB0 (by simp); have cc0 := b0.cell; have hB1 : Below w.heap.size w w0 := (below_one w _).trans (hB0.mono (by simp)); have hsz := hB1.size)
      | (at_make; refine wpList_make_own _ rfl _ _ 25 rfl w.heap.size 5 i2 (.int .u8 0) 1 Tryd.underlying25 hi2 hz2 hs2 .i64 .i64 _ (m * 64) rfl rfl HC.out hq1 hq2 hsz ?_; intro w1 hown1 hgr1; have b1 := b0.grown hgr1 (by simp); have cc1 := b1.cell))
    case h1 => exact bss_one Hd.out _ (by first | omega | (simp; done) | (simp; omega))
    have hBw := hB1.grown hgr1 hsz (fun _ e => by cases e)
    clear cc0 cc1 hgr1 b0 b1 hB0 hB1 hsz
    rw [Nat.add_sub_cancel_left]
    go_loopw [8, 49] (fun v i wr => ∃ k : Nat, k ≤ m ∧ i = .int .i64 k ∧ wr.ownsRow w.heap.size 5 1 v (fl ss a k).length (bvs (fl ss a k)) ∧ Below w.heap.size w wr) (fun _ i _ => m - (intOf i).toNat)
    case atStart => exact ⟨0, Nat.zero_le _, rfl, by simpa [fl, bvs] using hown1, hBw⟩
    case round =>
      obtain ⟨k, hk, rfl, ho, hB⟩ := hrel
      have hsz := hB.size
      by_cases hlt : k < m
      · obtain ⟨ad', Ai, ci, l, he, hb, hl, hc, h1, h2, h3⟩ := Hd.out.at_ (k := a + k) (by omega)
        injection he with he
        subst he
        have q1 : wr.cell? ((ad.add a).add k) = some (.slice Ai l.length ci) := (hB.cell (p := (ad.add a).add k) (by rw [block_of_add, block_of_add]; exact hb)).trans (by rw [add_of_add]; exact hc)
        have HL := Lib.hid hl
        have HR := Lib.hid (h3.below hB)
        have hl100 : l.length ≤ 100 := Hs.out.2 _ l hl
        have hfk := HF.out k
        have m1 : (fl ss a k).length + l.length ≤ maxLen := by unfold maxLen; omega
        have m2 : ((fl ss a k).length + l.length) * 1 ≤ 140737488355328 := by omega
        have HO := Lib.hid ho
        obtain ⟨A0, c0, rfl, e1, e2⟩ := own_form ho
        unfold maxLen at h2
        clear hl hc h3 ho hown1 hBw
        go_wp2_with (at_builtin; refine wpList_append_any _ rfl (.tmp 53) (.tmp 54) _ rfl w.heap.size 5 i2 (.int .u8 0) 1 1 Tryd.underlying25 hi2 hz2 hs2 hb2 rfl (by omega) _ _ _ rfl HO.out w.heap.size Ai l.length ci (bvs l) rfl ?h9 (bvs_one l) m1 m2 hsz ?_; rotate_left; intro v' w2 hown2 hgr2 hat2; obtain ⟨A3, c3, rfl, e3, e4⟩ := own_form hown2)
        case h9 => rw [Nat.mul_one]; exact HR.out
        have R := read_step hB HO.out HL.out hown2 hgr2
        clear hown2 hgr2 hat2
        go_roundw
        case rel => first | exact ⟨k + 1, by omega, by go_num, R.1, R.2⟩ | ((repeat apply Exists.intro); exact ⟨⟨k + 1, by omega, by go_num, R.1, R.2⟩, rfl⟩)
        case measure => simp [intOf]; omega
      · obtain rfl : k = m := by omega
        have HO := Lib.hid ho
        clear ho hown1 hBw
        go_wp2
        go_ret2
        exact ⟨_, rfl, HO.out, hB⟩
theorem read_any (A : Option Addr) (c : Nat) (d : Dsk) (at_ n : Int) (w : World) (hd : Bss w w.heap.size A d.secs.length d.secs) (hcc : d.secs.length ≤ c) (hcm : c ≤ maxLen) (hs : Sm d.secs) (hi1 : -9223372036854775808 ≤ at_) (hi2 : at_ ≤ 9223372036854775807) :
    Calls Tryd.prog 37 #[dvD A c d, .int .i64 at_, .int .i64 n] w (BRet w (readD d at_ n).1 fun v => .tuple #[v, .int .i64 (readD d at_ n).2]) := by
  cases hx : okR d at_ n
  · exact read_bad A c d at_ n w hd hs hi1 hi2 hx
  · exact read_good A c d at_ n w hd hcc hcm hs hx
end Go.Proofs.YtgeofnemlijbgaaDoor
