/- The document's Read. -/
import Derived.Test.YtgeofnemlijbgaaDoorD6
import Derived.Test.YtgeofnemlijbgaaDoorVE1
namespace Go.Proofs.YtgeofnemlijbgaaDoor
open Go.RowKit
set_option linter.unusedVariables false

set_option maxRecDepth 100000 in
set_option maxHeartbeats 400000 in
theorem rread_bad (A : Option Addr) (c : Nat) (d : Dsk) (at_ n : Int) (w : World) (hd : Bss w w.heap.size A d.secs.length d.secs) (hs : Sm d.secs) (hi1 : -9223372036854775808 ≤ at_) (hi2 : at_ ≤ 9223372036854775807) (hx : okR d at_ n = false) :
    Calls Tryd.prog 40 #[dvD A c d, .int .i64 at_, .int .i64 n] w (BRet w (readD d at_ n).1 fun v => .tuple #[v, .int .i64 (readD d at_ n).2]) := by
  have hr : readD d at_ n = ([], 1) := by simp [readD, hx]
  rw [hr]
  obtain ⟨ss, left, torn, off, done⟩ := d
  dsimp only at hd hs ⊢
  have Hd := Lib.hid hd
  have Hs := Lib.hid hs
  have hm0 : ss.length ≤ 2048 := hs.1
  have hm : ss.length ≤ maxLen := by unfold maxLen; omega
  have hm1 : (ss.length : Int) ≤ 2048 := by omega
  simp only [okR, Bool.and_eq_false_iff, decide_eq_false_iff_not, or_assoc] at hx
  clear hd hs hr
  cases hck : checkB ss
  · clear hx
    go_enter Tryd.func40, Tryd.ntmps40
    go_wp2_with (go_at_call 38; refine (rcheck_any A ss.length c left torn off done ss _ ?h1 hm).mono ?_; rotate_left; rintro e w0 ⟨rfl, hB0⟩; have b0 := (Blk.new w _ _).below hB0 (by simp); have cc0 := b0.cell)
    case h1 => exact bss_one Hd.out _ (by first | omega | (simp; done) | (simp; omega))
    all_goals (go_ret2; exact ⟨_, rfl, World.ownsRow_nil _ _ _ _, (below_one w _).trans (hB0.mono (by simp))⟩)
  · rw [hck] at hx
    simp only [Bool.true_eq_false, false_or] at hx
    by_cases h1 : 0 ≤ at_
    · by_cases h2 : 0 ≤ n
      · by_cases h3 : at_ ≤ (ss.length : Int)
        · have h4 : (ss.length : Int) - at_ < n := by omega
          clear hx
          go_enter Tryd.func40, Tryd.ntmps40
          go_wp2_with (go_at_call 38; refine (rcheck_any A ss.length c left torn off done ss _ ?h1 hm).mono ?_; rotate_left; rintro e w0 ⟨rfl, hB0⟩; have b0 := (Blk.new w _ _).below hB0 (by simp); have cc0 := b0.cell)
          case h1 => exact bss_one Hd.out _ (by first | omega | (simp; done) | (simp; omega))
          all_goals (go_ret2; exact ⟨_, rfl, World.ownsRow_nil _ _ _ _, (below_one w _).trans (hB0.mono (by simp))⟩)
        · have h4 : (ss.length : Int) < at_ := by omega
          clear hx
          go_enter Tryd.func40, Tryd.ntmps40
          go_wp2_with (go_at_call 38; refine (rcheck_any A ss.length c left torn off done ss _ ?h1 hm).mono ?_; rotate_left; rintro e w0 ⟨rfl, hB0⟩; have b0 := (Blk.new w _ _).below hB0 (by simp); have cc0 := b0.cell)
          case h1 => exact bss_one Hd.out _ (by first | omega | (simp; done) | (simp; omega))
          all_goals (go_ret2; exact ⟨_, rfl, World.ownsRow_nil _ _ _ _, (below_one w _).trans (hB0.mono (by simp))⟩)
      · have h4 : n < 0 := by omega
        clear hx
        go_enter Tryd.func40, Tryd.ntmps40
        go_wp2_with (go_at_call 38; refine (rcheck_any A ss.length c left torn off done ss _ ?h1 hm).mono ?_; rotate_left; rintro e w0 ⟨rfl, hB0⟩; have b0 := (Blk.new w _ _).below hB0 (by simp); have cc0 := b0.cell)
        case h1 => exact bss_one Hd.out _ (by first | omega | (simp; done) | (simp; omega))
        all_goals (go_ret2; exact ⟨_, rfl, World.ownsRow_nil _ _ _ _, (below_one w _).trans (hB0.mono (by simp))⟩)
    · have h4 : at_ < 0 := by omega
      clear hx
      go_enter Tryd.func40, Tryd.ntmps40
      go_wp2_with (go_at_call 38; refine (rcheck_any A ss.length c left torn off done ss _ ?h1 hm).mono ?_; rotate_left; rintro e w0 ⟨rfl, hB0⟩; have b0 := (Blk.new w _ _).below hB0 (by simp); have cc0 := b0.cell)
      case h1 => exact bss_one Hd.out _ (by first | omega | (simp; done) | (simp; omega))
      all_goals (go_ret2; exact ⟨_, rfl, World.ownsRow_nil _ _ _ _, (below_one w _).trans (hB0.mono (by simp))⟩)


set_option maxRecDepth 100000 in
set_option maxHeartbeats 1000000 in
theorem rread_good (A : Option Addr) (c : Nat) (d : Dsk) (at_ n : Int) (w : World) (hd : Bss w w.heap.size A d.secs.length d.secs) (hs : Sm d.secs) (hx : okR d at_ n = true) :
    Calls Tryd.prog 40 #[dvD A c d, .int .i64 at_, .int .i64 n] w (BRet w (readD d at_ n).1 fun v => .tuple #[v, .int .i64 (readD d at_ n).2]) := by
  obtain ⟨i2, hi2, hz2, hs2, hb2⟩ := info_parts infoTB
  have hr : readD d at_ n = (((d.secs.drop at_.toNat).take n.toNat).flatten, 0) := by simp [readD, hx]
  rw [hr]
  obtain ⟨ss, left, torn, off, done⟩ := d
  dsimp only at hd hs ⊢
  have Hd := Lib.hid hd
  have Hs := Lib.hid hs
  have hm0 : ss.length ≤ 2048 := hs.1
  have hm : ss.length ≤ maxLen := by unfold maxLen; omega
  simp only [okR, Bool.and_eq_true, decide_eq_true_eq] at hx
  obtain ⟨⟨⟨⟨hck, h1⟩, h2⟩, h3⟩, h4⟩ := hx
  obtain ⟨a, rfl⟩ := Int.eq_ofNat_of_zero_le h1
  obtain ⟨m, rfl⟩ := Int.eq_ofNat_of_zero_le h2
  simp only [Int.toNat_natCast]
  have g1 : a ≤ ss.length := by omega
  have g2 : m ≤ ss.length - a := by omega
  have g3 : a + m ≤ ss.length := by omega
  have hfl := fun k => fl_le Hs.out.2 a k
  have HF := Lib.hid hfl
  have d1 : decide ((a : Int) < 0) = false := by simp
  have d2 : decide ((m : Int) < 0) = false := by simp
  have d3 : decide ((ss.length : Int) - (a : Int) < (m : Int)) = false := by simp; omega
  have d4 : decide (ss.length < a) = false := by simp; omega
  clear hd hs hr h1 h2 h3 h4 hfl
  go_enter Tryd.func40, Tryd.ntmps40
  go_wp2_with (go_at_call 38; refine (rcheck_any A ss.length c left torn off done ss _ ?h1 hm).mono ?_; rotate_left; rintro e w0 ⟨rfl, hB0⟩; have b0 := (Blk.new w _ _).below hB0 (by simp); have cc0 := b0.cell; have hB1 : Below w.heap.size w w0 := (below_one w _).trans (hB0.mono (by simp)); have hsz := hB1.size)
  case h1 => exact bss_one Hd.out _ (by first | omega | (simp; done) | (simp; omega))
  clear cc0 hB0
  go_loopw [9, 10] (fun v i wr => ∃ k : Nat, k ≤ m ∧ i = .int .i64 ((a : Int) + (k : Int)) ∧ wr.ownsRow w.heap.size 5 1 v (fl ss a k).length (bvs (fl ss a k)) ∧ Below w.heap.size w wr ∧ Blk wr w.heap.size 24 #[.slice A ss.length c, .int .i64 left, .int .i64 torn, .bool off, .int .i64 done]) (fun _ i _ => a + m - (intOf i).toNat)
  case atStart => exact ⟨0, Nat.zero_le _, by simp, by simpa [fl, bvs] using World.ownsRow_nil _ _ _ _, hB1, b0⟩
  case round =>
    obtain ⟨k, hk, rfl, ho, hB, r0⟩ := hrel
    have hsz := hB.size
    have B0 := Lib.hid r0
    have c0 := r0.cell
    clear b0 hB1
    by_cases hlt : k < m
    · obtain ⟨ad, Ai, ci, l, rfl, hb, hl, hc, h1, h2, h3⟩ := Hd.out.at_ (k := a + k) (by omega)
      have q1 : wr.cell? (ad.add (a + k)) = some (.slice Ai l.length ci) := (hB.cell (p := ad.add (a + k)) (by rw [block_of_add]; exact hb)).trans hc
      have HL := Lib.hid hl
      have HR := Lib.hid (h3.below hB)
      have hl100 : l.length ≤ 100 := Hs.out.2 _ l hl
      have hfk := HF.out k
      have m1 : (fl ss a k).length + l.length ≤ maxLen := by unfold maxLen; omega
      have m2 : ((fl ss a k).length + l.length) * 1 ≤ 140737488355328 := by omega
      have HO := Lib.hid ho
      obtain ⟨A0, c0', rfl, e1, e2⟩ := own_form ho
      unfold maxLen at h2
      clear hl hc h3 ho r0
      go_wp2_with (at_builtin; refine wpList_append_any _ rfl (.tmp 47) (.tmp 52) _ rfl w.heap.size 5 i2 (.int .u8 0) 1 1 Tryd.underlying25 hi2 hz2 hs2 hb2 rfl (by omega) _ _ _ rfl HO.out w.heap.size Ai l.length ci (bvs l) rfl ?h9 (bvs_one l) m1 m2 hsz ?_; rotate_left; intro v' w2 hown2 hgr2 hat2; obtain ⟨A3, c3, rfl, e3, e4⟩ := own_form hown2)
      case h9 => rw [Nat.mul_one]; exact HR.out
      have R := read_step hB HO.out HL.out hown2 hgr2
      have r0' := blk_far hgr2 B0.out HO.out (by decide)
      clear hown2 hgr2 hat2
      go_roundw
      case rel => first | exact ⟨k + 1, by omega, by go_num, R.1, R.2, r0'⟩ | ((repeat apply Exists.intro); exact ⟨⟨k + 1, by omega, by go_num, R.1, R.2, r0'⟩, rfl⟩)
      case measure => simp [intOf]; omega
    · obtain rfl : k = m := by omega
      have HO := Lib.hid ho
      clear ho r0
      go_wp2
      go_ret2
      exact ⟨_, rfl, HO.out, hB⟩
theorem rread_any (A : Option Addr) (c : Nat) (d : Dsk) (at_ n : Int) (w : World) (hd : Bss w w.heap.size A d.secs.length d.secs) (hs : Sm d.secs) (hi1 : -9223372036854775808 ≤ at_) (hi2 : at_ ≤ 9223372036854775807) :
    Calls Tryd.prog 40 #[dvD A c d, .int .i64 at_, .int .i64 n] w (BRet w (readD d at_ n).1 fun v => .tuple #[v, .int .i64 (readD d at_ n).2]) := by
  cases hx : okR d at_ n
  · exact rread_bad A c d at_ n w hd hs hi1 hi2 hx
  · exact rread_good A c d at_ n w hd hs hx
end Go.Proofs.YtgeofnemlijbgaaDoor
