/- What the document's Plan needs: a row more; the numbers that are next; a piece of a text. The document's Plan. -/
import Derived.Test.YtgeofnemlijbgaaDoorVY2
import Derived.Test.YtgeofnemlijbgaaDoorVE6
namespace Go.Proofs.YtgeofnemlijbgaaDoor
open Go.RowKit
set_option linter.unusedVariables false
set_option linter.unusedSimpArgs false

theorem rn_facts (d : Dsk) : ∃ kk ss mm : Int, rnV (newestD d) = .tuple #[.int .i64 kk, .int .i64 ss, .int .i64 mm] ∧ ss + 1 = ((tgtD d).2 : Int) ∧ -1 ≤ ss ∧ ss ≤ 4611686018427387903 ∧ (maxD d = true ↔ ss = 4611686018427387903) ∧ ((kk = 0 ∧ (tgtD d).1 = 1) ∨ (¬ kk = 0 ∧ (tgtD d).1 = 0)) := by
  rcases hn : newestD d with _ | ⟨k, n, m⟩
  · refine ⟨-1, -1, 0, rfl, ?_⟩
    unfold tgtD maxD
    rw [hn]
    simp
  · obtain ⟨h1, h2, h3⟩ := newest_le hn
    refine ⟨k, n, m, rfl, ?_⟩
    unfold tgtD maxD
    rw [hn]
    dsimp only
    refine ⟨by omega, by omega, by omega, ⟨fun h => by have := of_decide_eq_true h; omega, fun h => decide_eq_true (by omega)⟩, by omega⟩
theorem run_min_v {P : Program} (ts : Array TypeId) (t : TypeId) (x y : Int) (w : World) : (Builtin.min_ ts t #[.int .i64 x, .int .i64 y]).run P w = .ok (.int .i64 (min x y)) w := by
  have := run_min_int2 (P := P) w ts t .i64 .i64 x y
  rw [this]
  by_cases h : y < x
  · rw [if_pos h, Int.min_eq_right (by omega)]
  · rw [if_neg h, Int.min_eq_left (by omega)]
theorem run_mid2 (ad : Addr) (n c f e : Nat) (w : World) (h1 : (f : Int) < (e : Int)) (h2 : (e : Int) ≤ (c : Int)) : (Instr.slice 25 (.slice (some ad) n c) (some (.int .i64 (f : Int))) (some (.int .i64 (e : Int))) none).run Tryd.prog w = .ok (.slice (some (ad.add f)) (e - f) (c - f)) w := by
  have hsz : (sizeOf (Tryd.prog.elem 25)).run Tryd.prog w = .ok 1 w := by
    obtain ⟨i2, hi2, hz2, hs2, hb2⟩ := info_parts infoTB
    have he : Tryd.prog.elem 25 = 5 := by kernel_rfl
    simp [he, sizeOf, typeInfo, hi2, hs2]
  have hr := run_slice_lh (P := Tryd.prog) w 25 (some ad) n c (by kernel_rfl) .i64 .i64 (f : Int) (e : Int) (by omega) (by omega) h2
  rw [hsz] at hr
  simp only [Result.andThen, Int.toNat_natCast] at hr
  rw [hr]
  have hne : ¬ c = f := by omega
  unfold sliced
  rw [if_neg hne, Nat.mul_one]
  rfl
theorem piece_mid {t : List UInt8} {j y e : Nat} (hy : y = j * 64) (he : e = min (y + 64) t.length) (hlt : y < t.length) : (t.drop y).take (e - y) ++ zeros (64 - (e - y)) = pieceL t j ∧ ((t.drop y).take (e - y)).length = e - y ∧ 0 < e - y ∧ e - y ≤ 64 := by
  subst hy
  have h1 : (t.drop (j * 64)).take (e - j * 64) = (t.drop (j * 64)).take 64 := by
    rcases Nat.le_total (j * 64 + 64) t.length with h | h
    · rw [he, Nat.min_eq_left h]; congr 1; omega
    · rw [he, Nat.min_eq_right h, List.take_of_length_le (by rw [List.length_drop]; omega), List.take_of_length_le (by rw [List.length_drop]; omega)]
  have h2 : ((t.drop (j * 64)).take (e - j * 64)).length = e - j * 64 := by
    rw [List.length_take, List.length_drop]
    omega
  refine ⟨?_, h2, by omega, by omega⟩
  unfold pieceL
  rw [← h1, h2]
theorem pad_own {w9 : World} {base : Nat} {v9 : Value} {b : List UInt8} {q k : Nat} (h : w9.ownsRow base 5 1 v9 (q + k + 1) (bvs (b ++ zeros k) ++ [.int .u8 0])) : w9.ownsRow base 5 1 v9 (q + (k + 1)) (bvs (b ++ zeros (k + 1))) := by
  have e : bvs (b ++ zeros k) ++ [.int .u8 0] = bvs (b ++ zeros (k + 1)) := by
    rw [← zeros_snoc, ← List.append_assoc, bvs_append (b ++ zeros k)]
    rfl
  rw [e] at h
  exact h
section
variable {w W W5 w9 : World} {DC : Array Value} {V : Value} {xs : List Value} {l : List Wr}
theorem RsI.after (h : RsI w W DC V xs l) (hB : Below W.heap.size W W5) : RsI w W5 DC V xs l := ⟨h.own.below hB, h.box.below hB h.box.lt, keepB hB h.bel⟩
/-- A write more. -/
theorem RsI.push {A0 A9 : Option Addr} {c0 c9 base : Nat} {v : Value} {x : Wr} (h : RsI w W DC (.slice A0 l.length c0) xs l) (hB : Below W.heap.size W W5) (hv : W5.ownsRow base 5 1 v x.2.length (bvs x.2)) (hb : w.heap.size ≤ base)
    (hown : w9.ownsRow w.heap.size 60 2 (.slice A9 (l.length + 1) c9) (l.length + 1) (xs ++ [.int .i64 x.1, v])) (hgr : (W5.alloc (.cells #[.int .i64 x.1, v] 60)).grownBy w9 (Value.slice A0 l.length c0).ownBlock) :
    RsI w w9 DC (.slice A9 (l.length + 1) c9) (xs ++ [.int .i64 x.1, v]) (l ++ [x]) := by
  have h6 := (h.after hB).after (below_one W5 (.cells #[.int .i64 x.1, v] 60))
  exact ⟨h6.own.push (x := x) ((own_less hv hb).alloc _) hown hgr, blk_far hgr h6.box h6.own.outer (by decide), h6.bel.grown hgr h6.bel.size (fun k e => by obtain ⟨_, _, hh, _⟩ := own_block h6.own.outer e; exact hh)⟩
theorem RsI.dbox {A : Option Addr} {c : Nat} {d : Dsk} (h : RsI w W #[.slice A d.secs.length c, .int .i64 d.left, .int .i64 d.torn, .bool d.off, .int .i64 d.done] V xs l) (hd : Bss w w.heap.size A d.secs.length d.secs) (h1 : d.secs.length ≤ c) (h2 : c ≤ maxLen) : DBox W w.heap.size A c d :=
  ⟨h.box, (hd.below h.bel).more h.bel.size, h1, h2⟩
end
/-- The plan's first write. -/
theorem first_own (W : World) (base : Nat) (a : Int) (hb : base ≤ W.heap.size) :
    OwnW ((W.alloc (.cells z64 5)).alloc (.cells #[.int .i64 a, .slice (some ⟨W.heap.size, 0, none⟩) 64 64] 60)) base (.slice (some ⟨W.heap.size + 1, 0, none⟩) 1 1) [.int .i64 a, .slice (some ⟨W.heap.size, 0, none⟩) 64 64] [(a, zeros 64)] := by
  have z := own_z64 W base hb
  have t := own_two (W.alloc (.cells z64 5)) base (by simp; omega) (.int .i64 a) (.slice (some ⟨W.heap.size, 0, none⟩) 64 64)
  have O := ownW_one (x := (a, zeros 64)) t (z.alloc _)
  simp only [World.size_alloc] at O
  exact O
end Go.Proofs.YtgeofnemlijbgaaDoor

namespace Go.Proofs.YtgeofnemlijbgaaDoor
open Go.RowKit
set_option linter.unusedVariables false
set_option linter.unusedSimpArgs false
attribute [local go_sem high] run_min_v run_mid2

theorem own_args0 {A : Option Addr} {c base : Nat} {d : Dsk} {vs : List Value} {w : World} (h : OwnS w base (.slice A d.secs.length c) vs d.secs) : Bss w w.heap.size A d.secs.length d.secs ∧ d.secs.length ≤ c ∧ c ≤ maxLen := by
  obtain ⟨_, _, e4, f1, f2⟩ := h.form
  injection e4 with ea _ ec
  subst ea
  subst ec
  exact ⟨h.bss, f1, f2⟩
theorem dbox_new {w : World} {base : Nat} {A : Option Addr} {c : Nat} {vs : List Value} {d : Dsk} (h : OwnS w base (.slice A d.secs.length c) vs d.secs) : DBox (w.alloc (.cells #[.slice A d.secs.length c, .int .i64 d.left, .int .i64 d.torn, .bool d.off, .int .i64 d.done] 24)) w.heap.size A c d := by
  obtain ⟨h0, h1, h2⟩ := own_args0 h
  exact DBox.arg h0 h1 h2

set_option maxRecDepth 100000 in
set_option maxHeartbeats 16000000 in
theorem rplan_any (A : Option Addr) (c : Nat) (d : Dsk) (At : Option Addr) (ct : Nat) (t : List UInt8) (w : World) (hd : Bss w w.heap.size A d.secs.length d.secs) (h1 : d.secs.length ≤ c) (h2 : c ≤ maxLen) (hs : Sm d.secs)
    (ht : Rd w w.heap.size At t.length (bvs t)) (htc : t.length ≤ ct) (htl : t.length ≤ 100000) :
    Calls Tryd.prog 22 #[dvD A c d, .slice At t.length ct] w (WRet w (planD d t)) := by
  obtain ⟨i2, hi2, hz2, hs2, hb2⟩ := info_parts infoTB
  obtain ⟨i6, hi6, hz6, hs6, hb6⟩ := info_parts infoTW
  have D0 := Lib.hid (DBox.arg hd h1 h2)
  have B0 := Lib.hid (below_one w (.cells #[.slice A d.secs.length c, .int .i64 d.left, .int .i64 d.torn, .bool d.off, .int .i64 d.done] 24))
  obtain ⟨q0, q1, q2, q3, q4⟩ := D0.out.cells
  have hml : d.secs.length ≤ maxLen := by have := hs.1; unfold maxLen; omega
  have HML := Lib.hid hml
  have HS := Lib.hid hs
  cases hck : checkB d.secs
  · have hl : planD d t = ([], 1) := by unfold planD; rw [hck]; rfl
    rw [hl]
    have HCK := Lib.hid hck
    clear hd h1 h2 hs hml hck hl ht htc htl
    go_enter Tryd.func22, Tryd.ntmps22
    go_wp2_with (go_at_call 38; refine (rcheck_any A d.secs.length c d.left d.torn d.off d.done d.secs _ D0.out.secs HML.out).mono ?_; rw [HCK.out]; rintro e w1 ⟨rfl, hB1⟩)
    go_ret2
    exact ⟨none, 0, [], rfl, OwnW.nil _ _, keepB hB1 B0.out⟩
  · have HCK := Lib.hid hck
    obtain ⟨kk, ss, mm, hrn, hss, hs0, hs1, hmx, hkk⟩ := rn_facts d
    have HRN := Lib.hid hrn
    obtain ⟨rm, hrm⟩ : ∃ r, r = roomN d.secs.length := ⟨_, rfl⟩
    have HRM := Lib.hid hrm
    cases hf : fullD d t
    rotate_left
    · have hl : planD d t = ([], 180) := by unfold planD; rw [hck, if_pos rfl, hf]; rfl
      rw [hl]
      by_cases hlong : rm < (t.length : Int)
      · have t1 : decide (rm < (t.length : Int)) = true := decide_eq_true hlong
        clear hd h1 h2 hs hml hck hl ht htc htl hrn hss hs0 hs1 hmx hkk hrm hf
        go_enter Tryd.func22, Tryd.ntmps22
        go_wp2_with (first
          | (go_at_call 38; refine (rcheck_any A d.secs.length c d.left d.torn d.off d.done d.secs _ D0.out.secs HML.out).mono ?_; rw [HCK.out]; rintro e w1 ⟨rfl, hB1⟩; have D1 := Lib.hid (D0.out.after hB1); have B1 := Lib.hid (keepB hB1 B0.out); clear hB1 q0 q1 q2 q3 q4; obtain ⟨q0, q1, q2, q3, q4⟩ := D1.out.cells)
          | (go_at_call 39; refine (rnewest_any A c d _ D1.out.secs D1.out.cap D1.out.cm HCK.out).mono ?_; rw [HRN.out]; rintro e w2 ⟨rfl, hB2⟩; have D2 := Lib.hid (D1.out.after hB2); have B2 := Lib.hid (keepB hB2 B1.out); clear hB2 q0 q1 q2 q3 q4; obtain ⟨q0, q1, q2, q3, q4⟩ := D2.out.cells)
          | (go_at_call 25; refine (rroom_any _ _).mono ?_; rw [← HRM.out]; rintro e w3 ⟨rfl, hB3⟩; have D3 := Lib.hid (D2.out.after hB3); have B3 := Lib.hid (keepB hB3 B2.out); clear hB3 q0 q1 q2 q3 q4; obtain ⟨q0, q1, q2, q3, q4⟩ := D3.out.cells))
        go_ret2
        exact ⟨none, 0, [], rfl, OwnW.nil _ _, B3.out⟩
      · have t1 : decide (rm < (t.length : Int)) = false := decide_eq_false hlong
        have hss2 : ss = 4611686018427387903 := by
          unfold fullD at hf
          rw [Bool.or_eq_true] at hf
          rcases hf with h | h
          · exact hmx.1 h
          · exact absurd (of_decide_eq_true h) (by rw [← hrm]; exact hlong)
        subst hss2
        clear hd h1 h2 hs hml hck hl ht htc htl hrn hss hs0 hs1 hmx hkk hrm hf
        go_enter Tryd.func22, Tryd.ntmps22
        go_wp2_with (first
          | (go_at_call 38; refine (rcheck_any A d.secs.length c d.left d.torn d.off d.done d.secs _ D0.out.secs HML.out).mono ?_; rw [HCK.out]; rintro e w1 ⟨rfl, hB1⟩; have D1 := Lib.hid (D0.out.after hB1); have B1 := Lib.hid (keepB hB1 B0.out); clear hB1 q0 q1 q2 q3 q4; obtain ⟨q0, q1, q2, q3, q4⟩ := D1.out.cells)
          | (go_at_call 39; refine (rnewest_any A c d _ D1.out.secs D1.out.cap D1.out.cm HCK.out).mono ?_; rw [HRN.out]; rintro e w2 ⟨rfl, hB2⟩; have D2 := Lib.hid (D1.out.after hB2); have B2 := Lib.hid (keepB hB2 B1.out); clear hB2 q0 q1 q2 q3 q4; obtain ⟨q0, q1, q2, q3, q4⟩ := D2.out.cells)
          | (go_at_call 25; refine (rroom_any _ _).mono ?_; rw [← HRM.out]; rintro e w3 ⟨rfl, hB3⟩; have D3 := Lib.hid (D2.out.after hB3); have B3 := Lib.hid (keepB hB3 B2.out); clear hB3 q0 q1 q2 q3 q4; obtain ⟨q0, q1, q2, q3, q4⟩ := D3.out.cells))
        go_ret2
        exact ⟨none, 0, [], rfl, OwnW.nil _ _, B3.out⟩
    · have hl : planD d t = (plan0 d t ++ (scrubD (behindD d t)).1, 0) := by unfold planD; rw [hck, if_pos rfl, hf]; rfl
      rw [hl]
      obtain ⟨hnum, hroom⟩ := full_num hf
      have hpn := pn_half hck hroom
      obtain ⟨g1, g2, g3, g4⟩ := halfD_eq hck
      have l1 := atD_le hck (tgtD d).1
      have hlen := (checkB_len hck).2
      have t1 : decide (rm < (t.length : Int)) = false := decide_eq_false (by omega)
      have t1' : ¬ rm < (t.length : Int) := by omega
      have hne : (ss == 4611686018427387903) = false := by
        rw [beq_eq_false_iff_ne]
        intro h
        have := hmx.2 h
        unfold fullD at hf
        rw [this] at hf
        cases hf
      have har0 := areaN_at hck (k := 0) (by omega)
      have har1 := areaN_at hck (k := 1) (by omega)
      obtain ⟨a, ha⟩ : ∃ a, a = toD d := ⟨_, rfl⟩
      obtain ⟨h, hh⟩ : ∃ h, h = halfD d := ⟨_, rfl⟩
      obtain ⟨num, hnm⟩ : ∃ n, n = (tgtD d).2 := ⟨_, rfl⟩
      have hal : a + h ≤ d.secs.length := by rw [ha, hh]; exact l1
      obtain ⟨P, hP⟩ : ∃ P, P = plan0 d t := ⟨_, rfl⟩
      have hPe : P = (((a : Int), zeros 64) :: piecesW a t (pn t)) ++ [((a : Int), headL num t.length)] := by rw [hP, ha, hnm]; rfl
      obtain ⟨BD, hBD⟩ : ∃ B, B = behindD d t := ⟨_, rfl⟩
      have hdo : doD (onD d) P = (BD, 0) := by rw [hP, hBD]; exact Prod.ext rfl (behind_eq hck hf).1
      have HDO := Lib.hid hdo
      obtain ⟨more, hmo⟩ : ∃ m, m = (scrubD BD).1 := ⟨_, rfl⟩
      have hsc : scrubD BD = (more, 0) := by rw [hmo]; exact Prod.ext rfl (by rw [hBD]; exact plan_scrub hck hf)
      have HSC := Lib.hid hsc
      have hbs : checkB BD.secs = true := by rw [hBD]; exact (behind_eq hck hf).2.2.2
      have HSB := Lib.hid (sm_check hbs)
      have hml2 : more.length ≤ 5000 := by rw [hmo]; exact scrub_len HSB.out.1
      have hpl : P.length = pn t + 2 := by rw [hP]; exact plan0_len d t
      rw [← hP, ← hBD, ← hmo]
      obtain ⟨od, hod⟩ : ∃ o, o = onD d := ⟨_, rfl⟩
      rw [← hod] at HDO
      have HOD := Lib.hid hod.symm
      have HOS : Hid (Sm od.secs) := Lib.hid (by rw [hod]; exact hs)
      have HOL : Hid (od.left ≤ 9223372036854775807) := Lib.hid (by rw [hod]; show (-1 : Int) ≤ _; omega)
      have hssn : ss + 1 = (num : Int) := by rw [hnm]; exact hss
      have hwss : IntKind.i64.wrap (ss + 1) = (num : Int) := (IntWalk.i64_in _ (by omega)).trans hssn
      have hnum2 : num < 9223372036854775808 := by rw [hnm]; omega
      have hpn2 : pn t ≤ 1024 := by omega
      have HPE := Lib.hid hPe
      have HD := Lib.hid hd
      have H1 := Lib.hid h1
      have H2 := Lib.hid h2
      have HT := Lib.hid ht
      have HTC := Lib.hid htc
      have HTL := Lib.hid htl
      have HPB := Lib.hid (show P.length ≤ 1026 by omega)
      have HNUM := Lib.hid hnum2
      have ha2k : a + pn t + 1 ≤ 2048 := by omega
      have key : (kk = 0 ∧ areaN d.secs.length 1 = ((a : Int), (h : Int))) ∨ (¬ kk = 0 ∧ areaN d.secs.length 0 = ((a : Int), (h : Int))) := by
        rcases hkk with ⟨e, et⟩ | ⟨e, et⟩
        · exact .inl ⟨e, by rw [ha, hh]; unfold toD; rw [et]; exact har1⟩
        · exact .inr ⟨e, by rw [ha, hh]; unfold toD; rw [et]; exact har0⟩
      have G := Lib.hid (And.intro hpn2 (And.intro ha2k hml2))
      clear hd h1 h2 hs hml hck hl ht htc htl hrn hss hs0 hs1 hmx hkk hrm hf hnum hroom hpn g1 g2 g3 g4 l1 hlen har0 har1 ha hh hnm hal hP hPe hBD hdo hmo hsc hbs hml2 hpl hod hssn hnum2 hpn2 ha2k
      rcases key with ⟨rfl, har⟩ | ⟨hk0, har⟩
      all_goals
        have HAR := Lib.hid har
        clear har
        go_enter Tryd.func22, Tryd.ntmps22
        have hmk := run_make64
        go_upto_region 12 with (first
          | (go_at_call 38; refine (rcheck_any A d.secs.length c d.left d.torn d.off d.done d.secs _ D0.out.secs HML.out).mono ?_; rw [HCK.out]; rintro e w1 ⟨rfl, hB1⟩; have D1 := Lib.hid (D0.out.after hB1); have B1 := Lib.hid (keepB hB1 B0.out); clear hB1 q0 q1 q2 q3 q4; obtain ⟨q0, q1, q2, q3, q4⟩ := D1.out.cells)
          | (go_at_call 39; refine (rnewest_any A c d _ D1.out.secs D1.out.cap D1.out.cm HCK.out).mono ?_; rw [HRN.out]; rintro e w2 ⟨rfl, hB2⟩; have D2 := Lib.hid (D1.out.after hB2); have B2 := Lib.hid (keepB hB2 B1.out); clear hB2 q0 q1 q2 q3 q4; obtain ⟨q0, q1, q2, q3, q4⟩ := D2.out.cells)
          | (go_at_call 25; refine (rroom_any _ _).mono ?_; rw [← HRM.out]; rintro e w3 ⟨rfl, hB3⟩; have D3 := Lib.hid (D2.out.after hB3); have B3 := Lib.hid (keepB hB3 B2.out); clear hB3 q0 q1 q2 q3 q4; obtain ⟨q0, q1, q2, q3, q4⟩ := D3.out.cells)
          | (go_at_call 19; refine (rarea_any _ _ _).mono ?_; rw [HAR.out]; rintro e w4 ⟨rfl, hB4⟩; have D4 := Lib.hid (D3.out.after hB4); have B4 := Lib.hid (keepB hB4 B3.out); clear hB4 q0 q1 q2 q3 q4))
        have BW := bel_al (o := .cells #[.int .i64 (a : Int), .slice (some ⟨w4.heap.size, 0, none⟩) 64 64] 60) (bel_al (o := .cells z64 5) B4.out)
        have IW := RsI.mk (w := w) (DC := #[.slice A d.secs.length c, .int .i64 d.left, .int .i64 d.torn, .bool d.off, .int .i64 d.done]) (first_own w4 w.heap.size (a : Int) B4.out.size) ((D4.out.blk.alloc _).alloc _) BW
        clear BW D0 D1 D2 D3 D4 B0 B1 B2 B3 B4
        generalize ((w4.alloc (.cells z64 5)).alloc (.cells #[.int .i64 (a : Int), .slice (some ⟨w4.heap.size, 0, none⟩) 64 64] 60)) = W0 at IW ⊢
        go_wp2
        go_loopw [13, 14, 15] (fun v i s wr => ∃ (j : Nat) (xs : List Value), j ≤ pn t ∧ i = .int .i64 ((j * 64 : Nat) : Int) ∧ RsI w wr #[.slice A d.secs.length c, .int .i64 d.left, .int .i64 d.torn, .bool d.off, .int .i64 d.done] v xs (((a : Int), zeros 64) :: piecesW a t j)) (fun _ i _ _ => t.length + 64 - (intOf i).toNat)
        case atStart => exact ⟨0, _, Nat.zero_le _, rfl, IW⟩
        case round =>
          obtain ⟨j, xs, hj, rfl, hI⟩ := hrel
          obtain ⟨Wo, hWr⟩ : ∃ W, W = wr := ⟨_, rfl⟩
          rw [← hWr] at hI ⊢
          clear hWr
          obtain ⟨A0, c0, rfl, e1, e2⟩ := hI.own.form
          have hln : ((((a : Int), zeros 64) :: piecesW a t j) : List Wr).length = j + 1 := by rw [List.length_cons, piecesW_len]
          have I := Lib.hid hI
          obtain ⟨l, hl⟩ : ∃ l, l = (((a : Int), zeros 64) :: piecesW a t j : List Wr) := ⟨_, rfl⟩
          rw [← hl] at I hln e1 ⊢
          have HLN := Lib.hid hln
          have HL := Lib.hid hl
          clear hI hl IW hln
          obtain ⟨y, hy⟩ : ∃ y, y = j * 64 := ⟨_, rfl⟩
          rw [← hy]
          have HY := Lib.hid hy
          by_cases hlt : j < pn t
          · have hyt : y < t.length := by unfold pn at hlt; omega
            obtain ⟨e, he⟩ : ∃ e, e = min (y + 64) t.length := ⟨_, rfl⟩
            obtain ⟨pe, pq, p0, p64⟩ := piece_mid hy he hyt
            obtain ⟨b, o, rfl, hb, hc⟩ : ∃ b o, At = some ⟨b, o, none⟩ ∧ b < w.heap.size ∧ True := by
              obtain ⟨b, o, h1, h2, _⟩ := HT.out.some_ (by omega)
              exact ⟨b, o, h1, h2, trivial⟩
            have hyi : (y : Int) < (t.length : Int) := by omega
            have hyi2 : decide ((y : Int) < (t.length : Int)) = true := decide_eq_true hyi
            have hy100 : y < 100000 := by have := HTL.out; omega
            have hw64 : IntKind.i64.wrap ((y : Int) + 64) = (y : Int) + 64 := IntWalk.i64_in _ (by omega)
            have hmn : min ((y : Int) + 64) (t.length : Int) = (e : Int) := by omega
            have hye : (y : Int) < (e : Int) := by omega
            have hect : (e : Int) ≤ (ct : Int) := by have := HTC.out; omega
            have hown1 := own_empty Wo Wo.heap.size (Nat.le_refl _)
            have hrd1 := mid_rd (f := y) (t := e) (((HT.out.below I.out.bel).more I.out.bel.size).below (below_one Wo (.cells #[] 5))) (by omega) (by omega)
            obtain ⟨q, hq⟩ : ∃ q, q = e - y := ⟨_, rfl⟩
            obtain ⟨pc, hpc⟩ : ∃ z, z = (t.drop y).take (e - y) := ⟨_, rfl⟩
            rw [← hpc] at pe pq hrd1
            rw [← hq] at pe pq p0 p64 hrd1
            have HPC := Lib.hid pe
            have HO1 := Lib.hid hown1
            have HRD1 := Lib.hid (show Rd (Wo.alloc (.cells #[] 5)) Wo.heap.size (some ⟨b, o + y, none⟩) (q * 1) (bvs pc) by rw [Nat.mul_one]; rw [Addr.add_lit] at hrd1; exact hrd1)
            have M1 := Lib.hid (show 0 + q ≤ maxLen by unfold maxLen; omega)
            have M2 := Lib.hid (show (0 + q) * 1 ≤ 140737488355328 by omega)
            have M3 := Lib.hid (show Wo.heap.size ≤ (Wo.alloc (.cells #[] 5)).heap.size by simp)
            have hqe : e - y = q := hq.symm
            clear hown1 hrd1 pe hpc hc he hy hq
            go_upto_region 16 with (at_builtin; refine wpList_append_any _ rfl (.tmp 61) (.tmp 69) 25 rfl Wo.heap.size 5 i2 (.int .u8 0) 1 1 Tryd.underlying25 hi2 hz2 hs2 hb2 rfl (by omega) (.slice (some ⟨Wo.heap.size, 0, none⟩) 0 0) 0 [] rfl HO1.out Wo.heap.size (some ⟨b, o + y, none⟩) q (ct - y) (bvs pc) rfl HRD1.out (bvs_one _) M1.out M2.out M3.out ?_; intro v3 w3 hown3 hgr3 hat3; simp only [Nat.zero_add, List.nil_append] at hown3)
          
            have hgr0 := (copy_in hgr3 (World.grownBy_alloc Wo _ none) hat3).1
            have hB3 : Below Wo.heap.size Wo w3 := grown_below hgr0
            clear hgr3 hat3 hgr0 HO1 HRD1 M1 M2 M3
            go_loopw [15] (fun v wr => ∃ kk : Nat, kk ≤ 64 - q ∧ wr.ownsRow Wo.heap.size 5 1 v (q + kk) (bvs (pc ++ zeros kk)) ∧ Below Wo.heap.size Wo wr) (fun v _ => 64 - (match v with | .slice _ n _ => n | _ => 0))
            case atStart => exact ⟨0, by omega, by simpa [zeros] using hown3, hB3⟩
            case round =>
              obtain ⟨kk, hkk, hO, hB⟩ := hrel
              obtain ⟨A8, c8, rfl, e3, e4⟩ := own_form hO
              have JO := Lib.hid hO
              have JB := Lib.hid hB
              clear hO hB hown3 hB3
              by_cases hlt2 : kk < 64 - q
              · have hk1 : ((q + kk : Nat) : Int) < 64 := by omega
                have hk2 : decide (((q + kk : Nat) : Int) < 64) = true := decide_eq_true hk1
                have RD := Lib.hid (rd_new wr (.int .u8 0) 5)
                have O2 := Lib.hid (JO.out.alloc (.cells #[.int .u8 0] 5))
                have N1 := Lib.hid (show q + kk + 1 ≤ maxLen by unfold maxLen; omega)
                have N2 := Lib.hid (show (q + kk + 1) * 1 ≤ 140737488355328 by omega)
                have N3 := Lib.hid (show Wo.heap.size ≤ (wr.alloc (.cells #[.int .u8 0] 5)).heap.size by have := JB.out.size; simp; omega)
                go_wp2_with (at_builtin; refine wpList_append_any _ rfl (.tmp 74) (.tmp 75) 25 rfl Wo.heap.size 5 i2 (.int .u8 0) 1 1 Tryd.underlying25 hi2 hz2 hs2 hb2 rfl (by omega) (.slice A8 (q + kk) c8) (q + kk) (bvs (pc ++ zeros kk)) rfl O2.out _ (some ⟨wr.heap.size, 0, none⟩) 1 1 [.int .u8 0] rfl RD.out (byte_one _) N1.out N2.out N3.out ?_; intro v9 w9 hown9 hgr9 hat9)
                obtain ⟨A9, c9, rfl, _, _⟩ := own_form hown9
                go_roundw
                case rel => exact ⟨kk + 1, by omega, pad_own hown9, ((JB.out.alloc JB.out.size _).grown hgr9 (by have := JB.out.size; simp; omega) (fun k e => by obtain ⟨_, _, h, _⟩ := own_block JO.out e; omega))⟩
                case measure => simp; omega
              · obtain rfl : kk = 64 - q := by omega
                have hq64 : q + (64 - q) = 64 := by omega
                rw [HPC.out] at JO
                rw [hq64] at JO e3 ⊢
                have hpl64 := pieceL_len t j
                have hw1 : IntKind.i64.wrap ((a : Int) + 1) = (a : Int) + 1 := IntWalk.i64_in _ (by have := G.out; omega)
                have hw2 : IntKind.i64.wrap ((a : Int) + 1 + (j : Int)) = ((a + 1 + j : Nat) : Int) := (IntWalk.i64_in _ (by have := G.out; omega)).trans (by omega)
                have hd64 : (y : Int).tdiv 64 = (j : Int) := by rw [Int.tdiv_eq_ediv_of_nonneg (by omega)]; have := HY.out; omega
                have hd64' : (y : Int) / 64 = (j : Int) := by have := HY.out; omega
                have hwj : IntKind.i64.wrap (j : Int) = (j : Int) := IntWalk.i64_in _ (by have := G.out; omega)
                have hwy : IntKind.i64.wrap ((y : Int) + 64) = ((y + 64 : Nat) : Int) := (IntWalk.i64_in _ (by omega)).trans (by omega)
                have T5 := own_two wr w.heap.size (by have := JB.out.size; have := I.out.bel.size; omega) (.int .i64 ((a + 1 + j : Nat) : Int)) (.slice A8 64 c8)
                have RD := Lib.hid (own_rdn T5)
                have O2 := Lib.hid ((I.out.after JB.out).own.alloc (.cells #[.int .i64 ((a + 1 + j : Nat) : Int), .slice A8 64 c8] 60)).outer
                have N1 := Lib.hid (show l.length + 1 ≤ maxLen by have := G.out; have := HLN.out; unfold maxLen; omega)
                have N2 := Lib.hid (show (l.length + 1) * 32 ≤ 140737488355328 by have := G.out; have := HLN.out; omega)
                have N3 := Lib.hid (show w.heap.size ≤ (wr.alloc (.cells #[.int .i64 ((a + 1 + j : Nat) : Int), .slice A8 64 c8] 60)).heap.size by have := JB.out.size; have := I.out.bel.size; simp; omega)
                clear T5
                go_wp2_with (at_builtin; refine wpList_append_any _ rfl (.tmp 77) (.tmp 85) 32 rfl w.heap.size 60 i6 (.agg #[.int .i64 0, .slice none 0 0]) 2 32 Tryd.underlying32 hi6 hz6 hs6 hb6 rfl (by omega) (.slice A0 l.length c0) l.length xs rfl O2.out _ (some ⟨wr.heap.size, 0, none⟩) 1 1 [.int .i64 ((a + 1 + j : Nat) : Int), .slice A8 64 c8] (by rfl) RD.out (wr_one _ _ _ _) N1.out N2.out N3.out ?_; intro v9 w9 hown9 hgr9 hat9)
          
                obtain ⟨A9, c9, rfl, f1, f2⟩ := own_form hown9
                have I9 := I.out.push (x := (((a + 1 + j : Nat) : Int), pieceL t j)) (W5 := wr) (v := .slice A8 64 c8) JB.out (by dsimp only; rw [hpl64]; exact JO.out) I.out.bel.size hown9 hgr9
                have hnx : l ++ [(((a + 1 + j : Nat) : Int), pieceL t j)] = ((a : Int), zeros 64) :: piecesW a t (j + 1) := by rw [HL.out, piecesW_succ]; rfl
                have hlx : l.length + 1 = (((a : Int), zeros 64) :: piecesW a t (j + 1) : List Wr).length := by rw [← hnx, List.length_append]; rfl
                rw [hnx] at I9
                go_roundw
                case rel => exact ⟨j + 1, _, by omega, by (exact congrArg (Value.int .i64) (by have := HY.out; omega)), I9⟩
                case measure => have := HY.out; simp [intOf]; omega
          
          · obtain rfl : j = pn t := by omega
            have hyt : ¬ (y : Int) < (t.length : Int) := by unfold pn at hy; omega
            clear hy
            have hyt2 : decide ((y : Int) < (t.length : Int)) = false := decide_eq_false hyt
            have hnl : t.length < 9223372036854775808 := by have := HTL.out; omega
            go_upto_region 20 with (first
              | (go_at_call 43; refine (rhead_any num t.length _ HNUM.out hnl).mono ?_; rintro e w5 ⟨v5, rfl, hO5, hB5⟩; obtain ⟨A5, c5, hv5, e3, e4⟩ := own_form hO5; dsimp only [id]; subst hv5; rw [headL_len] at hO5 ⊢; have I5 := Lib.hid (I.out.after hB5); have HB5 := Lib.hid hB5; have HO5 := Lib.hid hO5; have RD := Lib.hid (own_rdn (own_two w5 w.heap.size (by have := hB5.size; have := I.out.bel.size; omega) (.int .i64 (a : Int)) (.slice A5 64 c5))); clear hO5 hB5)
              | (at_builtin; refine wpList_append_any _ rfl (.tmp 87) (.tmp 95) 32 rfl w.heap.size 60 i6 (.agg #[.int .i64 0, .slice none 0 0]) 2 32 Tryd.underlying32 hi6 hz6 hs6 hb6 rfl (by omega) (.slice A0 l.length c0) l.length xs rfl (I5.out.own.alloc (.cells #[.int .i64 (a : Int), .slice A5 64 c5] 60)).outer _ (some ⟨w5.heap.size, 0, none⟩) 1 1 [.int .i64 (a : Int), .slice A5 64 c5] (by rfl) RD.out (wr_one _ _ _ _) (by have := G.out; have := HLN.out; unfold maxLen; omega) (by have := G.out; have := HLN.out; omega) (by have := I5.out.bel.size; simp; omega) ?_; intro v9 w9 hown9 hgr9 hat9))
            obtain ⟨A9, c9, rfl, f1, f2⟩ := own_form hown9
            have I9 := I.out.push (x := ((a : Int), headL num t.length)) (W5 := w5) (v := .slice A5 64 c5) HB5.out (by dsimp only; rw [headL_len]; exact HO5.out) I.out.bel.size hown9 hgr9
            have hnx : l ++ [((a : Int), headL num t.length)] = P := by rw [HL.out, HPE.out]
            have hlx : l.length + 1 = P.length := by rw [← hnx, List.length_append]; rfl
            rw [hnx] at I9
            rw [hlx] at I9 f1 ⊢
            have J9 := Lib.hid I9
            clear I9 hnx hlx hown9 hgr9 hat9 I5 HB5 HO5 RD I HL HLN e1 e2
          
            have D9 := Lib.hid (J9.out.dbox HD.out H1.out H2.out)
            obtain ⟨q0, q1, q2, q3, q4⟩ := D9.out.cells
            go_wp2_with (first
              | (go_at_call 23; refine (rscrub_any A12 c12 BD _ N12.out.secs N12.out.cap N12.out.cm HSB.out).mono ?_; rw [HSC.out]; rintro e w13 ⟨A13, c13, xs13, rfl, hO13, hB13⟩; have O13 := Lib.hid hO13; have J13 := Lib.hid (J12.out.after hB13); have hw13 := hB13.size; clear hO13 hB13; dsimp only)
              | (at_builtin; refine wpList_append_any _ rfl (.tmp 109) (.tmp 110) 32 rfl w.heap.size 60 i6 (.agg #[.int .i64 0, .slice none 0 0]) 2 32 Tryd.underlying32 hi6 hz6 hs6 hb6 rfl (by omega) (.slice A9 P.length c9) P.length _ rfl J13.out.own.outer _ A13 more.length c13 xs13 rfl (own_rdn O13.out.outer) (wrs_one O13.out) (by have := HPB.out; have := G.out; unfold maxLen; omega) (by have := HPB.out; have := G.out; omega) J13.out.bel.size ?_; intro v14 w14 hown14 hgr14 hat14)
              | (go_at_call 45; refine (ron_any A c d _ D9.out.secs HS.out).mono ?_; rw [HOD.out]; rintro e w11 ⟨A11, c11, vs11, rfl, hO11, hB11⟩; have O11 := Lib.hid hO11; have J11 := Lib.hid (J9.out.after hB11); clear hO11 hB11 q0 q1 q2 q3 q4; dsimp only [id])
              | (go_at_call 44; refine (rdo_any A11 c11 od A9 P.length c9 P _ (own_args0 O11.out).1 HOS.out J11.out.own.wrs (by have := HPB.out; omega) HOL.out).mono ?_; rw [HDO.out]; rintro e w12 ⟨A12, c12, vs12, rfl, hO12, hB12⟩; have N12 := Lib.hid (dbox_new hO12); have al := below_one w12 (.cells #[.slice A12 BD.secs.length c12, .int .i64 BD.left, .int .i64 BD.torn, .bool BD.off, .int .i64 BD.done] 24); have J12 := Lib.hid ((J11.out.after hB12).after al); clear hO12 hB12 al; obtain ⟨q0, q1, q2, q3, q4⟩ := N12.out.cells; dsimp only))
            obtain ⟨A14, c14, rfl, f3, f4⟩ := own_form hown14
            have I14 := J13.out.next (Below.refl _ _) O13.out (by have h1 := J12.out.bel.size; exact h1) hown14 hgr14
            go_ret2
            exact ⟨A14, c14, _, by dsimp only; rw [List.length_append]; rfl, by dsimp only; rw [List.length_append]; exact I14.own, I14.bel⟩
          end Go.Proofs.YtgeofnemlijbgaaDoor
