/- DiskKeeps: the walk. -/
import Derived.Test.YtgeofnemlijbgaaL4
import Derived.BigQuiet
import Derived.Deep.QuietTactic
namespace Go.Proofs.Ytgeofnemlijbgaa
open Go.RowKit
set_option linter.unusedVariables false

/-- A beginning of writes. -/
theorem wrs_take {w : World} {B n k : Nat} {A : Option Addr} {l : List Wr} (h : Wrs w B A n l) (hk : k ≤ n) : Wrs w B A k (l.take k) := by
  obtain ⟨h0, xs, h1, h2⟩ := h
  refine ⟨by rw [List.length_take]; omega, xs.take (k * 2), ⟨by rw [List.length_take, h1.1]; omega, fun hn => ?_⟩, fun i x hx => ?_⟩
  · obtain ⟨ad, e, hb, hc⟩ := h1.2 (by omega)
    refine ⟨ad, e, hb, fun j u hu => hc j u ?_⟩
    have hj : j < k * 2 := by have := (List.getElem?_eq_some_iff.1 hu).1; rw [List.length_take] at this; omega
    rwa [List.getElem?_take_of_lt hj] at hu
  · have hi : i < k := by have := (List.getElem?_eq_some_iff.1 hx).1; rw [List.length_take] at this; omega
    rw [List.getElem?_take_of_lt hi] at hx
    rw [List.getElem?_take_of_lt (by omega), List.getElem?_take_of_lt (by omega)]
    exact h2 i x hx

/-- The rest of a row of bytes, from t on. -/
theorem rest_rd {w : World} {B t : Nat} {ad : Addr} {l : List UInt8} (h : Rd w B (some ad) l.length (bvs l)) (ht : t ≤ l.length) : Rd w B (some (ad.add t)) (l.length - t) (bvs (l.drop t)) := by
  refine ⟨by rw [bvs_length, List.length_drop], fun hn => ?_⟩
  obtain ⟨ad', e, hb, hcell⟩ := h.2 (by omega)
  injection e with e
  subst e
  refine ⟨ad.add t, rfl, by rw [block_of_add]; exact hb, fun j u hu => ?_⟩
  rw [add_of_add]
  refine hcell (t + j) u ?_
  rw [← hu]
  simp [bvs]
theorem rest_none {w : World} {B t : Nat} {A : Option Addr} {l : List UInt8} (ht : t = l.length) : Rd w B A (l.length - t) (bvs (l.drop t)) := by
  subst ht
  simp [bvs]
  exact Rd.none_ _
theorem rest_zero {w : World} {B t : Nat} {A : Option Addr} {l : List UInt8} (ht : t = l.length) : Rd w B A 0 (bvs (l.drop t)) := by
  subst ht
  simp [bvs]
  exact Rd.none_ _
/-- The rest of a row from t on, as a value. -/
def restV (ad : Addr) (n c t : Nat) : Value := sliced (some ad) t n c 1
theorem run_rest (ad : Addr) (n c t : Nat) (w : World) (h : (t : Int) ≤ (n : Int)) : (Instr.slice 30 (.slice (some ad) n c) (some (.int .i64 (t : Int))) none none).run Try.prog w = .ok (restV ad n c t) w := by
  have hsz : (sizeOf (Try.prog.elem 30)).run Try.prog w = .ok 1 w := by
    obtain ⟨i2, hi2, hz2, hs2, hb2⟩ := infoTBi
    have he : Try.prog.elem 30 = 5 := by kernel_rfl
    simp [he, sizeOf, typeInfo, hi2, hs2]
  have hr := run_slice_l (P := Try.prog) w 30 (some ad) n c (by kernel_rfl) .i64 (t : Int) (by omega) h
  rw [hsz] at hr
  simp only [Result.andThen, Int.toNat_natCast] at hr
  exact hr
theorem conv_rest {w : World} {B c t : Nat} {ad : Addr} {l : List UInt8} {S : ByteArray} (h : Rd w B (some ad) l.length (bvs l)) (hc : l.length ≤ c) (ht : t ≤ l.length) (hS : S = ⟨(l.drop t).toArray⟩) : ∀ nq, (convert 30 9 (restV ad l.length c t)).run Try.prog (w.drewN nq) = .ok (.string S) (w.drewN nq) := by
  intro nq
  subst hS
  unfold restV sliced
  have e : l.length - t = (l.drop t).length := by rw [List.length_drop]
  by_cases hct : c = t
  · rw [if_pos hct, e]
    exact conv_rd (Rd.drewN (by rw [← e]; exact rest_none (B := B) (by omega)) nq) _
  · rw [if_neg hct, e]
    exact conv_rd (Rd.drewN (by rw [← e]; simpa using rest_rd h ht) nq) _
attribute [local go_sem high] run_rest
theorem Rd.someA {w : World} {B n : Nat} {A : Option Addr} {xs : List Value} (h : Rd w B A n xs) (hn : 0 < n) : ∃ ad, A = some ad := by
  obtain ⟨ad, e, _⟩ := h.2 hn
  exact ⟨ad, e⟩
theorem conv_c {w : World} {B n : Nat} {A : Option Addr} {l : List UInt8} {S : ByteArray} (h : Rd w B A n (bvs l)) (hn : n = l.length) (hS : S = ⟨l.toArray⟩) : ∀ c nq, (convert 30 9 (.slice A n c)).run Try.prog (w.drewN nq) = .ok (.string S) (w.drewN nq) := by
  subst hn
  subst hS
  exact fun c nq => conv_rd (h.drewN nq) c
theorem begin_rd {w : World} {B t : Nat} {A : Option Addr} {l : List UInt8} (h : Rd w B A l.length (bvs l)) (ht : t ≤ l.length) : Rd w B A t (bvs (l.take t)) := by
  refine ⟨by rw [bvs_length, List.length_take]; omega, fun hn => ?_⟩
  obtain ⟨ad, e, hb, hc⟩ := h.2 (by omega)
  refine ⟨ad, e, hb, fun j u hu => hc j u ?_⟩
  have hj : j < t := by have := (List.getElem?_eq_some_iff.1 hu).1; rw [bvs_length, List.length_take] at this; omega
  rw [← hu]
  simp [bvs, hj]
theorem conv_n {w : World} {B n : Nat} {A : Option Addr} {l : List UInt8} {S : ByteArray} (h : Rd w B A n (bvs l)) (hn : n = l.length) (hS : S = ⟨l.toArray⟩) (c nq : Nat) : (convert 30 9 (.slice A n c)).run Try.prog (w.drewN nq) = .ok (.string S) (w.drewN nq) := by
  subst hn
  subst hS
  exact conv_rd (h.drewN nq) c

set_option maxRecDepth 100000 in
set_option maxHeartbeats 4000000 in
theorem diskKeeps_walk (A : Option Addr) (c : Nat) (d : Dsk) (Al : Option Addr) (nl cl : Nat) (l : List Wr) (u : UInt8) (torn1 : Int) (w : World) (hd : Bss w w.heap.size A d.secs.length d.secs) (h1 : d.secs.length ≤ c) (h2 : c ≤ maxLen) (hl : Wrs w w.heap.size Al nl l) (hnc : nl ≤ cl) (hcm : cl ≤ maxLen) (hli : d.left ≤ 9223372036854775807) (hdn : -9223372036854775808 ≤ d.done ∧ d.done ≤ 9223372036854775807) (htn : -9223372036854775808 ≤ torn1 ∧ torn1 ≤ 9223372036854775807) :
    Calls Try.prog 5 #[dvD A c d, .slice Al nl cl, .int .u8 (u.toNat : Int), .int .i64 torn1] w fun e w' => e = .returned (.bool true) ∧ Below w.heap.size w w' := by
  have D0 := Lib.hid (DBox.arg hd h1 h2)
  have L0 := Lib.hid (wrs_after hl (below_one w (.cells #[.slice A d.secs.length c, .int .i64 d.left, .int .i64 d.torn, .bool d.off, .int .i64 d.done] 24)))
  have HLI := Lib.hid hli
  have HN := Lib.hid hl.1
  have hmx := Nat.le_trans h1 h2
  have hu1 : (u.toNat : Int) < 256 := by have := u.toNat_lt; omega
  clear hd hl h1 h2 hli
  cases hsm : smallB d.secs
  · obtain ⟨ss, left, torn, off, done⟩ := d
    dsimp only at hsm D0
    go_enter Try.func5, Try.ntmps5
    go_wp2_with (first
      | (go_at_call 8; refine (awake_any _).mono ?_; rintro e w1 ⟨rfl, hB1⟩; have d1 := Lib.hid (D0.out.after hB1); obtain ⟨qa0, qa1, qa2, qa3, qa4⟩ := d1.out.cells)
      | (go_at_call 9; refine (small_any A ss.length c left torn off done ss _ d1.out.secs).mono ?_; rintro e w2 ⟨rfl, hB2⟩))
    go_ret
    exact ⟨rfl, (keepB hB2 (keepB hB1 (below_one w _)))⟩
  · have hs := Lib.hid (sm_of_small hsm)
    cases hfw : fewB l
    · obtain ⟨ss, left, torn, off, done⟩ := d
      dsimp only at hsm D0 L0 hs
      go_enter Try.func5, Try.ntmps5
      go_wp2_with (first
        | (go_at_call 8; refine (awake_any _).mono ?_; rintro e w1 ⟨rfl, hB1⟩; have d1 := Lib.hid (D0.out.after hB1); have l1 := Lib.hid (wrs_after L0.out hB1); obtain ⟨qa0, qa1, qa2, qa3, qa4⟩ := d1.out.cells)
        | (go_at_call 9; refine (small_any A ss.length c left torn off done ss _ d1.out.secs).mono ?_; rintro e w2 ⟨rfl, hB2⟩)
        | (go_at_call 21; refine (few_any Al nl cl l _ (wrs_after l1.out hB2)).mono ?_; rintro e w3 ⟨rfl, hB3⟩))
      go_ret
      exact ⟨rfl, keepB hB3 (keepB hB2 (keepB hB1 (below_one w _)))⟩
    · have hn50 : nl ≤ 50 := by have := (fewB_out hfw).1; have := HN.out; omega
      cases hck : checkB d.secs
      · obtain ⟨ss, left, torn, off, done⟩ := d
        dsimp only at hsm D0 L0 hs hck hmx
        go_enter Try.func5, Try.ntmps5
        go_wp2_with (first
          | (go_at_call 8; refine (awake_any _).mono ?_; rintro e w1 ⟨rfl, hB1⟩; have d1 := Lib.hid (D0.out.after hB1); have l1 := Lib.hid (wrs_after L0.out hB1); obtain ⟨qa0, qa1, qa2, qa3, qa4⟩ := d1.out.cells)
          | (go_at_call 9; refine (small_any A ss.length c left torn off done ss _ d1.out.secs).mono ?_; rintro e w2 ⟨rfl, hB2⟩; have d2 := Lib.hid (d1.out.after hB2))
          | (go_at_call 21; refine (few_any Al nl cl l _ (wrs_after l1.out hB2)).mono ?_; rintro e w3 ⟨rfl, hB3⟩; have d3 := Lib.hid (d2.out.after hB3); obtain ⟨qb0, qb1, qb2, qb3, qb4⟩ := d3.out.cells)
          | (go_at_call 19; refine (check_any A ss.length c left torn off done ss _ d3.out.secs hmx).mono ?_; rintro e w4 ⟨rfl, hB4⟩))
        go_ret
        exact ⟨rfl, keepB hB4 (keepB hB3 (keepB hB2 (keepB hB1 (below_one w _))))⟩
      · obtain ⟨n, hn⟩ : ∃ n : Nat, n = u.toNat % 60 := ⟨_, rfl⟩
        have hn60 : n < 60 := by omega
        have hnu : (n : Int) = (u.toNat : Int) % 60 := by omega
        obtain ⟨k, db, hkb, hcut⟩ := cut_of l n d.secs torn1 d.torn d.done (IntWalk.wrap64_in _ hdn)
        obtain ⟨da, ea, hra⟩ : ∃ dr er, doL ⟨d.secs, n, torn1, false, d.done⟩ l = (dr, er) := ⟨_, _, rfl⟩
        rw [hra] at hcut
        dsimp only at hcut
        have hdoA : doD (limD (onD d) n torn1) l = (da, ea) := by
          have : checkB (limD (onD d) n torn1).secs = true := hck
          simp only [doD, this, if_true]
          exact hra
        have hdoB : doD (onD d) (l.take k) = (db, 0) := by
          have : checkB (onD d).secs = true := hck
          simp only [doD, this, if_true]
          exact hkb
        have hckb : checkB db.secs = true := by have := doD_check (d := onD d) (l.take k) hck; rw [hdoB] at this; exact this
        have hla : da.secs.length = d.secs.length := by have := doD_len (limD (onD d) n torn1) l; rw [hdoA] at this; exact this
        have hlb : db.secs.length = d.secs.length := by have := doD_len (onD d) (l.take k); rw [hdoB] at this; exact this
        have hkk : wrap64 (da.done - d.done) = k := by rw [hcut.done]; exact wrap_back _ _ (by omega) (by have := hcut.kl; have := HN.out; omega)
        have hk1 : k ≤ nl := by have := hcut.kl; have := HN.out; omega
        have hk2 : k ≤ n := hcut.kn
        have hcka : checkB da.secs = true := by have := doD_check (d := limD (onD d) n torn1) l hck; rw [hdoA] at this; exact this
        rw [hnu] at hdoA
        have hleft : (limD (onD d) ((u.toNat : Int) % 60) torn1).left ≤ 9223372036854775807 := by show (u.toNat : Int) % 60 ≤ _; omega
        have HA := Lib.hid hdoA
        have HB := Lib.hid hdoB
        have HC := Lib.hid hcut
        have CA := Lib.hid hcka
        have CB := Lib.hid hckb
        have HKK := Lib.hid hkk
        have LA := Lib.hid hla
        have LB := Lib.hid hlb
        have HNU := Lib.hid hnu
        have HLF := Lib.hid hleft
        clear hra hkb hdoA hdoB hcut hcka hckb hkk hla hlb hn hnu hleft hdn
        have hu0 : (0 : Int) ≤ (u.toNat : Int) := by omega
        obtain ⟨ss, left, torn, off, done⟩ := d
        obtain ⟨ass, aleft, atorn, aoff, adone⟩ := da
        obtain ⟨bss, bleft, btorn, boff, bdone⟩ := db
        dsimp only at hsm D0 L0 hs hck hmx CA CB HKK LA LB
        go_enter Try.func5, Try.ntmps5
        go_upto_region 9 with (first
          | (go_at_call 8; refine (awake_any _).mono ?_; rintro e w1 ⟨rfl, hB1⟩; have d1 := Lib.hid (D0.out.after hB1); have l1 := Lib.hid (wrs_after L0.out hB1); obtain ⟨qa0, qa1, qa2, qa3, qa4⟩ := d1.out.cells)
          | (go_at_call 9; refine (small_any A ss.length c left torn off done ss _ d1.out.secs).mono ?_; rintro e w2 ⟨rfl, hB2⟩; have d2 := Lib.hid (d1.out.after hB2); have l2 := Lib.hid (wrs_after l1.out hB2))
          | (go_at_call 21; refine (few_any Al nl cl l _ l2.out).mono ?_; rintro e w3 ⟨rfl, hB3⟩; have d3 := Lib.hid (d2.out.after hB3); have l3 := Lib.hid (wrs_after l2.out hB3); obtain ⟨qb0, qb1, qb2, qb3, qb4⟩ := d3.out.cells)
          | (go_at_call 19; refine (check_any A ss.length c left torn off done ss _ d3.out.secs hmx).mono ?_; rintro e w4 ⟨rfl, hB4⟩; have d4 := Lib.hid (d3.out.after hB4); have l4 := Lib.hid (wrs_after l3.out hB4); obtain ⟨qc0, qc1, qc2, qc3, qc4⟩ := d4.out.cells)
          | (go_at_call 24; refine (copy_any A c ⟨ss, left, torn, off, done⟩ _ d4.out.secs hs.out).mono ?_; rintro e w5 ⟨A5, c5, vs5, rfl, hO5, hB5⟩; have d5 := Lib.hid ((d4.out.after hB5).alloc (.cells #[.slice A5 ss.length c5, .int .i64 left, .int .i64 torn, .bool off, .int .i64 done] 24)); have l5 := Lib.hid (wrs_after (wrs_after l4.out hB5) (below_one w5 (.cells #[.slice A5 ss.length c5, .int .i64 left, .int .i64 torn, .bool off, .int .i64 done] 24))); have x5 := Lib.hid (DBox.new (d := ⟨ss, left, torn, off, done⟩) hO5); obtain ⟨qd0, qd1, qd2, qd3, qd4⟩ := d5.out.cells)
          | (go_at_call 17; refine (on_any A c ⟨ss, left, torn, off, done⟩ _ d5.out.secs hs.out).mono ?_; rintro e w6 ⟨A6, c6, vs6, rfl, hO6, hB6⟩; have d6 := Lib.hid (d5.out.after hB6); have l6 := Lib.hid (wrs_after l5.out hB6); have x6 := Lib.hid (x5.out.after hB6))
          | (go_at_call 15; refine (limit_any A6 c6 (onD ⟨ss, left, torn, off, done⟩) ((u.toNat : Int) % 60) torn1 _ hO6.bss hs.out).mono ?_; rintro e w7 ⟨A7, c7, vs7, rfl, hO7, hB7⟩; have d7 := Lib.hid ((d6.out.after hB7).alloc (.cells #[.slice A7 ss.length c7, .int .i64 ((u.toNat : Int) % 60), .int .i64 torn1, .bool false, .int .i64 done] 24)); have l7 := Lib.hid (wrs_after (wrs_after l6.out hB7) (below_one w7 (.cells #[.slice A7 ss.length c7, .int .i64 ((u.toNat : Int) % 60), .int .i64 torn1, .bool false, .int .i64 done] 24))); have x7 := Lib.hid ((x6.out.after hB7).alloc (.cells #[.slice A7 ss.length c7, .int .i64 ((u.toNat : Int) % 60), .int .i64 torn1, .bool false, .int .i64 done] 24)); have y7 := Lib.hid (DBox.new (d := ⟨ss, (u.toNat : Int) % 60, torn1, false, done⟩) hO7); obtain ⟨qe0, qe1, qe2, qe3, qe4⟩ := y7.out.cells)
          | (go_at_call 22; refine (do_r (d := limD (onD ⟨ss, left, torn, off, done⟩) ((u.toNat : Int) % 60) torn1) HA.out y7.out.secs hs.out l7.out (by omega) HLF.out).mono ?_; rintro e w8 ⟨A8, c8, vs8, rfl, hO8, hB8⟩; have d8 := Lib.hid ((d7.out.after hB8).alloc (.cells #[.slice A8 ass.length c8, .int .i64 aleft, .int .i64 atorn, .bool aoff, .int .i64 adone] 24)); have l8 := Lib.hid (wrs_after (wrs_after l7.out hB8) (below_one w8 (.cells #[.slice A8 ass.length c8, .int .i64 aleft, .int .i64 atorn, .bool aoff, .int .i64 adone] 24))); have x8 := Lib.hid ((x7.out.after hB8).alloc (.cells #[.slice A8 ass.length c8, .int .i64 aleft, .int .i64 atorn, .bool aoff, .int .i64 adone] 24)); have y8 := Lib.hid (DBox.new (d := ⟨ass, aleft, atorn, aoff, adone⟩) hO8); obtain ⟨qf0, qf1, qf2, qf3, qf4⟩ := d8.out.cells; obtain ⟨qg0, qg1, qg2, qg3, qg4⟩ := x8.out.cells)
          | (go_at_call 14; refine (same_eq A A5 c c5 ⟨ss, left, torn, off, done⟩ _ d8.out.secs x8.out.secs hs.out).mono ?_; rintro e w9 ⟨rfl, hB9⟩))
        have dD := Lib.hid (d8.out.after hB9)
        have dA := Lib.hid (y8.out.after hB9)
        have lW := Lib.hid (wrs_after l8.out hB9)
        have BW := Lib.hid (keepB hB9 (bel_alloc (keepB hB8 (bel_alloc (keepB hB7 (keepB hB6 (bel_alloc (keepB hB5 (keepB hB4 (keepB hB3 (keepB hB2 (keepB hB1 (below_one w (.cells #[.slice A ss.length c, .int .i64 left, .int .i64 torn, .bool off, .int .i64 done] 24))))))))))))))
        clear D0 L0 d1 d2 d3 d4 d5 d6 d7 d8 l1 l2 l3 l4 l5 l6 l7 l8 x5 x6 x7 x8 y7 y8 hB1 hB2 hB3 hB4 hB5 hB6 hB7 hB8 hB9 hO5 hO6 hO7 hO8 qa0 qa1 qa2 qa3 qa4 qb0 qb1 qb2 qb3 qb4 qc0 qc1 qc2 qc3 qc4 qd0 qd1 qd2 qd3 qd4 qe0 qe1 qe2 qe3 qe4 qf0 qf1 qf2 qf3 qf4 qg0 qg1 qg2 qg3 qg4 HA HLF
        generalize w8.heap.size = bA at dA ⊢
        have qd4 := dD.out.cells.2.2.2.2
        have qa4 := dA.out.cells.2.2.2.2
        dsimp only at qd4 qa4
        go_upto_region 10 with fail
        rw [HKK.out]
        clear qd4 qa4
        have t1 : decide ((k : Int) < 0) = false := by simp
        have t2 : decide (nl < k) = false := by simp; omega
        have t3 : decide ((u.toNat : Int) % 60 < (k : Int)) = false := by have := HNU.out; simp; omega
        go_upto_region 12 with fail
        clear t1 t2 t3
        have kc0 : (0 : Int) ≤ (k : Int) := by omega
        have kc1 : (k : Int) ≤ (cl : Int) := by omega
        go_cut [17, 18] (fun s17 s18 wx => ∃ (b : Nat) (A7 : Option Addr) (c7 : Nat), s17 = .pointer (some ⟨b, 0, none⟩) ∧ s18 = .int .i64 0 ∧ DBox wx b A7 c7 ⟨bss, bleft, btorn, boff, bdone⟩ ∧ Below w9.heap.size w9 wx)
        case first =>
          clear dA BW
          go_region_held_law (fun w' => w'.cell? ⟨w.heap.size, 0, none⟩ = some (.slice A ss.length c) ∧ w'.cell? ⟨w.heap.size, 1, none⟩ = some (.int .i64 left) ∧ w'.cell? ⟨w.heap.size, 2, none⟩ = some (.int .i64 torn) ∧ w'.cell? ⟨w.heap.size, 3, none⟩ = some (.bool off) ∧ w'.cell? ⟨w.heap.size, 4, none⟩ = some (.int .i64 done) ∧ Below w9.heap.size w9 w')
            ((refine keepS dD.out ?_; first | simp only [Below.refl, bel_drew, bel_alloc, *] | exact bel_set (bel_set (bel_set (bel_set (bel_set hW13 (by omega)) (by omega)) (by omega)) (by omega)) (by omega)))
            (first
              | (go_at_call 17; go_split_ands; refine (on_any A c ⟨ss, left, torn, off, done⟩ _ (bss_after dD.out.secs (by with_reducible assumption)) hs.out).mono ?_; rintro e w12 ⟨A12, c12, vs12, rfl, hO12, hB12⟩; have hW12 := keepB hB12 (W := w9) (by with_reducible assumption); have s12 := hW12.size; (try (have z2 : Blk w12 w9.heap.size 24 zbx := (by with_reducible exact blk_new_d hB12))))
              | (go_at_call 22; go_split_ands; refine (do_r (d := onD ⟨ss, left, torn, off, done⟩) HB.out (by first | with_reducible exact hO12.bss | with_reducible exact bss_after hO12.bss (below_one _ _)) hs.out (wrs_take (wrs_after lW.out (by with_reducible assumption)) hk1) (by omega) (by show (-1 : Int) ≤ _; omega)).mono ?_; rintro e w13 ⟨A13, c13, vs13, rfl, hO13, hB13⟩; have hW13 := keepB hB13 (W := w9) (by with_reducible assumption); have s13 : w9.heap.size ≤ w9.heap.size + 1 := (by omega); (first | (have z3 : Blk w13 w12.heap.size 24 zbx := (by with_reducible exact blk_new hB13)) | (have z3 := blk_b hB13 z2) | skip); (try (have cz := z3.cell; have fz := z3.frozen))))
          all_goals (go_wp2_with fail; go_meet)
          · exact ⟨_, A13, c13, rfl, rfl, DBox.new (d := ⟨bss, bleft, btorn, boff, bdone⟩) hO13, bel_alloc hW13⟩
          all_goals exact ⟨_, A13, c13, rfl, rfl, DBox.store (d := ⟨bss, bleft, btorn, boff, bdone⟩) hO13 z3, bel_set (bel_set (bel_set (bel_set (bel_set hW13 (by omega)) (by omega)) (by omega)) (by omega)) (by omega)⟩
        case rest =>
          obtain ⟨bB, A7, c7, rfl, rfl, hd7, hB7⟩ := hcut
          have xA := Lib.hid (dA.out.after hB7)
          have xB := Lib.hid hd7
          have xl := Lib.hid (wrs_after lW.out hB7)
          have xW := Lib.hid (keepB hB7 BW.out)
          obtain ⟨qb0, qb1, qb2, qb3, qb4⟩ := hd7.cells
          obtain ⟨qa0, qa1, qa2, qa3, qa4⟩ := xA.out.cells
          clear hd7 hB7 dD dA lW BW HB
          dsimp only at qb0 qa0 qa3
          have t1 : ((ass.length : Int) != (bss.length : Int)) = false := by rw [LA.out, LB.out]; simp
          clear qb1 qb2 qb3 qb4 qa1 qa2 qa4
          go_wp2
          have hna : ass.length ≤ 2048 := (checkB_len CA.out).1 |> fun _ => (checkB_len CA.out).2
          go_loopw [19, 20] (fun i _ wr => ∃ j m : Nat, j ≤ ass.length ∧ i = .int .i64 j ∧ wr = wc.drewN m) (fun i _ _ => ass.length - (intOf i).toNat)
          case atStart => exact ⟨0, 0, Nat.zero_le _, rfl, rfl⟩
          case round =>
            obtain ⟨j, m, hj, rfl, rfl⟩ := hrel
            by_cases hlt : j < ass.length
            · obtain ⟨aa, Ai, ci, sa, rfl, ha1, ha2, ha3, ha4, ha5, ha6⟩ := xA.out.secs.at_ hlt
              have hjb : j < bss.length := by have := LA.out; have := LB.out; omega
              obtain ⟨ab, Bi, di, sb, rfl, hb1, hb2, hb3, hb4, hb5, hb6⟩ := xB.out.secs.at_ hjb
              have j0 : (0 : Int) ≤ (j : Int) := by omega
              have j1 : (j : Int) < (ass.length : Int) := by omega
              have j2 : (j : Int) < (bss.length : Int) := by have := LA.out; have := LB.out; omega
              obtain ⟨SA1, hSA⟩ : ∃ S : ByteArray, S = ⟨sa.toArray⟩ := ⟨_, rfl⟩
              obtain ⟨SB1, hSB⟩ : ∃ S : ByteArray, S = ⟨sb.toArray⟩ := ⟨_, rfl⟩
              have v1 := conv_n ha6 rfl hSA ci
              have v2 := conv_n hb6 rfl hSB di
              by_cases hsab : sa = sb
              · have e1 : (SA1.toList == SB1.toList) = true := by rw [hSA, hSB, hsab]; simp
                clear hSA hSB hsab ha2 ha6 hb2 hb6
                go_wp2
                go_quiet (fail)
                go_wp2
                go_roundw
                case rel => exact ⟨j + 1, _, by omega, by go_num, rfl⟩
                case measure => simp [intOf]; omega
              · have e1 : (SA1.toList == SB1.toList) = false := by rw [hSA, hSB]; simpa using hsab
                obtain ⟨ea170, hkl, ⟨xa, xd⟩, hxk, hx1, htt, hl1, hl2, hl3, heq1, heq2⟩ := keeps_at HC.out CB.out ha2 hb2 hsab
                subst ea170
                dsimp only at hx1 hl3 heq1
                subst hx1
                have hknl : k < nl := by have := HN.out; omega
                obtain ⟨lb, lo, ⟨xa', xd'⟩, Ad, cd, rfl, hw1, hw2, hw3, hw4, hw5, hw6, hw7⟩ := xl.out.at_ hknl
                rw [hxk] at hw2
                simp only [Option.some.injEq, Prod.mk.injEq] at hw2
                obtain ⟨rfl, rfl⟩ := hw2
                dsimp only at hw3 hw4 hw5 hw7
                have u1 : decide (nl ≤ k) = false := by simp; omega
                have u2 : ((j : Int) != (j : Int)) = false := by simp
                have u4 : ((sa.length : Int) != 64) = false := by rw [hl1]; rfl
                have u5 : ((sb.length : Int) != 64) = false := by rw [hl2]; rfl
                have u6 : ((xd.length : Int) != 64) = false := by rw [hl3]; rfl
                have j3 : (k : Int) < (nl : Int) := by omega
                obtain ⟨ai, rfl⟩ := ha6.someA (by omega)
                obtain ⟨bi, rfl⟩ := hb6.someA (by omega)
                rcases Int.lt_or_le 64 torn1 with h64 | h64
                · have htN : (min torn1 64).toNat = 64 := by omega
                  rw [htN] at heq1 heq2
                  clear htN
                  have u3 : decide (torn1 < 1) = false := by simp; omega
                  have HA6 := Lib.hid ha6
                  have HB6 := Lib.hid hb6
                  have HW7 := Lib.hid hw7
                  have HL1 := Lib.hid hl1
                  have HL2 := Lib.hid hl2
                  have HL3 := Lib.hid hl3
                  have HQ1 := Lib.hid heq1
                  have HQ2 := Lib.hid heq2
                  clear hSA hSB hsab heq1 heq2 hl1 hl2 hl3 hxk ha2 ha6 hb2 hb6 hw7
                  go_wp2
                  go_quiet (fail)
                  go_wp2
                  obtain ⟨t, ht⟩ : ∃ t : Nat, (64 : Int) = (t : Int) := ⟨64, rfl⟩
                  rw [ht]
                  have ht2 : t = 64 := by omega
                  have hq1 := HQ1.out
                  have hq2 := HQ2.out
                  rw [← ht2] at hq1 hq2
                  clear HQ1 HQ2 u4 u5 u6 u3 h64 ht
                  have HQ1 := Lib.hid hq1
                  have HQ2 := Lib.hid hq2
                  have HT := Lib.hid (Nat.le_of_eq ht2)
                  clear hq1 hq2 ht2
                  have hl1 := HL1.out
                  have hl2 := HL2.out
                  have hl3 := HL3.out
                  have ht64 := HT.out
                  obtain ⟨S1, hS1⟩ : ∃ S : ByteArray, S = ⟨(sa.take t).toArray⟩ := ⟨_, rfl⟩
                  obtain ⟨S2, hS2⟩ : ∃ S : ByteArray, S = ⟨(sa.drop t).toArray⟩ := ⟨_, rfl⟩
                  have v3 := conv_c (begin_rd (t := t) HA6.out (by omega)) (by rw [List.length_take]; omega) hS1
                  have v4 := conv_c (begin_rd (t := t) HW7.out (by omega)) (by rw [List.length_take]; omega) (hS1.trans (by rw [HQ1.out]))
                  have v5 := conv_rest (c := ci) (t := t) HA6.out ha4 (by omega) hS2
                  have v6 := conv_rest (c := di) (t := t) HB6.out hb4 (by omega) (hS2.trans (by rw [HQ2.out]))
                  have u7 : (S1.toList != S1.toList) = false := by simp
                  have u8 : (S2.toList != S2.toList) = false := by simp
                  have w1 : (0 : Int) ≤ (t : Int) := by omega
                  have w2 : (t : Int) ≤ (ci : Int) := by omega
                  have w3 : (t : Int) ≤ (cd : Int) := by omega
                  have w4 : (t : Int) ≤ (sa.length : Int) := by omega
                  have w5 : (t : Int) ≤ (sb.length : Int) := by omega
                  clear hl1 hl2 hl3 hS1 hS2 ht64 HL1 HL2 HL3 HA6 HB6 HW7 HQ1 HQ2 HT
                  go_quiet (fail)
                  go_wp2
                  go_roundw
                  case rel => exact ⟨j + 1, _, by omega, by go_num, rfl⟩
                  case measure => simp [intOf]; omega
                · obtain ⟨t, rfl⟩ := Int.eq_ofNat_of_zero_le (show 0 ≤ torn1 by omega)
                  have htN : (min (t : Int) 64).toNat = t := by omega
                  rw [htN] at heq1 heq2
                  clear htN
                  have u3 : decide ((t : Int) < 1) = false := by simp; omega
                  have hmin : ¬ (64 : Int) < (t : Int) := by omega
                  have HT : Hid (t ≤ 64) := Lib.hid (by omega)
                  have HA6 := Lib.hid ha6
                  have HB6 := Lib.hid hb6
                  have HW7 := Lib.hid hw7
                  have HL1 := Lib.hid hl1
                  have HL2 := Lib.hid hl2
                  have HL3 := Lib.hid hl3
                  have HQ1 := Lib.hid heq1
                  have HQ2 := Lib.hid heq2
                  clear hSA hSB hsab heq1 heq2 hl1 hl2 hl3 hxk ha2 ha6 hb2 hb6 hw7
                  go_wp2
                  go_quiet (fail)
                  go_wp2
                  clear u4 u5 u6 u3 h64 hmin
                  have hl1 := HL1.out
                  have hl2 := HL2.out
                  have hl3 := HL3.out
                  have ht64 := HT.out
                  obtain ⟨S1, hS1⟩ : ∃ S : ByteArray, S = ⟨(sa.take t).toArray⟩ := ⟨_, rfl⟩
                  obtain ⟨S2, hS2⟩ : ∃ S : ByteArray, S = ⟨(sa.drop t).toArray⟩ := ⟨_, rfl⟩
                  have v3 := conv_c (begin_rd (t := t) HA6.out (by omega)) (by rw [List.length_take]; omega) hS1
                  have v4 := conv_c (begin_rd (t := t) HW7.out (by omega)) (by rw [List.length_take]; omega) (hS1.trans (by rw [HQ1.out]))
                  have v5 := conv_rest (c := ci) (t := t) HA6.out ha4 (by omega) hS2
                  have v6 := conv_rest (c := di) (t := t) HB6.out hb4 (by omega) (hS2.trans (by rw [HQ2.out]))
                  have u7 : (S1.toList != S1.toList) = false := by simp
                  have u8 : (S2.toList != S2.toList) = false := by simp
                  have w1 : (0 : Int) ≤ (t : Int) := by omega
                  have w2 : (t : Int) ≤ (ci : Int) := by omega
                  have w3 : (t : Int) ≤ (cd : Int) := by omega
                  have w4 : (t : Int) ≤ (sa.length : Int) := by omega
                  have w5 : (t : Int) ≤ (sb.length : Int) := by omega
                  clear hl1 hl2 hl3 hS1 hS2 ht64 HL1 HL2 HL3 HA6 HB6 HW7 HQ1 HQ2 HT
                  go_quiet (fail)
                  go_wp2
                  go_roundw
                  case rel => exact ⟨j + 1, _, by omega, by go_num, rfl⟩
                  case measure => simp [intOf]; omega
            · have hjn : ¬ (j : Int) < (ass.length : Int) := by omega
              by_cases he0 : ea = 0
              · subst he0
                have hk9 : k = nl := by have := HC.out.ok rfl; have := HN.out; omega
                have b1 : ((k : Int) == (nl : Int)) = true := by rw [hk9]; simp
                have b2 : (k == nl) = true := by rw [hk9]; simp
                clear hk9
                go_wp2
                go_ret
                exact ⟨rfl, below_drewN xW.out _⟩
              · have b0 : (ea == 0) = false := by simpa using he0
                have hkl9 : k < nl := by have := HC.out.nk he0; have := HN.out; omega
                have b1 : ((k : Int) == (nl : Int)) = false := by rw [beq_eq_false_iff_ne]; omega
                have b2 : (k == nl) = false := by rw [beq_eq_false_iff_ne]; omega
                by_cases he1 : ea = 170
                · obtain ⟨ho, hkn⟩ := HC.out.off he1
                  subst he1
                  dsimp only at ho
                  subst ho
                  have b3 : ((k : Int) == (u.toNat : Int) % 60) = true := by rw [beq_iff_eq]; have := HNU.out; omega
                  clear hkn he0
                  go_wp2
                  go_ret
                  exact ⟨rfl, below_drewN xW.out _⟩
                · have b4 : (ea != 170) = true := by rw [bne_iff_ne]; exact he1
                  clear he0 he1
                  go_wp2
                  go_ret
                  exact ⟨rfl, below_drewN xW.out _⟩
end Go.Proofs.Ytgeofnemlijbgaa
