/- The document's Save, Recover, Writes. The document's Writes: writes that are alike; contracts of the document's functions, told by what they hand back. -/
import Derived.Test.YtgeofnemlijbgaaDoorVY3
import Derived.Test.YtgeofnemlijbgaaDoorVK
import Derived.Test.YtgeofnemlijbgaaDoorVO0
namespace Go.Proofs.YtgeofnemlijbgaaDoor
open Go.RowKit Go.Shelf
set_option linter.unusedVariables false
set_option linter.unusedSimpArgs false

theorem copy_lim (A : Option Addr) (c : Nat) (d : Dsk) (w : World) (hd : Bss w w.heap.size A d.secs.length d.secs) (hs : Sm d.secs) :
    Calls Tryd.prog 47 #[dvD A c d] w (DRet w (limD d d.left d.torn) id) := copy_any A c d w hd hs
set_option maxRecDepth 100000 in
set_option maxHeartbeats 4000000 in
theorem rsave_any (A : Option Addr) (c : Nat) (d : Dsk) (At : Option Addr) (ct : Nat) (t : List UInt8) (w : World) (hd : Bss w w.heap.size A d.secs.length d.secs) (h1 : d.secs.length ≤ c) (h2 : c ≤ maxLen) (hs : Sm d.secs) (hli : d.left ≤ 9223372036854775807)
    (ht : Rd w w.heap.size At t.length (bvs t)) (htc : t.length ≤ ct) (htl : t.length ≤ 100000) :
    Calls Tryd.prog 26 #[dvD A c d, .slice At t.length ct] w (DRet w (saveD d t).1 fun v => .tuple #[v, .int .i64 (saveD d t).2]) := by
  have hpl := plan_len (d := d) (t := t) htl hs.1
  have D0 := Lib.hid ((DBox.arg hd h1 h2).alloc (.cells #[.slice none 0 0, .int .i64 0, .int .i64 0, .bool false, .int .i64 0] 24))
  have R0 : Hid (Blk ((w.alloc (.cells #[.slice A d.secs.length c, .int .i64 d.left, .int .i64 d.torn, .bool d.off, .int .i64 d.done] 24)).alloc (.cells #[.slice none 0 0, .int .i64 0, .int .i64 0, .bool false, .int .i64 0] 24)) (w.heap.size + 1) 24 #[.slice none 0 0, .int .i64 0, .int .i64 0, .bool false, .int .i64 0]) := Lib.hid (blk_two w _ _ _)
  have hB0 := below_two w (.cells #[.slice A d.secs.length c, .int .i64 d.left, .int .i64 d.torn, .bool d.off, .int .i64 d.done] 24) (.cells #[.slice none 0 0, .int .i64 0, .int .i64 0, .bool false, .int .i64 0] 24)
  have HB0 := Lib.hid hB0
  have HT := Lib.hid (ht.below hB0)
  have HCC := Lib.hid (show d.secs.length ≤ c ∧ c ≤ maxLen from ⟨h1, h2⟩)
  have HS := Lib.hid hs
  have HTC := Lib.hid htc
  have HTL := Lib.hid htl
  obtain ⟨q0, q1, q2, q3, q4⟩ := D0.out.cells
  have f0 := R0.out.frozen
  obtain ⟨pl, hpe⟩ : ∃ p, p = planD d t := ⟨_, rfl⟩
  have HPE := Lib.hid hpe
  rw [← hpe] at hpl
  by_cases he : pl.2 = 0
  · have hsv : saveD d t = doD d pl.1 := by unfold saveD; rw [← hpe, if_pos he]
    rw [hsv]
    obtain ⟨r, hr⟩ : ∃ r, r = doD d pl.1 := ⟨_, rfl⟩
    rw [← hr]
    have HR := Lib.hid hr
    obtain ⟨l, e⟩ := pl
    dsimp only at he hpl hr HR
    subst he
    clear hd h1 h2 hs ht htc htl hB0 hpe hsv hr
    go_enter Tryd.func26, Tryd.ntmps26
    go_wp2_with (first
      | (go_at_call 22; refine (rplan_any A c d At ct t _ D0.out.secs D0.out.cap D0.out.cm HS.out (HT.out.more HB0.out.size) HTC.out HTL.out).mono ?_; rw [← HPE.out]; rintro e2 w2 ⟨A1, c1, xs, rfl, hO2, hB2⟩; have D2 := Lib.hid (D0.out.after hB2); have R2 := Lib.hid (R0.out.below hB2 R0.out.lt); have HB2 := Lib.hid (keepB hB2 HB0.out); have O2 := Lib.hid hO2; clear hO2 hB2 q0 q1 q2 q3 q4 f0; obtain ⟨q0, q1, q2, q3, q4⟩ := D2.out.cells; dsimp only)
      | (go_at_call 44; refine (rdo_any A c d A1 l.length c1 l _ D2.out.secs HS.out O2.out.wrs hpl hli).mono ?_; rw [← HR.out]; rintro e3 w3 ⟨A3, c3, vs3, rfl, hO3, hB3⟩; have R3 := Lib.hid (R2.out.below hB3 R2.out.lt); have HB3 := Lib.hid (keepB hB3 HB2.out); have O3 := Lib.hid hO3; clear hO3 hB3 q0 q1 q2 q3 q4; have q0 := R3.out.cell; have f0 := R3.out.frozen))
    refine bodyPost_ret (v := .tuple #[dvD A3 c3 r.1, .int .i64 r.2]) (by simp [results, Tryd.results26, go_sem, q0]) rfl ?_
    exact dret_fin (fun v => .tuple #[v, .int .i64 r.2]) r.1.left r.1.torn r.1.off r.1.done O3.out HB2.out.size HB3.out R3.out (by omega)
  · have hsv : saveD d t = (limD d d.left d.torn, pl.2) := by unfold saveD; rw [← hpe, if_neg he]
    rw [hsv]
    obtain ⟨r, hr⟩ : ∃ r, r = limD d d.left d.torn := ⟨_, rfl⟩
    rw [← hr]
    have HR := Lib.hid hr
    obtain ⟨l, e⟩ := pl
    dsimp only at he hpl hr HR ⊢
    clear hd h1 h2 hs ht htc htl hB0 hpe hsv hr
    go_enter Tryd.func26, Tryd.ntmps26
    go_wp2_with (first
      | (go_at_call 22; refine (rplan_any A c d At ct t _ D0.out.secs D0.out.cap D0.out.cm HS.out (HT.out.more HB0.out.size) HTC.out HTL.out).mono ?_; rw [← HPE.out]; rintro e2 w2 ⟨A1, c1, xs, rfl, hO2, hB2⟩; have D2 := Lib.hid (D0.out.after hB2); have R2 := Lib.hid (R0.out.below hB2 R0.out.lt); have HB2 := Lib.hid (keepB hB2 HB0.out); have O2 := Lib.hid hO2; clear hO2 hB2 q0 q1 q2 q3 q4 f0; obtain ⟨q0, q1, q2, q3, q4⟩ := D2.out.cells; dsimp only)
      | (go_at_call 47; refine (copy_lim A c d _ D2.out.secs HS.out).mono ?_; rw [← HR.out]; rintro e3 w3 ⟨A3, c3, vs3, rfl, hO3, hB3⟩; have R3 := Lib.hid (R2.out.below hB3 R2.out.lt); have HB3 := Lib.hid (keepB hB3 HB2.out); have O3 := Lib.hid hO3; clear hO3 hB3 q0 q1 q2 q3 q4; have q0 := R3.out.cell; have f0 := R3.out.frozen; dsimp only [id]))
    refine bodyPost_ret (v := .tuple #[dvD A3 c3 r, .int .i64 e]) (by simp [results, Tryd.results26, go_sem, q0]) rfl ?_
    exact dret_fin (fun v => .tuple #[v, .int .i64 e]) r.left r.torn r.off r.done O3.out HB2.out.size HB3.out R3.out (by omega)

set_option maxRecDepth 100000 in
set_option maxHeartbeats 4000000 in
theorem rrecover_any (A : Option Addr) (c : Nat) (d : Dsk) (w : World) (hd : Bss w w.heap.size A d.secs.length d.secs) (h1 : d.secs.length ≤ c) (h2 : c ≤ maxLen) (hs : Sm d.secs) :
    Calls Tryd.prog 28 #[dvD A c d] w (RRet w (recD d)) := by
  have D0 := Lib.hid ((DBox.arg hd h1 h2).alloc (.cells #[.slice none 0 0, .int .i64 0, .int .i64 0, .bool false, .int .i64 0] 24))
  have R0 : Hid (Blk ((w.alloc (.cells #[.slice A d.secs.length c, .int .i64 d.left, .int .i64 d.torn, .bool d.off, .int .i64 d.done] 24)).alloc (.cells #[.slice none 0 0, .int .i64 0, .int .i64 0, .bool false, .int .i64 0] 24)) (w.heap.size + 1) 24 #[.slice none 0 0, .int .i64 0, .int .i64 0, .bool false, .int .i64 0]) := Lib.hid (blk_two w _ _ _)
  have HB0 := Lib.hid (below_two w (.cells #[.slice A d.secs.length c, .int .i64 d.left, .int .i64 d.torn, .bool d.off, .int .i64 d.done] 24) (.cells #[.slice none 0 0, .int .i64 0, .int .i64 0, .bool false, .int .i64 0] 24))
  have hml : d.secs.length ≤ maxLen := by have := hs.1; unfold maxLen; omega
  have HML := Lib.hid hml
  have HS := Lib.hid hs
  obtain ⟨q0, q1, q2, q3, q4⟩ := D0.out.cells
  have f0 := R0.out.frozen
  cases hck : checkB d.secs
  · have hsv : recD d = (limD d d.left d.torn, [], 0, 1) := by unfold recD; rw [hck]; rfl
    rw [hsv]
    obtain ⟨r, hr⟩ : ∃ r, r = limD d d.left d.torn := ⟨_, rfl⟩
    rw [← hr]
    have HR := Lib.hid hr
    have HCK := Lib.hid hck
    clear hd h1 h2 hs hml hsv hr hck
    go_enter Tryd.func28, Tryd.ntmps28
    go_wp2_with (first
      | (go_at_call 38; refine (rcheck_any A d.secs.length c d.left d.torn d.off d.done d.secs _ D0.out.secs HML.out).mono ?_; rw [HCK.out]; rintro e w2 ⟨rfl, hB2⟩; have D2 := Lib.hid (D0.out.after hB2); have R2 := Lib.hid (R0.out.below hB2 R0.out.lt); have HB2 := Lib.hid (keepB hB2 HB0.out); clear hB2 q0 q1 q2 q3 q4 f0; obtain ⟨q0, q1, q2, q3, q4⟩ := D2.out.cells)
      | (go_at_call 47; refine (copy_lim A c d _ D2.out.secs HS.out).mono ?_; rw [← HR.out]; rintro e3 w3 ⟨A3, c3, vs3, rfl, hO3, hB3⟩; have R3 := Lib.hid (R2.out.below hB3 R2.out.lt); have HB3 := Lib.hid (keepB hB3 HB2.out); have O3 := Lib.hid hO3; clear hO3 hB3 q0 q1 q2 q3 q4; have q0 := R3.out.cell; have f0 := R3.out.frozen; dsimp only [id]))
    refine bodyPost_ret (v := .tuple #[dvD A3 c3 r, .slice none 0 0, .int .i64 0, .int .i64 1]) (by simp [results, Tryd.results28, go_sem, q0]) rfl ?_
    have h5 := set5_grown w3 (w.heap.size + 1) (.slice A3 r.secs.length c3) (.int .i64 r.left) (.int .i64 r.torn) (.bool r.off) (.int .i64 r.done)
    exact ⟨A3, c3, vs3, none, 0, rfl, (O3.out.grownB h5 R3.out (by decide) (by decide)).less HB2.out.size, Nat.le_refl _, Nat.zero_le _, Rd.none_ _, HB3.out.grown h5 HB3.out.size (fun k e => by injection e with e; omega)⟩
  · have HCK := Lib.hid hck
    have CHK : Hid (∀ w' : World, Bss w' w'.heap.size A d.secs.length d.secs → Calls Tryd.prog 38 #[dvD A c d] w' fun e w'' => e = .returned (.bool true) ∧ Below w'.heap.size w' w'') := Lib.hid (fun w' hb => (rcheck_any A d.secs.length c d.left d.torn d.off d.done d.secs _ hb HML.out).mono (by rw [hck]; exact fun _ _ h => h))
    obtain ⟨o, ho⟩ : ∃ o, o = onD d := ⟨_, rfl⟩
    have HO := Lib.hid ho
    have HSO : Hid (Sm o.secs) := Lib.hid (by rw [ho]; exact hs)
    obtain ⟨ld, hld⟩ : ∃ l, l = loadD o := ⟨_, rfl⟩
    have HLD := Lib.hid hld
    by_cases he : ld.2.2 = 0
    · obtain ⟨hsc, _⟩ := load_scrub (d := o) (by rw [← hld]; exact he)
      obtain ⟨sc, hsce⟩ : ∃ s, s = (scrubD o).1 := ⟨_, rfl⟩
      have hscr : scrubD o = (sc, 0) := by rw [hsce, ← hsc]
      have hsl : sc.length ≤ 10000 := by rw [hsce]; have := scrub_len (d := o) HSO.out.1; omega
      have HSC := Lib.hid hscr
      obtain ⟨r, hre⟩ : ∃ r, r = doD o sc := ⟨_, rfl⟩
      have HR := Lib.hid hre
      have hrec : recD d = (r.1, ld.1, ld.2.1, r.2) := by unfold recD; rw [hck, if_pos rfl, ← ho, ← hld, if_pos he, ← hsce, ← hre]
      have hli : o.left ≤ 9223372036854775807 := by rw [ho]; show (-1 : Int) ≤ _; omega
      rw [hrec]
      obtain ⟨tx, nm, er⟩ := ld
      dsimp only at he HLD hld ⊢
      subst he
      clear hd h1 h2 hs hml hck ho hld hsc hsce hscr hre hrec
      go_enter Tryd.func28, Tryd.ntmps28
      go_wp2_with (first
        | (go_at_call 38; refine (CHK.out _ D0.out.secs).mono ?_; rintro e w2 ⟨rfl, hB2⟩; have D2 := Lib.hid (D0.out.after hB2); have R2 := Lib.hid (R0.out.below hB2 R0.out.lt); have HB2 := Lib.hid (keepB hB2 HB0.out); clear hB2 q0 q1 q2 q3 q4 f0; obtain ⟨q0, q1, q2, q3, q4⟩ := D2.out.cells)
        | (go_at_call 45; refine (ron_any A c d _ D2.out.secs HS.out).mono ?_; rw [← HO.out]; rintro e w3 ⟨A3, c3, vs3, rfl, hO3, hB3⟩; obtain ⟨_, _, e3, f1, f2⟩ := hO3.form; injection e3 with ea _ ec; subst ea; subst ec; have R3 := Lib.hid ((R2.out.below hB3 R2.out.lt).alloc (.cells #[.slice A3 o.secs.length c3, .int .i64 o.left, .int .i64 o.torn, .bool o.off, .int .i64 o.done] 24)); have HB3 := Lib.hid (bel_al (o := .cells #[.slice A3 o.secs.length c3, .int .i64 o.left, .int .i64 o.torn, .bool o.off, .int .i64 o.done] 24) (keepB hB3 HB2.out)); have D3 := Lib.hid (DBox.arg hO3.bss f1 f2); clear hO3 hB3 f1 f2 q0 q1 q2 q3 q4; obtain ⟨q0, q1, q2, q3, q4⟩ := D3.out.cells; dsimp only [id])
        | (go_at_call 20; refine (rload_any A3 c3 o _ D3.out.secs D3.out.cap D3.out.cm HSO.out).mono ?_; rw [← HLD.out]; rintro e w4 ⟨A4, c4, rfl, k1, k2, k3, hB4, k4⟩; have G4 := Lib.hid k4; have D4 := Lib.hid (D3.out.after hB4); have R4 := Lib.hid (R3.out.below hB4 R3.out.lt); have HB4 := Lib.hid (keepB hB4 HB3.out); have T4 := Lib.hid k3; have C4 := Lib.hid k1; have M4 := Lib.hid k2; clear k1 k2 k3 k4 hB4 q0 q1 q2 q3 q4; obtain ⟨q0, q1, q2, q3, q4⟩ := D4.out.cells; dsimp only)
        | (go_at_call 23; refine (rscrub_any A3 c3 o _ D4.out.secs D4.out.cap D4.out.cm HSO.out).mono ?_; rw [HSC.out]; rintro e w5 ⟨A5, c5, xs5, rfl, hO5, hB5⟩; have D5 := Lib.hid (D4.out.after hB5); have R5 := Lib.hid (R4.out.below hB5 R4.out.lt); have HB5 := Lib.hid (keepB hB5 HB4.out); have T5 := Lib.hid (T4.out.below hB5); have O5 := Lib.hid hO5; have hs5 := hB5.size; clear hO5 hB5 q0 q1 q2 q3 q4; obtain ⟨q0, q1, q2, q3, q4⟩ := D5.out.cells; dsimp only)
        | (go_at_call 44; refine (rdo_any A3 c3 o A5 sc.length c5 sc _ D5.out.secs HSO.out O5.out.wrs hsl hli).mono ?_; rw [← HR.out]; rintro e w6 ⟨A6, c6, vs6, rfl, hO6, hB6⟩; have R6 := Lib.hid ((R5.out.below hB6 R5.out.lt).alloc (.cells #[.slice A6 r.1.secs.length c6, .int .i64 r.1.left, .int .i64 r.1.torn, .bool r.1.off, .int .i64 r.1.done] 24)); have N6 := Lib.hid (Blk.new w6 24 #[.slice A6 r.1.secs.length c6, .int .i64 r.1.left, .int .i64 r.1.torn, .bool r.1.off, .int .i64 r.1.done]); have HB6 := Lib.hid (bel_al (o := .cells #[.slice A6 r.1.secs.length c6, .int .i64 r.1.left, .int .i64 r.1.torn, .bool r.1.off, .int .i64 r.1.done] 24) (keepB hB6 HB5.out)); have T6 := Lib.hid ((T5.out.below (hB6.mono hs5)).below (below_one w6 (.cells #[.slice A6 r.1.secs.length c6, .int .i64 r.1.left, .int .i64 r.1.torn, .bool r.1.off, .int .i64 r.1.done] 24) |>.mono (Nat.le_trans hs5 hB6.size))); have O6 := Lib.hid (hO6.alloc (.cells #[.slice A6 r.1.secs.length c6, .int .i64 r.1.left, .int .i64 r.1.torn, .bool r.1.off, .int .i64 r.1.done] 24)); have hs6 := hB6.size; clear hO6 hB6 q0 q1 q2 q3 q4; have q0 := N6.out.cell; have q1 := R6.out.cell; have f0 := R6.out.frozen))
      refine bodyPost_ret (v := .tuple #[dvD A6 c6 r.1, .slice A4 tx.length c4, .int .i64 nm, .int .i64 r.2]) (by simp [results, Tryd.results28, go_sem, q1]) rfl ?_
      have h5 := set5_grown (w6.alloc (.cells #[.slice A6 r.1.secs.length c6, .int .i64 r.1.left, .int .i64 r.1.torn, .bool r.1.off, .int .i64 r.1.done] 24)) (w.heap.size + 1) (.slice A6 r.1.secs.length c6) (.int .i64 r.1.left) (.int .i64 r.1.torn) (.bool r.1.off) (.int .i64 r.1.done)
      have hw3 : w.heap.size + 1 < w3.heap.size + 1 := by have := R3.out.lt; simp at this; omega
      exact ⟨A6, c6, vs6, A4, c4, rfl, (O6.out.grownB h5 R6.out (by decide) (by decide)).less HB5.out.size, C4.out, M4.out,
        rd_past _ _ _ _ _ T6.out (fun ad e => by have h1 := G4.out ad e; have h2 : (w3.alloc (.cells #[.slice A3 o.secs.length c3, .int .i64 o.left, .int .i64 o.torn, .bool o.off, .int .i64 o.done] 24)).heap.size = w3.heap.size + 1 := (by simp); omega) (by simp; omega), HB6.out.grown h5 HB6.out.size (fun k e => by injection e with e; omega)⟩
    · have hrec : recD d = (o, [], 0, ld.2.2) := by unfold recD; rw [hck, if_pos rfl, ← ho, ← hld, if_neg he]
      rw [hrec]
      have hnil : ld.1 = [] ∧ ld.2.1 = 0 := by
        rw [hld]
        rw [hld] at he
        unfold loadD at he ⊢
        split
        · rename_i hc
          rw [if_pos hc] at he
          split
          · rename_i hn
            rw [hn] at he
            exact absurd rfl he
          · exact ⟨rfl, rfl⟩
        · exact ⟨rfl, rfl⟩
      obtain ⟨tx, nm, er⟩ := ld
      dsimp only at he HLD hld hnil ⊢
      obtain ⟨rfl, rfl⟩ := hnil
      clear hd h1 h2 hs hml hck ho hld hrec
      go_enter Tryd.func28, Tryd.ntmps28
      go_wp2_with (first
        | (go_at_call 38; refine (CHK.out _ D0.out.secs).mono ?_; rintro e w2 ⟨rfl, hB2⟩; have D2 := Lib.hid (D0.out.after hB2); have R2 := Lib.hid (R0.out.below hB2 R0.out.lt); have HB2 := Lib.hid (keepB hB2 HB0.out); clear hB2 q0 q1 q2 q3 q4 f0; obtain ⟨q0, q1, q2, q3, q4⟩ := D2.out.cells)
        | (go_at_call 45; refine (ron_any A c d _ D2.out.secs HS.out).mono ?_; rw [← HO.out]; rintro e w3 ⟨A3, c3, vs3, rfl, hO3, hB3⟩; obtain ⟨_, _, e3, f1, f2⟩ := hO3.form; injection e3 with ea _ ec; subst ea; subst ec; have R3 := Lib.hid ((R2.out.below hB3 R2.out.lt).alloc (.cells #[.slice A3 o.secs.length c3, .int .i64 o.left, .int .i64 o.torn, .bool o.off, .int .i64 o.done] 24)); have HB3 := Lib.hid (bel_al (o := .cells #[.slice A3 o.secs.length c3, .int .i64 o.left, .int .i64 o.torn, .bool o.off, .int .i64 o.done] 24) (keepB hB3 HB2.out)); have D3 := Lib.hid (DBox.arg hO3.bss f1 f2); have O3 := Lib.hid (hO3.alloc (.cells #[.slice A3 o.secs.length c3, .int .i64 o.left, .int .i64 o.torn, .bool o.off, .int .i64 o.done] 24)); clear hO3 hB3 f1 f2 q0 q1 q2 q3 q4; obtain ⟨q0, q1, q2, q3, q4⟩ := D3.out.cells; dsimp only [id])
        | (go_at_call 20; refine (rload_any A3 c3 o _ D3.out.secs D3.out.cap D3.out.cm HSO.out).mono ?_; rw [← HLD.out]; rintro e w4 ⟨A4, c4, rfl, k1, k2, k3, hB4, k4⟩; have D4 := Lib.hid (D3.out.after hB4); have R4 := Lib.hid (R3.out.below hB4 R3.out.lt); have HB4 := Lib.hid (keepB hB4 HB3.out); have O4 := Lib.hid (O3.out.below hB4); clear k1 k2 k3 k4 hB4 q0 q1 q2 q3 q4; obtain ⟨q0, q1, q2, q3, q4⟩ := D4.out.cells; have f0 := R4.out.frozen; have q5 := R4.out.cell; dsimp only))
      refine bodyPost_ret (v := .tuple #[dvD A3 c3 o, .slice none 0 0, .int .i64 0, .int .i64 er]) (by simp [results, Tryd.results28, go_sem, q5]) rfl ?_
      have h5 := set5_grown w4 (w.heap.size + 1) (.slice A3 o.secs.length c3) (.int .i64 o.left) (.int .i64 o.torn) (.bool o.off) (.int .i64 o.done)
      exact ⟨A3, c3, vs3, none, 0, rfl, (O4.out.grownB h5 R4.out (by decide) (by decide)).less HB2.out.size, Nat.le_refl _, Nat.zero_le _, Rd.none_ _, HB4.out.grown h5 HB4.out.size (fun k e => by injection e with e; omega)⟩
end Go.Proofs.YtgeofnemlijbgaaDoor

namespace Go.Proofs.YtgeofnemlijbgaaDoor
open Go.RowKit
set_option linter.unusedVariables false
set_option linter.unusedSimpArgs false

set_option maxRecDepth 100000 in
set_option maxHeartbeats 2000000 in
theorem writes_eq (A A' : Option Addr) (c c' : Nat) (l : List Wr) (w : World) (hl : Wrs w w.heap.size A l.length l) (hl' : Wrs w w.heap.size A' l.length l) (hn : l.length ≤ 10000) :
    Calls Tryd.prog 24 #[.slice A l.length c, .slice A' l.length c'] w fun e w' => e = .returned (.bool true) ∧ Below w.heap.size w w' := by
  obtain ⟨n, hn0⟩ : ∃ n, n = l.length := ⟨_, rfl⟩
  rw [← hn0] at hl hl' hn ⊢
  have HL := Lib.hid hl
  have HL' := Lib.hid hl'
  clear hn0 hl hl'
  have t1 : ((n : Int) != (n : Int)) = false := by simp
  have hB := Below.refl w.heap.size w
  go_enter Tryd.func24, Tryd.ntmps24
  go_wp2
  go_loopw [5] (fun i wr => ∃ k m : Nat, k ≤ n ∧ i = .int .i64 k ∧ wr = w.drewN m) (fun i _ => n - (intOf i).toNat)
  case atStart => exact ⟨0, 0, Nat.zero_le _, rfl, rfl⟩
  case round =>
    obtain ⟨k, m, hk, rfl, rfl⟩ := hrel
    by_cases hlt : k < n
    · obtain ⟨b, o, ⟨xa, xd⟩, Ad, cd, rfl, hb, hx, hc1, hc2, h1, h2, h3⟩ := HL.out.at_ hlt
      obtain ⟨b', o', x', Ad', cd', rfl, hb', hx', hc1', hc2', h1', h2', h3'⟩ := HL'.out.at_ hlt
      rw [hx] at hx'
      injection hx' with hx'
      subst hx'
      dsimp only at hc1 hc2 h1 h3 hc1' hc2' h1' h3'
      have v1 : ∀ nq, (convert 25 9 (.slice Ad xd.length cd)).run Tryd.prog (w.drewN nq) = .ok (.string ⟨xd.toArray⟩) (w.drewN nq) := fun nq => conv_rd (h3.drewN nq) cd
      have v2 : ∀ nq, (convert 25 9 (.slice Ad' xd.length cd')).run Tryd.prog (w.drewN nq) = .ok (.string ⟨xd.toArray⟩) (w.drewN nq) := fun nq => conv_rd (h3'.drewN nq) cd'
      have k0 : (0 : Int) ≤ (k : Int) := by omega
      have k1 : (k : Int) < (n : Int) := by omega
      obtain ⟨S, hS⟩ : ∃ S : ByteArray, S = ⟨xd.toArray⟩ := ⟨_, rfl⟩
      rw [← hS] at v1 v2
      have e1 : (S.toList != S.toList) = false := by simp
      have e0 : (xa != xa) = false := by simp
      clear hx h1 h2 h3 h1' h2' h3' hS hb hb'
      go_wp2
      go_quiet (fail)
      go_wp2
      go_roundw
      case rel => exact ⟨k + 1, _, by omega, by go_num, rfl⟩
      case measure => simp [intOf]; omega
    · go_wp2
      go_ret
      exact ⟨rfl, below_drewN hB _⟩

section
variable {A : Option Addr} {c b : Nat} {d x : Dsk} {w : World} {At : Option Addr} {ct : Nat} {t : List UInt8}
theorem rload_r {r : List UInt8 × Int × Int} (hr : loadD d = r) (h : DBox w b A c d) (hs : Sm d.secs) : Calls Tryd.prog 20 #[dvD A c d] w (LRet w r) := by
  rw [← hr]; exact rload_any A c d w h.secs h.cap h.cm hs
theorem rscrub_r {r : List Wr × Int} (hr : scrubD d = r) (h : DBox w b A c d) (hs : Sm d.secs) : Calls Tryd.prog 23 #[dvD A c d] w (WRet w r) := by
  rw [← hr]; exact rscrub_any A c d w h.secs h.cap h.cm hs
theorem rplan_r {r : List Wr × Int} (hr : planD d t = r) (h : DBox w b A c d) (hs : Sm d.secs) (ht : Rd w w.heap.size At t.length (bvs t)) (htc : t.length ≤ ct) (htl : t.length ≤ 5000) : Calls Tryd.prog 22 #[dvD A c d, .slice At t.length ct] w (WRet w r) := by
  rw [← hr]; exact rplan_any A c d At ct t w h.secs h.cap h.cm hs ht htc (by omega)
theorem rsave_r {e : Int} (hr : saveD d t = (x, e)) (h : DBox w b A c d) (hs : Sm d.secs) (hli : d.left ≤ 9223372036854775807) (ht : Rd w w.heap.size At t.length (bvs t)) (htc : t.length ≤ ct) (htl : t.length ≤ 5000) : Calls Tryd.prog 26 #[dvD A c d, .slice At t.length ct] w (DRet w x fun v => .tuple #[v, .int .i64 e]) := by
  have := rsave_any A c d At ct t w h.secs h.cap h.cm hs hli ht htc (by omega); rw [hr] at this; exact this
theorem rrec_r {r : Dsk × List UInt8 × Int × Int} (hr : recD d = r) (h : DBox w b A c d) (hs : Sm d.secs) : Calls Tryd.prog 28 #[dvD A c d] w (RRet w r) := by
  rw [← hr]; exact rrecover_any A c d w h.secs h.cap h.cm hs
end
theorem save_sm {d : Dsk} {t : List UInt8} (h : Sm d.secs) : Sm (saveD d t).1.secs := by
  cases hck : checkB d.secs
  · have e : planD d t = ([], 1) := by unfold planD; rw [hck]; rfl
    unfold saveD
    rw [e]
    exact h
  · unfold saveD
    split
    · exact sm_check (doD_check _ hck)
    · exact h
theorem rec_sm {d : Dsk} (h : Sm d.secs) : Sm (recD d).1.secs := by
  cases hck : checkB d.secs
  · unfold recD
    rw [hck]
    exact h
  · unfold recD
    rw [hck, if_pos rfl]
    split
    · exact sm_check (doD_check _ hck)
    · exact h
theorem plan_len5 {d : Dsk} {t : List UInt8} (ht : t.length ≤ 5000) (hs : Sm d.secs) : (planD d t).1.length ≤ 10000 := plan_len (by omega) hs.1
theorem scrub_len5 {d : Dsk} (hs : Sm d.secs) : (scrubD d).1.length ≤ 10000 := by have := scrub_len (d := d) hs.1; omega
theorem conv_x {l : List UInt8} {S : ByteArray} (hS : S = ⟨l.toArray⟩) (w' : World) (B : Nat) (A' : Option Addr) (c' : Nat) (h : Rd w' B A' l.length (bvs l)) : (convert 25 9 (.slice A' l.length c')).run Tryd.prog w' = .ok (.string S) w' := by
  rw [hS]; exact conv_rd h c'
end Go.Proofs.YtgeofnemlijbgaaDoor
