/- What a disk has behind a power that goes at whatever write of a save. No program here. -/
import Derived.Test.YtgeofnemlijbgaaDoorVW1
namespace Go.Proofs.YtgeofnemlijbgaaDoor
open Go.RowKit
set_option linter.unusedVariables false

theorem newest_secs {x y : Dsk} (h : x.secs = y.secs) : newestD x = newestD y := by
  obtain ⟨s, a, b, c, e⟩ := x
  obtain ⟨s', a', b', c', e'⟩ := y
  dsimp only at h
  subst h
  rfl
theorem atD_secs {x y : Dsk} (h : x.secs = y.secs) (k : Nat) : atD x k = atD y k := atD_len (by rw [h]) k
theorem half_secs {x y : Dsk} (h : x.secs = y.secs) : halfD x = halfD y := by unfold halfD; rw [h]
theorem scrub_secs {x y : Dsk} (h : x.secs = y.secs) : scrubD x = scrubD y := by
  unfold scrubD
  rw [newest_secs h, half_secs h, h]
  simp only [atD_secs h]
theorem load_secs {x y : Dsk} (h : x.secs = y.secs) : loadD x = loadD y := by
  unfold loadD readD okR
  rw [newest_secs h, half_secs h, h]
  simp only [atD_secs h]
theorem tgt_secs {x y : Dsk} (h : x.secs = y.secs) : tgtD x = tgtD y := by unfold tgtD; rw [newest_secs h]
theorem to_secs {x y : Dsk} (h : x.secs = y.secs) : toD x = toD y := by unfold toD; rw [tgt_secs h, atD_secs h]
theorem full_secs {x y : Dsk} (h : x.secs = y.secs) (t : List UInt8) : fullD x t = fullD y t := by unfold fullD maxD; rw [newest_secs h, h]
theorem plan0_secs {x y : Dsk} (h : x.secs = y.secs) (t : List UInt8) : plan0 x t = plan0 y t := by unfold plan0; rw [to_secs h, tgt_secs h]
theorem plan_secs {x y : Dsk} (h : x.secs = y.secs) (t : List UInt8) : planD x t = planD y t := by
  unfold planD
  rw [full_secs h t, h]
  by_cases hck : checkB y.secs = true
  · cases hf : fullD y t
    · have h1 := (behind_eq (d := y) hck hf).2.1
      have h2 := (behind_eq (d := x) (by rw [h]; exact hck) ((full_secs h t).trans hf)).2.1
      have h3 : (behindD x t).secs = (behindD y t).secs := by rw [h1, h2, h, plan0_secs h]
      rw [scrub_secs h3, plan0_secs h]
    · rfl
  · simp only [hck, Bool.false_eq_true, if_false]

section
variable {d y : Dsk} {x : Wr} {t : List UInt8}
theorem wrD_go (ho : d.off = false) (hx : OkW d.secs.length x) (hl : 0 < d.left) : wrD d x = ({ d with secs := d.secs.set x.1.toNat x.2, done := wrap64 (d.done + 1), left := d.left - 1 }, 0) := by
  obtain ⟨h0, h1, h2⟩ := hx
  have hb : badW d x = false := by
    simp only [badW, Bool.or_eq_false_iff, decide_eq_false_iff_not, ne_eq, Decidable.not_not]
    omega
  have hne : ¬ d.left = 0 := by omega
  unfold wrD
  rw [hb, ho]
  simp only [hne, hl, if_true, Bool.false_eq_true, if_false]
theorem wrD_torn (ho : d.off = false) (hx : OkW d.secs.length x) (hl : d.left = 0) : wrD d x = ({ d with secs := d.secs.set x.1.toNat (x.2.take (tornN d.torn) ++ (secAt d x.1).drop (tornN d.torn)), off := true }, 170) := by
  obtain ⟨h0, h1, h2⟩ := hx
  have hb : badW d x = false := by
    simp only [badW, Bool.or_eq_false_iff, decide_eq_false_iff_not, ne_eq, Decidable.not_not]
    omega
  unfold wrD
  rw [hb, ho]
  simp only [hl, if_true, Bool.false_eq_true, if_false]
theorem do_lim {l : List Wr} : ∀ {d : Dsk}, d.off = false → 0 ≤ d.left → (∀ x ∈ l, OkW d.secs.length x) →
    ((doL d l).2 = 0 ∧ (doL d l).1.off = false ∧ (doL d l).1.left = d.left - l.length ∧ (l.length : Int) ≤ d.left ∧ (doL d l).1.secs = setsL d.secs l) ∨
    ((doL d l).2 = 170 ∧ d.left < l.length ∧ ∀ i, (∀ x ∈ l, x.1.toNat ≠ i) → (doL d l).1.secs[i]? = d.secs[i]?) := by
  induction l with
  | nil => intro d ho hl _; exact .inl ⟨rfl, ho, by simp [doL], by simpa using hl, rfl⟩
  | cons x l ih =>
    intro d ho hl hw
    have hx := hw x (List.mem_cons_self ..)
    by_cases h0 : d.left = 0
    · have e := wrD_torn ho hx h0
      rw [doL_stop (by rw [e]; simp), e]
      refine .inr ⟨rfl, by rw [h0, List.length_cons]; omega, fun i hi => ?_⟩
      show (d.secs.set _ _)[i]? = _
      rw [List.getElem?_set_ne (hi x (List.mem_cons_self ..))]
    · have e := wrD_go ho hx (by omega)
      rw [doL_go (by rw [e]), e]
      rcases ih (d := { d with secs := d.secs.set x.1.toNat x.2, done := wrap64 (d.done + 1), left := d.left - 1 }) ho (by show 0 ≤ d.left - 1; omega) (fun y hy => by simpa using hw y (List.mem_cons_of_mem _ hy)) with ⟨g1, g2, g3, g4, g5⟩ | ⟨g1, g2, g3⟩
      · dsimp only at g3 g4
        exact .inl ⟨g1, g2, by rw [g3, List.length_cons]; omega, by rw [List.length_cons]; omega, g5⟩
      · dsimp only at g2
        refine .inr ⟨g1, by rw [List.length_cons]; omega, fun i hi => ?_⟩
        rw [g3 i (fun y hy => hi y (List.mem_cons_of_mem _ hy))]
        show (d.secs.set _ _)[i]? = _
        rw [List.getElem?_set_ne (hi x (List.mem_cons_self ..))]
/-- Behind the first writes of a plan, with a limit. -/
theorem plan0_lim {dl : Dsk} (hck : checkB d.secs = true) (hf : fullD d t = false) (hs : dl.secs = d.secs) (ho : dl.off = false) (hl : 0 ≤ dl.left) :
    ((doL dl (plan0 d t)).2 = 0 ∧ (doL dl (plan0 d t)).1.off = false ∧ (doL dl (plan0 d t)).1.left = dl.left - (plan0 d t).length ∧ ((plan0 d t).length : Int) ≤ dl.left ∧ (doL dl (plan0 d t)).1.secs = setsL d.secs (plan0 d t)) ∨
    ((doL dl (plan0 d t)).2 = 170 ∧ ((doL dl (plan0 d t)).1.secs = setsL d.secs (plan0 d t) ∨
      ((∀ i, i < toD d ∨ toD d + halfD d ≤ i → (doL dl (plan0 d t)).1.secs[i]? = d.secs[i]?) ∧
        (readH (secN (doL dl (plan0 d t)).1 (toD d)) (roomN d.secs.length) = readH (secN d (toD d)) (roomN d.secs.length) ∨ readH (secN (doL dl (plan0 d t)).1 (toD d)) (roomN d.secs.length) = none)))) := by
  have hok := plan0_ok hck hf
  obtain ⟨h1, h2⟩ := full_num hf
  have h3 := pn_half hck h2
  have h4 : toD d + halfD d ≤ d.secs.length := atD_le hck (tgtD d).1
  obtain ⟨g1, g2, g3, g4⟩ := halfD_eq hck
  rcases do_lim (l := plan0 d t) ho hl (by rw [hs]; exact hok) with ⟨e1, e2, e3, e4, e5⟩ | ⟨e1, _, _⟩
  · exact .inl ⟨e1, e2, e3, e4, by rw [e5, hs]⟩
  · refine .inr ⟨e1, ?_⟩
    unfold plan0 at e1 hok ⊢
    have hx0 : OkW dl.secs.length ((toD d : Int), zeros 64) := by rw [hs]; exact hok _ (List.mem_cons_self ..)
    have htl : toD d < d.secs.length := by omega
    by_cases h0 : dl.left = 0
    · have e := wrD_torn ho hx0 h0
      rw [doL_stop (by rw [e]; simp), e]
      refine .inr ⟨fun i hi => ?_, ?_⟩
      · show (dl.secs.set ((toD d : Nat) : Int).toNat _)[i]? = _
        rw [Int.toNat_natCast, List.getElem?_set_ne (by omega), hs]
      · have hsec : secAt dl ((toD d : Nat) : Int) = secN d (toD d) := by unfold secAt secN; rw [Int.toNat_natCast, hs]
        have e0 : (zeros 64).take (tornN dl.torn) = zeros (tornN dl.torn) := by unfold zeros; rw [List.take_replicate, Nat.min_eq_left (tornN_le _)]
        have hg : secN ({ dl with secs := dl.secs.set ((toD d : Nat) : Int).toNat ((zeros 64).take (tornN dl.torn) ++ (secAt dl ((toD d : Nat) : Int)).drop (tornN dl.torn)), off := true } : Dsk) (toD d) = zeros (tornN dl.torn) ++ (secN d (toD d)).drop (tornN dl.torn) := by
          refine secN_of ?_
          show (dl.secs.set ((toD d : Nat) : Int).toNat _)[toD d]? = _
          rw [Int.toNat_natCast, List.getElem?_set_self (by rw [hs]; exact htl), e0, hsec]
        rw [hg]
        exact readH_z _ _ _
    · have e := wrD_go ho hx0 (by omega)
      rw [doL_go (by rw [e]), e] at e1 ⊢
      obtain ⟨d1, hd1⟩ : ∃ d1 : Dsk, d1 = { dl with secs := dl.secs.set ((toD d : Nat) : Int).toNat (zeros 64), done := wrap64 (dl.done + 1), left := dl.left - 1 } := ⟨_, rfl⟩
      have s1 : d1.secs = d.secs.set (toD d) (zeros 64) := by rw [hd1, ← hs]; show dl.secs.set ((toD d : Nat) : Int).toNat _ = _; rw [Int.toNat_natCast]
      have o1 : d1.off = false := by rw [hd1]; exact ho
      have l1 : 0 ≤ d1.left := by rw [hd1]; show 0 ≤ dl.left - 1; omega
      rw [← hd1] at e1 ⊢
      clear hd1 e
      have n1 : d1.secs.length = d.secs.length := by rw [s1, List.length_set]
      rw [doL_append] at e1 ⊢
      have hpc : ∀ x ∈ piecesW (toD d) t (pn t), x.1.toNat ≠ toD d ∧ ∀ i, (i < toD d ∨ toD d + halfD d ≤ i) → x.1.toNat ≠ i := by
        intro x hx
        obtain ⟨j, hj, rfl⟩ := piecesW_mem hx
        show (((toD d + 1 + j : Nat) : Int).toNat ≠ _ ∧ ∀ i, _ → ((toD d + 1 + j : Nat) : Int).toNat ≠ i)
        rw [Int.toNat_natCast]
        exact ⟨by omega, fun i hi => by omega⟩
      rcases do_lim (l := piecesW (toD d) t (pn t)) o1 l1 (fun x hx => by rw [n1]; exact hok x (List.mem_cons_of_mem _ (List.mem_append_left _ hx))) with ⟨k1, k2, k3, k4, k5⟩ | ⟨k1, k2, k3⟩
      · rw [if_pos k1] at e1 ⊢
        generalize (doL d1 (piecesW (toD d) t (pn t))).1 = d2 at e1 k2 k3 k5 ⊢
        have n2 : d2.secs.length = d.secs.length := by rw [k5, sets_len, n1]
        have hx2 : OkW d2.secs.length ((toD d : Int), headL (tgtD d).2 t.length) := by rw [n2]; exact hok _ (List.mem_cons_of_mem _ (List.mem_append_right _ (List.mem_singleton.2 rfl)))
        have hz2 : d2.secs[toD d]? = some (zeros 64) := by
          rw [k5, sets_miss (fun x hx => (hpc x hx).1), s1, List.getElem?_set_self htl]
        by_cases h02 : d2.left = 0
        · have e := wrD_torn k2 hx2 h02
          rw [doL_stop (by rw [e]; simp), e]
          have hsec : secAt d2 ((toD d : Nat) : Int) = zeros 64 := by unfold secAt; rw [Int.toNat_natCast, List.getD_eq_getElem?_getD, hz2]; rfl
          dsimp only
          rw [hsec]
          rcases readH_torn (tgtD d).2 t.length (tornN d2.torn) (roomN d.secs.length) with hr | hr
          · refine .inl ?_
            rw [hr]
            show d2.secs.set ((toD d : Nat) : Int).toNat _ = setsL (d.secs.set ((toD d : Nat) : Int).toNat (zeros 64)) (piecesW (toD d) t (pn t) ++ [((toD d : Int), headL (tgtD d).2 t.length)])
            rw [sets_app, k5, s1, Int.toNat_natCast]
            show _ = (setsL _ _).set ((toD d : Nat) : Int).toNat _
            rw [Int.toNat_natCast]
          · refine .inr ⟨fun i hi => ?_, .inr ?_⟩
            · show (d2.secs.set ((toD d : Nat) : Int).toNat _)[i]? = _
              rw [Int.toNat_natCast, List.getElem?_set_ne (by omega), k5, sets_miss (fun x hx => (hpc x hx).2 i hi), s1, List.getElem?_set_ne (by omega)]
            · rw [← hr]
              refine congrArg (fun z => readH z _) (secN_of ?_)
              show (d2.secs.set ((toD d : Nat) : Int).toNat _)[toD d]? = _
              rw [Int.toNat_natCast, List.getElem?_set_self (by rw [n2]; exact htl)]
        · exfalso
          have l2 : 0 ≤ d2.left := by omega
          have e := wrD_go k2 hx2 (by omega)
          rw [doL_go (by rw [e])] at e1
          simp [doL] at e1
      · rw [if_neg (by rw [k1]; decide)]
        refine .inr ⟨fun i hi => ?_, .inr ?_⟩
        · rw [k3 i (fun x hx => (hpc x hx).2 i hi), s1, List.getElem?_set_ne (by omega)]
        · have : secN (doL d1 (piecesW (toD d) t (pn t))).1 (toD d) = zeros 64 := secN_of (by rw [k3 _ (fun x hx => (hpc x hx).1), s1, List.getElem?_set_self htl])
          rw [this]
          exact readH_zeros _
/-- What is not in the target area is as it was: the text is. -/
theorem old_law (hck : checkB d.secs = true) (hcy : checkB y.secs = true) (hl : y.secs.length = d.secs.length) (ho : ∀ i, i < toD d ∨ toD d + halfD d ≤ i → y.secs[i]? = d.secs[i]?)
    (hh : readH (secN y (toD d)) (roomN d.secs.length) = readH (secN d (toD d)) (roomN d.secs.length) ∨ readH (secN y (toD d)) (roomN d.secs.length) = none) : newestD y = newestD d ∧ loadD y = loadD d := by
  obtain ⟨g1, g2, g3, g4⟩ := halfD_eq hck
  have eh : halfD y = halfD d := by unfold halfD; rw [hl]
  rcases hn : newestD d with _ | ⟨k, n, m⟩
  · obtain ⟨a0, a1⟩ := newest_none hn
    have et : tgtD d = (0, 0) := by unfold tgtD; rw [hn]
    have e0 : toD d = 0 := by unfold toD; rw [et]; rfl
    rw [e0] at ho hh
    have b1 : head1 y = none := by
      unfold head1 at a1 ⊢
      rw [eh, hl, secN_eq (ho (halfD d) (by omega))]
      exact a1
    have b0 : head0 y = none := by
      unfold head0 at a0 ⊢
      rw [hl]
      rcases hh with h | h
      · rw [h]; exact a0
      · exact h
    have hy : newestD y = none := by unfold newestD; rw [b0, b1]; rfl
    refine ⟨hy, ?_⟩
    unfold loadD
    rw [hck, hcy, hn, hy]
  · have et : tgtD d = (1 - k, n + 1) := by unfold tgtD; rw [hn]
    have e0 : toD d = atD d (1 - k) := by unfold toD; rw [et]
    obtain ⟨u1, u2⟩ := used_le hck hn
    have ha := areas_at hck u2
    rw [e0] at ho hh
    have hy : newestD y = some (k, n, m) := same_new hl hn (secN_eq (ho _ (by omega))) hh
    exact ⟨hy, same_load hl hck hcy hn hy (fun i h1 h2 => ho i (by omega))⟩
theorem behind_load (hck : checkB d.secs = true) (hf : fullD d t = false) : loadD (behindD d t) = (t, ((tgtD d).2 : Int), 0) := by
  obtain ⟨b1, b2, b3, b4⟩ := behind_eq hck hf
  obtain ⟨p1, p2, p3⟩ := plan0_at hck hf
  have bl : (behindD d t).secs.length = d.secs.length := by rw [b2, sets_len]
  have eto : atD (behindD d t) (tgtD d).1 = toD d := atD_len bl _
  exact load_of b4 (behind_newest hck hf) (fun i hi => by rw [eto, b2]; exact p2 i hi)
/-- Behind a save with a limit a disk has the new text, or the one that was. -/
theorem crash_law (hck : checkB d.secs = true) (hf : fullD d t = false) (ho : d.off = false) {L torn : Int} (h0 : 0 ≤ L) :
    ∃ a g, saveD (limD d L torn) t = (a, g) ∧ checkB a.secs = true ∧ a.secs.length = d.secs.length ∧ (planD d t).2 = 0 ∧
      ((newestD (onD a) = some ((tgtD d).1, (tgtD d).2, t.length) ∧ loadD (onD a) = (t, ((tgtD d).2 : Int), 0) ∧ ((g = 0 ∧ ((planD d t).1.length : Int) ≤ L) ∨ g = 170)) ∨
       (g = 170 ∧ newestD (onD a) = newestD d ∧ loadD (onD a) = loadD d)) := by
  have hp : planD (limD d L torn) t = planD d t := plan_secs (show (limD d L torn).secs = d.secs from rfl) t
  have e1 : planD d t = (plan0 d t ++ (scrubD (behindD d t)).1, 0) := by unfold planD; rw [hck, if_pos rfl, hf]; rfl
  obtain ⟨b1, b2, b3, b4⟩ := behind_eq hck hf
  have bn := behind_newest hck hf
  have bl := behind_load hck hf
  have hsv : saveD (limD d L torn) t = doL (limD d L torn) (plan0 d t ++ (scrubD (behindD d t)).1) := by
    unfold saveD
    rw [hp, e1, if_pos rfl]
    unfold doD
    have : checkB (limD d L torn).secs = true := hck
    rw [this, if_pos rfl]
  have hckd : checkB (limD d L torn).secs = true := hck
  have hca : checkB (doL (limD d L torn) (plan0 d t ++ (scrubD (behindD d t)).1)).1.secs = true := doL_check _ hckd
  have hla : (doL (limD d L torn) (plan0 d t ++ (scrubD (behindD d t)).1)).1.secs.length = d.secs.length := doL_len _ _
  refine ⟨(doL (limD d L torn) (plan0 d t ++ (scrubD (behindD d t)).1)).1, (doL (limD d L torn) (plan0 d t ++ (scrubD (behindD d t)).1)).2, hsv, hca, hla, by rw [e1], ?_⟩
  rw [doL_append] at hca ⊢
  rcases plan0_lim (dl := limD d L torn) hck hf rfl ho h0 with ⟨k1, k2, k3, k4, k5⟩ | ⟨k1, k2⟩
  · rw [if_pos k1] at hca ⊢
    generalize (doL (limD d L torn) (plan0 d t)).1 = d2 at k2 k3 k5 hca ⊢
    have w2 : Worn (behindD d t) d2 (tgtD d).1 t.length := Worn.of (by rw [k5, b2])
    obtain ⟨w3, e3⟩ := worn_do b4 (scrub_mem b4 bn) w2 k2
    have hok : ∀ x ∈ (scrubD (behindD d t)).1, OkW d2.secs.length x := fun x hx => by rw [k5, ← b2]; exact (scrub_mem b4 bn x hx).1
    have hlf : (limD d L torn).left = L := rfl
    have hdl := do_lim (l := (scrubD (behindD d t)).1) k2 (by rw [k3, hlf]; rw [hlf] at k4; omega) hok
    generalize doL d2 (scrubD (behindD d t)).1 = r at hca w3 e3 hdl ⊢
    have w4 : Worn (behindD d t) (onD r.1) (tgtD d).1 t.length := w3.to rfl
    refine .inl ⟨w4.new b4 bn, by rw [w4.load b4 bn]; exact bl, ?_⟩
    rcases hdl with ⟨g1, g2, g3, g4, g5⟩ | ⟨g1, _⟩
    · refine .inl ⟨g1, ?_⟩
      rw [e1]
      dsimp only
      rw [List.length_append]
      rw [k3, hlf] at g4
      omega
    · exact .inr g1
  · rw [if_neg (by rw [k1]; decide)] at hca ⊢
    rcases k2 with k2 | ⟨k2, k3⟩
    · have w4 : Worn (behindD d t) (onD (doL (limD d L torn) (plan0 d t)).1) (tgtD d).1 t.length := Worn.of (by show (doL (limD d L torn) (plan0 d t)).1.secs = _; rw [k2, b2])
      exact .inl ⟨w4.new b4 bn, by rw [w4.load b4 bn]; exact bl, .inr k1⟩
    · obtain ⟨o1, o2⟩ := old_law (y := onD (doL (limD d L torn) (plan0 d t)).1) hck hca (doL_len _ _) k2 k3
      exact .inr ⟨k1, o1, o2⟩
end
end Go.Proofs.YtgeofnemlijbgaaDoor
