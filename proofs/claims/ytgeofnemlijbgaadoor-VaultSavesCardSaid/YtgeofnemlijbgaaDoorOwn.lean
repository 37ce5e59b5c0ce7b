/-
  Rows of rows of bytes that the call itself has made: each inner row in a block of its own.
-/
import Derived.Test.YtgeofnemlijbgaaDoorLaws
namespace Go.Proofs.YtgeofnemlijbgaaDoor
open Go.RowKit

/-- The slice V is a row of the call's own, of slices vs; each of them is a row of the call's own and reads as its list; no two lie in one block. -/
structure OwnS (w : World) (base : Nat) (V : Value) (vs : List Value) (ss : List (List UInt8)) : Prop where
  outer : w.ownsRow base 25 1 V ss.length vs
  inner : ∀ (i : Nat) (v : Value), vs[i]? = some v → ∃ l, ss[i]? = some l ∧ w.ownsRow base 5 1 v l.length (bvs l)
  apart : ∀ (i j : Nat) (v v' : Value) (g : Nat), vs[i]? = some v → vs[j]? = some v' → v.ownBlock = some g → v'.ownBlock = some g → i = j

section
variable {w w' w0 : World} {base : Nat} {V : Value} {vs : List Value} {ss : List (List UInt8)}

theorem own_block {e : TypeId} {size n : Nat} {v : Value} {xs : List Value} {g : Nat} (h : w.ownsRow base e size v n xs) (hg : v.ownBlock = some g) : ∃ cur, w.heap[g]? = some (.cells cur e (0, 0)) ∧ base ≤ g ∧ g < w.heap.size := by
  rcases h.2 with ⟨rfl, _⟩ | ⟨g', cap, cur, rfl, hb, hh, _⟩
  · simp [Value.ownBlock] at hg
  · have : g' = g := by simpa [Value.ownBlock] using hg
    subst this
    exact ⟨cur, hh, hb, (Array.getElem?_eq_some_iff.1 hh).1⟩
theorem own_ne {e e' : TypeId} {size n size' n' : Nat} {v v' : Value} {xs xs' : List Value} {g : Nat} (h : w.ownsRow base e size v n xs) (h' : w.ownsRow base e' size' v' n' xs') (hne : e ≠ e') (hg : v.ownBlock = some g) (hg' : v'.ownBlock = some g) : False := by
  obtain ⟨c, hc, _⟩ := own_block h hg
  obtain ⟨c', hc', _⟩ := own_block h' hg'
  rw [hc] at hc'
  injection hc' with hc'
  injection hc' with _ ht
  exact hne ht
theorem own_less {e : TypeId} {size n : Nat} {v : Value} {xs : List Value} {b : Nat} (h : w.ownsRow base e size v n xs) (hb : b ≤ base) : w.ownsRow b e size v n xs := by
  rcases h.2 with h' | ⟨g, cap, cur, h1, h2, h3⟩
  · exact ⟨h.1, .inl h'⟩
  · exact ⟨h.1, .inr ⟨g, cap, cur, h1, Nat.le_trans hb h2, h3⟩⟩
theorem own_form {e : TypeId} {size n : Nat} {v : Value} {xs : List Value} (h : w.ownsRow base e size v n xs) : ∃ A c, v = .slice A n c ∧ n ≤ c ∧ c ≤ maxLen := by
  rcases h.2 with ⟨rfl, rfl⟩ | ⟨g, cap, cur, h1, _, _, h2, h3, _⟩
  · exact ⟨none, 0, rfl, Nat.le_refl _, Nat.zero_le _⟩
  · exact ⟨_, _, h1, h2, h3⟩
theorem own_rd {e : TypeId} {n : Nat} {A : Option Addr} {c : Nat} {xs : List Value} (h : w.ownsRow base e 1 (.slice A n c) n xs) : Rd w w.heap.size A n xs := by
  refine ⟨by simpa using h.1, fun hn => ?_⟩
  rcases h.2 with ⟨_, h0⟩ | ⟨g, cap, cur, h1, _, hh, _⟩
  · omega
  · injection h1 with h1 _ _
    subst h1
    exact ⟨_, rfl, (Array.getElem?_eq_some_iff.1 hh).1, h.cells (g := g) rfl⟩
theorem own_rdn {e : TypeId} {n size : Nat} {A : Option Addr} {c : Nat} {xs : List Value} (h : w.ownsRow base e size (.slice A n c) n xs) : Rd w w.heap.size A (n * size) xs := by
  refine ⟨h.1, fun hn => ?_⟩
  rcases h.2 with ⟨_, h0⟩ | ⟨g, cap, cur, h1, _, hh, _⟩
  · subst h0; simp at hn
  · injection h1 with h1 _ _
    subst h1
    exact ⟨_, rfl, (Array.getElem?_eq_some_iff.1 hh).1, h.cells (g := g) rfl⟩
theorem own_bs {v : Value} {l : List UInt8} (h : w.ownsRow base 5 1 v l.length (bvs l)) : Bs w w.heap.size v l := by
  obtain ⟨A, c, rfl, h1, h2⟩ := own_form h
  exact ⟨A, c, rfl, h1, h2, own_rd h⟩

theorem OwnS.len (h : OwnS w base V vs ss) : vs.length = ss.length := by simpa using h.outer.1
theorem OwnS.less (h : OwnS w base V vs ss) {b : Nat} (hb : b ≤ base) : OwnS w b V vs ss :=
  ⟨own_less h.outer hb, fun i v hv => by obtain ⟨l, hl, ho⟩ := h.inner i v hv; exact ⟨l, hl, own_less ho hb⟩, h.apart⟩
/-- Blocks of other element types may turn. -/
theorem OwnS.grown (h : OwnS w base V vs ss) {row : Option Nat} (hg : w.grownBy w' row)
    (hne : ∀ g cur t, row = some g → w.heap[g]? = some (.cells cur t (0, 0)) → t ≠ 25 ∧ t ≠ 5) : OwnS w' base V vs ss := by
  have far : ∀ {e n v xs}, (e = 25 ∨ e = 5) → w.ownsRow base e 1 v n xs → v.ownBlock = none ∨ v.ownBlock ≠ row := by
    intro e n v xs he ho
    rcases hb : v.ownBlock with _ | g
    · exact .inl rfl
    · refine .inr fun hr => ?_
      obtain ⟨cur, hh, _⟩ := own_block ho hb
      have := hne g cur e hr.symm hh
      rcases he with rfl | rfl
      · exact this.1 rfl
      · exact this.2 rfl
  exact ⟨h.outer.kept hg (far (.inl rfl) h.outer), fun i v hv => by
    obtain ⟨l, hl, ho⟩ := h.inner i v hv
    exact ⟨l, hl, ho.kept hg (far (.inr rfl) ho)⟩, h.apart⟩
theorem OwnS.grown0 (h : OwnS w base V vs ss) (hg : w.grownBy w' none) : OwnS w' base V vs ss := h.grown hg (fun _ _ _ e => by cases e)
theorem grown_of_below {row : Option Nat} (h : Below w.heap.size w w') : w.grownBy w' row := ⟨h.os, h.tape, h.output, h.size, fun i hi _ => h.block i hi⟩
theorem OwnS.below (h : OwnS w base V vs ss) (hb : Below w.heap.size w w') : OwnS w' base V vs ss := h.grown0 (grown_of_below hb)
theorem OwnS.alloc (h : OwnS w base V vs ss) (o : Obj) : OwnS (w.alloc o) base V vs ss := h.grown0 (World.grownBy_alloc w o none)
theorem OwnS.drew (h : OwnS w base V vs ss) : OwnS w.drew base V vs ss := ⟨h.outer, h.inner, h.apart⟩
theorem OwnS.drewN (h : OwnS w base V vs ss) (n : Nat) : OwnS (w.drewN n) base V vs ss := ⟨h.outer, h.inner, h.apart⟩
theorem grown_setCell (w : World) (p : Addr) (u : Value) : w.grownBy (w.setCell p u) (some p.block) := ⟨rfl, rfl, rfl, by simp [World.setCell], fun i _ hne => Below.heap_setCell w p u i (fun e => hne (by rw [e]))⟩
theorem OwnS.setCell (h : OwnS w base V vs ss) {p : Addr} {cs : Array Value} {t : TypeId} (hp : Blk w p.block t cs) (h1 : t ≠ 25) (h2 : t ≠ 5) (u : Value) : OwnS (w.setCell p u) base V vs ss :=
  h.grown (grown_setCell w p u) (fun g cur t' e hh => by
    injection e with e
    subst e
    unfold Blk at hp
    rw [hp] at hh
    injection hh with hh
    injection hh with _ ht
    subst ht
    exact ⟨h1, h2⟩)
theorem OwnS.form (h : OwnS w base V vs ss) : ∃ A c, V = .slice A ss.length c ∧ ss.length ≤ c ∧ c ≤ maxLen := own_form h.outer
theorem OwnS.bss {A : Option Addr} {c : Nat} (h : OwnS w base (.slice A ss.length c) vs ss) : Bss w w.heap.size A ss.length ss := by
  refine ⟨rfl, vs, own_rd h.outer, fun i v hv => ?_⟩
  obtain ⟨l, hl, ho⟩ := h.inner i v hv
  exact ⟨l, hl, own_bs ho⟩
/-- The place of row i. -/
theorem OwnS.at_ (h : OwnS w base V vs ss) {i : Nat} (hi : i < ss.length) : ∃ G cap v l, V = .slice (some ⟨G, 0, none⟩) ss.length cap ∧ ss.length ≤ cap ∧ cap ≤ maxLen ∧ base ≤ G ∧ G < w.heap.size ∧ vs[i]? = some v ∧ ss[i]? = some l ∧
    w.cell? ⟨G, i, none⟩ = some v ∧ w.frozen? ⟨G, i, none⟩ = false ∧ w.ownsRow base 5 1 v l.length (bvs l) := by
  have hv : vs[i]? = some (vs[i]'(by rw [h.len]; exact hi)) := List.getElem?_eq_getElem _
  obtain ⟨l, hl, ho⟩ := h.inner i _ hv
  rcases h.outer.2 with ⟨_, h0⟩ | ⟨G, cap, cur, rfl, hb, hh, h1, h2, _⟩
  · omega
  · refine ⟨G, cap, _, l, rfl, h1, h2, hb, (Array.getElem?_eq_some_iff.1 hh).1, hv, hl, ?_, h.outer.frozenAt i, ho⟩
    rw [h.outer.cellAt i (by simpa using hi)]
    exact hv
theorem OwnS.blk (h : OwnS w base V vs ss) {G n cap : Nat} (hV : V = .slice (some ⟨G, 0, none⟩) n cap) : ∃ cur, Blk w G 25 cur := by
  obtain ⟨c, hc, _⟩ := own_block h.outer (g := G) (by rw [hV]; rfl)
  exact ⟨c, hc⟩

theorem bvs_one (l : List UInt8) : ∀ u ∈ bvs l, u.oneCell' = true := by
  intro u hu
  obtain ⟨b, _, rfl⟩ := List.mem_map.1 hu
  rfl

/-- Row i is written in place. -/
theorem OwnS.setSec (h : OwnS w base V vs ss) {i : Nat} {v : Value} {l' : List UInt8} (hv : vs[i]? = some v) (hg : w.grownBy w' v.ownBlock) (ho : w'.ownsRow base 5 1 v l'.length (bvs l')) : OwnS w' base V vs (ss.set i l') := by
  obtain ⟨l, hl, hol⟩ := h.inner i v hv
  refine ⟨?_, fun j u hu => ?_, h.apart⟩
  · rw [List.length_set]
    refine h.outer.kept hg ?_
    rcases hb : V.ownBlock with _ | g
    · exact .inl rfl
    · exact .inr fun e => own_ne h.outer hol (by decide) hb e.symm
  · by_cases hij : i = j
    · subst hij
      rw [hv] at hu
      injection hu with hu
      subst hu
      exact ⟨l', by rw [List.getElem?_set_self (List.getElem?_eq_some_iff.1 hl).1], ho⟩
    · obtain ⟨m, hm, hom⟩ := h.inner j u hu
      refine ⟨m, by rw [List.getElem?_set_ne hij]; exact hm, hom.kept hg ?_⟩
      rcases hb : u.ownBlock with _ | g
      · exact .inl rfl
      · exact .inr fun e => hij (h.apart i j v u g hv hu e.symm hb)

/-- Row i is another one, made since. -/
theorem OwnS.setOuter {G n cap : Nat} (h : OwnS w base (.slice (some ⟨G, 0, none⟩) n cap) vs ss) {i : Nat} {v' : Value} {l' : List UInt8} (hi : i < ss.length) (ho : w.ownsRow base 5 1 v' l'.length (bvs l'))
    (hf : ∀ (j : Nat) (v : Value) (g : Nat), vs[j]? = some v → v.ownBlock = some g → v'.ownBlock = some g → False) : OwnS (w.setCell ⟨G, i, none⟩ v') base (.slice (some ⟨G, 0, none⟩) n cap) (vs.set i v') (ss.set i l') := by
  have hn : n = ss.length := by
    rcases h.outer.2 with ⟨h', _⟩ | ⟨_, _, _, h', _⟩
    · simp at h'
    · simp only [Value.slice.injEq] at h'; exact h'.2.1
  subst hn
  have hst := h.outer.stored i v'
  have far : ∀ {n' u xs}, w.ownsRow base 5 1 u n' xs → u.ownBlock = none ∨ u.ownBlock ≠ some G := by
    intro n' u xs hu
    rcases hb : u.ownBlock with _ | g
    · exact .inl rfl
    · refine .inr fun e => ?_
      injection e with e
      subst e
      exact own_ne h.outer hu (by decide) rfl hb
  refine ⟨by rw [List.length_set]; exact hst.1, fun j u hu => ?_, fun a b u u' g hu hu' hb hb' => ?_⟩
  · by_cases hij : i = j
    · subst hij
      rw [List.getElem?_set_self (by rw [h.len]; exact hi)] at hu
      injection hu with hu
      subst hu
      exact ⟨l', by rw [List.getElem?_set_self hi], ho.kept hst.2 (far ho)⟩
    · rw [List.getElem?_set_ne hij] at hu
      obtain ⟨m, hm, hom⟩ := h.inner j u hu
      exact ⟨m, by rw [List.getElem?_set_ne hij]; exact hm, hom.kept hst.2 (far hom)⟩
  · by_cases hia : i = a
    · subst hia
      by_cases hib : i = b
      · exact hib
      · rw [List.getElem?_set_self (by rw [h.len]; exact hi)] at hu
        rw [List.getElem?_set_ne hib] at hu'
        injection hu with hu
        subst hu
        exact (hf b u' g hu' hb' hb).elim
    · by_cases hib : i = b
      · subst hib
        rw [List.getElem?_set_self (by rw [h.len]; exact hi)] at hu'
        rw [List.getElem?_set_ne hia] at hu
        injection hu' with hu'
        subst hu'
        exact (hf a u g hu hb hb').elim
      · rw [List.getElem?_set_ne hia] at hu
        rw [List.getElem?_set_ne hib] at hu'
        exact h.apart a b u u' g hu hu' hb hb'
/-- A block that was made since none of the rows has. -/
theorem OwnS.fresh (h : OwnS w0 base V vs ss) {v' : Value} (hf : ∀ g, v'.ownBlock = some g → w0.heap.size ≤ g) : ∀ (j : Nat) (v : Value) (g : Nat), vs[j]? = some v → v.ownBlock = some g → v'.ownBlock = some g → False := by
  intro j v g hv hg hg'
  obtain ⟨l, _, ho⟩ := h.inner j v hv
  obtain ⟨_, _, _, hlt⟩ := own_block ho hg
  have := hf g hg'
  omega

/-- A row more, by append. -/
theorem OwnS.push (h : OwnS w base V vs ss) {v' V' : Value} {l' : List UInt8} (ho : w.ownsRow base 5 1 v' l'.length (bvs l'))
    (hf : ∀ (j : Nat) (v : Value) (g : Nat), vs[j]? = some v → v.ownBlock = some g → v'.ownBlock = some g → False)
    (hV : w'.ownsRow base 25 1 V' (ss.length + 1) (vs ++ [v'])) (hg : w.grownBy w' V.ownBlock) : OwnS w' base V' (vs ++ [v']) (ss ++ [l']) := by
  have far : ∀ {n' u xs}, w.ownsRow base 5 1 u n' xs → u.ownBlock = none ∨ u.ownBlock ≠ V.ownBlock := by
    intro n' u xs hu
    rcases hb : u.ownBlock with _ | g
    · exact .inl rfl
    · exact .inr fun e => own_ne h.outer hu (by decide) e.symm hb
  have hl := h.len
  refine ⟨by simpa using hV, fun j u hu => ?_, fun a b u u' g hu hu' hb hb' => ?_⟩
  · rcases Nat.lt_or_ge j vs.length with hj | hj
    · rw [List.getElem?_append_left hj] at hu
      obtain ⟨m, hm, hom⟩ := h.inner j u hu
      exact ⟨m, by rw [List.getElem?_append_left (by omega)]; exact hm, hom.kept hg (far hom)⟩
    · rw [List.getElem?_append_right hj] at hu
      obtain rfl : j = vs.length := by
        rcases Nat.lt_or_ge (j - vs.length) 1 with h1 | h1
        · omega
        · rw [List.getElem?_eq_none (by simpa using h1)] at hu; cases hu
      simp at hu
      subst hu
      exact ⟨l', by rw [hl]; simp, ho.kept hg (far ho)⟩
  · have cut : ∀ {k x}, (vs ++ [v'])[k]? = some x → (k < vs.length ∧ vs[k]? = some x) ∨ (k = vs.length ∧ x = v') := by
      intro k x hx
      rcases Nat.lt_or_ge k vs.length with hj | hj
      · rw [List.getElem?_append_left hj] at hx
        exact .inl ⟨hj, hx⟩
      · rw [List.getElem?_append_right hj] at hx
        rcases Nat.lt_or_ge (k - vs.length) 1 with h1 | h1
        · obtain rfl : k = vs.length := by omega
          simp at hx
          exact .inr ⟨rfl, hx.symm⟩
        · rw [List.getElem?_eq_none (by simpa using h1)] at hx; cases hx
    rcases cut hu with ⟨ha, k1⟩ | ⟨ea, e1⟩ <;> rcases cut hu' with ⟨hb1, k2⟩ | ⟨eb, e2⟩
    · exact h.apart a b u u' g k1 k2 hb hb'
    · subst e2; exact (hf a u g k1 hb hb').elim
    · subst e1; exact (hf b u' g k2 hb' hb).elim
    · omega
theorem OwnS.nil_ (w : World) (base : Nat) : OwnS w base (.slice none 0 0) [] [] := ⟨World.ownsRow_nil w base _ 1, fun i v hv => by simp at hv, fun i j v v' g hv => by simp at hv⟩
/-- n nil rows, in a row of the call's own. -/
theorem OwnS.nils {n : Nat} (h : w.ownsRow base 25 1 V n (List.replicate n (.slice none 0 0))) : OwnS w base V (List.replicate n (.slice none 0 0)) (List.replicate n []) := by
  refine ⟨by simpa using h, fun i v hv => ?_, fun i j v v' g hv _ hg => ?_⟩
  · have hi : i < n := by simpa using (List.getElem?_eq_some_iff.1 hv).1
    have hv' : v = .slice none 0 0 := by
      rw [List.getElem?_replicate, if_pos hi] at hv; injection hv with hv; exact hv.symm
    subst hv'
    exact ⟨[], by rw [List.getElem?_replicate, if_pos hi], World.ownsRow_nil w base _ 1⟩
  · have hi : i < n := by simpa using (List.getElem?_eq_some_iff.1 hv).1
    have hv' : v = .slice none 0 0 := by
      rw [List.getElem?_replicate, if_pos hi] at hv; injection hv with hv; exact hv.symm
    subst hv'
    simp [Value.ownBlock] at hg
/-- Blocks of another element type, known whole, may turn. -/
theorem OwnS.grownB (h : OwnS w base V vs ss) {g : Nat} {t : TypeId} {cs : Array Value} (hg : w.grownBy w' (some g)) (hb : Blk w g t cs) (h1 : t ≠ 25) (h2 : t ≠ 5) : OwnS w' base V vs ss :=
  h.grown hg (fun g' cur t' e hh => by
    injection e with e
    subst e
    unfold Blk at hb
    rw [hb] at hh
    injection hh with hh
    injection hh with _ ht
    subst ht
    exact ⟨h1, h2⟩)
end

theorem blk_far {w w3 : World} {base g n size : Nat} {e t : TypeId} {V : Value} {xs : List Value} {cs : Array Value} (hg : w.grownBy w3 V.ownBlock) (hb : Blk w g t cs) (ho : w.ownsRow base e size V n xs) (hne : e ≠ t) : Blk w3 g t cs :=
  hb.grown hg (fun h => by
    obtain ⟨c, hc, _⟩ := own_block ho h.symm
    unfold Blk at hb
    rw [hc] at hb
    injection hb with hb
    injection hb with _ hb
    exact hne hb)
theorem rd_new (w : World) (v : Value) (t : TypeId) : Rd (w.alloc (.cells #[v] t)) (w.heap.size + 1) (some ⟨w.heap.size, 0, none⟩) (1 * 1) [v] :=
  ⟨rfl, fun _ => ⟨_, rfl, Nat.lt_succ_self _, cell_one_new w v t⟩⟩
theorem one_slice (A : Option Addr) (n c : Nat) : ∀ u ∈ [Value.slice A n c], u.oneCell' = true := by
  intro u hu
  simp at hu
  subst hu
  rfl

/-- A block of five cells is written whole. -/
abbrev set5 (w : World) (g : Nat) (a b c d e : Value) : World := ((((w.setCell ⟨g, 0, none⟩ a).setCell ⟨g, 1, none⟩ b).setCell ⟨g, 2, none⟩ c).setCell ⟨g, 3, none⟩ d).setCell ⟨g, 4, none⟩ e
theorem set5_grown (w : World) (g : Nat) (a b c d e : Value) : w.grownBy (set5 w g a b c d e) (some g) :=
  ((((grown_setCell w ⟨g, 0, none⟩ a).trans (grown_setCell _ ⟨g, 1, none⟩ b)).trans (grown_setCell _ ⟨g, 2, none⟩ c)).trans (grown_setCell _ ⟨g, 3, none⟩ d)).trans (grown_setCell _ ⟨g, 4, none⟩ e)
theorem set5_blk {w : World} {g : Nat} {t : TypeId} {x0 x1 x2 x3 x4 : Value} (h : Blk w g t #[x0, x1, x2, x3, x4]) (a b c d e : Value) : Blk (set5 w g a b c d e) g t #[a, b, c, d, e] := by
  have := ((((h.set_ 0 a).set_ 1 b).set_ 2 c).set_ 3 d).set_ 4 e
  simpa using this
end Go.Proofs.YtgeofnemlijbgaaDoor
