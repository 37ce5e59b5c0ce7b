/- Scrub's loops: what a round keeps; an append within a round. -/
import Derived.Test.YtgeofnemlijbgaaDoorVB
import Derived.RangeFuncFrom
namespace Go.Proofs.YtgeofnemlijbgaaDoor
open Go.RowKit Go.Shelf
set_option linter.unusedVariables false

theorem blk_ne {w : World} {a b : Nat} {t t' : TypeId} {cs cs' : Array Value} (h : Blk w a t cs) (h' : Blk w b t' cs') (hne : t ≠ t') : a ≠ b := by
  intro e
  subst e
  unfold Blk at h h'
  rw [h] at h'
  injection h' with h'
  injection h' with _ ht
  exact hne ht
theorem bel_setV {W X : World} {g i : Nat} {v : Value} (h : Below W.heap.size W X) (hg : W.heap.size ≤ g) : Below W.heap.size W (X.setCell ⟨g, i, none⟩ v) := h.setCell (p := ⟨g, i, none⟩) hg v
/-- A block of cells abides the turn of whatever is no cells. -/
theorem blk_own {W W' : World} {row : Option Nat} {g : Nat} {t : TypeId} {cs : Array Value} (h : Blk W g t cs) (hg : W.grownBy W' row) (hr : ∀ r, row = some r → ∃ o : Obj, W.heap[r]? = some o ∧ o.isCells = false) : Blk W' g t cs :=
  h.grown hg (fun e => by
    obtain ⟨o, ho, hc⟩ := hr g e.symm
    unfold Blk at h
    rw [h] at ho
    injection ho with ho
    subst ho
    cases hc)
section
variable {F : Fence} {n : Nat} {P : Program} (w : World)
theorem opIn_append_any {o : Oper} {a : Act} {K : Act → World → Prop} {Q : Exit → Act → World → Prop} (s x : Operand) (t : TypeId)
    (ho : o.op = .call { callee := .builtin .append, args := #[s, x], argTypes := #[t, t] })
    (base : Nat) (e : TypeId) (i : TypeInfo) (z : Value) (size bytes : Nat) (ht : P.underlying t = some (.slice e)) (hi : P.info? e = some i) (hz : i.zero = some z)
    (hsize : i.size = size) (hby : i.bytes = bytes) (hzs : z.cells.size = size) (hsz : 0 < size)
    (v : Value) (n' : Nat) (xs : List Value) (hs : a.eval s = v) (hown : w.ownsRow base e size v n' xs)
    (B : Nat) (A : Option Addr) (m c : Nat) (news : List Value) (hx : a.eval x = .slice A m c) (hr : Rd w B A (m * size) news) (h1 : ∀ u ∈ news, u.oneCell' = true)
    (h63 : n' + m ≤ maxLen) (hbytes : (n' + m) * bytes ≤ 140737488355328) (hbase : base ≤ w.heap.size)
    (h : ∀ v' w', w'.ownsRow base e size v' (n' + m) (xs ++ news) → w.grownBy w' v.ownBlock → (v'.ownBlock = v.ownBlock ∨ v'.ownBlock = some w.heap.size) → K (a.put o.dst v') w') : Oper.wpIn F n P o a w K Q := by
  obtain ⟨v', w', hrun, h2, h3, h4⟩ := run_append_any (P := P) w base t o.type e i z size bytes ht hi hz hsize hby hzs hsz v n' xs hown B A m c news hr h1 h63 hbytes hbase
  unfold Oper.wpIn
  refine ⟨?_, ?_⟩
  · simp [Oper.about, ho, resolve, Target.leads, Sem.run_pure]
  · rw [Oper.semAt_plain F _ _ (by rw [ho]; intro c hc'; cases hc')]
    simp [execOp, ho, resolve, invoke, builtin, hs, hx, hrun, Result.andThen]
    exact h v' w' h2 h3 h4
theorem stepIn_append_any {ops : Array Oper} {o : Oper} {a : Act} {K : Act → World → Prop} {Q : Exit → Act → World → Prop} {E : Prop} (hgd : o.guard = none) (s x : Operand) (t : TypeId)
    (ho : o.op = .call { callee := .builtin .append, args := #[s, x], argTypes := #[t, t] })
    (base : Nat) (e : TypeId) (i : TypeInfo) (z : Value) (size bytes : Nat) (ht : P.underlying t = some (.slice e)) (hi : P.info? e = some i) (hz : i.zero = some z)
    (hsize : i.size = size) (hby : i.bytes = bytes) (hzs : z.cells.size = size) (hsz : 0 < size)
    (v : Value) (n' : Nat) (xs : List Value) (hs : a.eval s = v) (hown : w.ownsRow base e size v n' xs)
    (B : Nat) (A : Option Addr) (m c : Nat) (news : List Value) (hx : a.eval x = .slice A m c) (hr : Rd w B A (m * size) news) (h1 : ∀ u ∈ news, u.oneCell' = true)
    (h63 : n' + m ≤ maxLen) (hbytes : (n' + m) * bytes ≤ 140737488355328) (hbase : base ≤ w.heap.size)
    (h : ∀ v' w', w'.ownsRow base e size v' (n' + m) (xs ++ news) → w.grownBy w' v.ownBlock → (v'.ownBlock = v.ownBlock ∨ v'.ownBlock = some w.heap.size) → K (a.put o.dst v') w') :
    if Region.wanted o (yielded ops a.tmps) = true then Oper.wpIn F n P o a w K Q else E := by
  have hw : Region.wanted o (yielded ops a.tmps) = true := by simp [Region.wanted, hgd]
  rw [if_pos hw]
  exact opIn_append_any w s x t ho base e i z size bytes ht hi hz hsize hby hzs hsz v n' xs hs hown B A m c news hx hr h1 h63 hbytes hbase h
theorem wpListIn_append_any {ops : Array Oper} {rest : List Oper} {o : Oper} {a : Act} {Q : Exit → Act → World → Prop} (hgd : o.guard = none) (s x : Operand) (t : TypeId)
    (ho : o.op = .call { callee := .builtin .append, args := #[s, x], argTypes := #[t, t] })
    (base : Nat) (e : TypeId) (i : TypeInfo) (z : Value) (size bytes : Nat) (ht : P.underlying t = some (.slice e)) (hi : P.info? e = some i) (hz : i.zero = some z)
    (hsize : i.size = size) (hby : i.bytes = bytes) (hzs : z.cells.size = size) (hsz : 0 < size)
    (v : Value) (n' : Nat) (xs : List Value) (hs : a.eval s = v) (hown : w.ownsRow base e size v n' xs)
    (B : Nat) (A : Option Addr) (m c : Nat) (news : List Value) (hx : a.eval x = .slice A m c) (hr : Rd w B A (m * size) news) (h1 : ∀ u ∈ news, u.oneCell' = true)
    (h63 : n' + m ≤ maxLen) (hbytes : (n' + m) * bytes ≤ 140737488355328) (hbase : base ≤ w.heap.size)
    (h : ∀ v' w', w'.ownsRow base e size v' (n' + m) (xs ++ news) → w.grownBy w' v.ownBlock → (v'.ownBlock = v.ownBlock ∨ v'.ownBlock = some w.heap.size) → wpListIn F n P ops Q rest (a.put o.dst v') w') : wpListIn F n P ops Q (o :: rest) a w :=
  wpListIn_plain hgd fun K hK => opIn_append_any w s x t ho base e i z size bytes ht hi hz hsize hby hzs hsz v n' xs hs hown B A m c news hx hr h1 h63 hbytes hbase fun v' w' h2 h3 h4 => hK _ _ (h v' w' h2 h3 h4)
end

theorem rd_new2 (w : World) (a b : Value) (t : TypeId) : Rd (w.alloc (.cells #[a, b] t)) (w.heap.size + 1) (some ⟨w.heap.size, 0, none⟩) (1 * 2) [a, b] :=
  ⟨rfl, fun _ => ⟨_, rfl, Nat.lt_succ_self _, fun j u hu => by
    rw [Addr.add_lit, Nat.zero_add, (Blk.new w t #[a, b]).cell j]
    rw [← hu]
    simp⟩⟩
theorem wr_one (x : Int) (A : Option Addr) (n c : Nat) : ∀ u ∈ [Value.int .i64 x, .slice A n c], u.oneCell' = true := by
  intro u hu
  simp at hu
  rcases hu with rfl | rfl <;> rfl
theorem wipe_snoc (l : List Nat) (x : Nat) : wipe (l ++ [x]) = wipe l ++ [((x : Int), zeros 64)] := by simp [wipe]
theorem wipe_len (l : List Nat) : (wipe l).length = l.length := by simp [wipe]
/-- What holds between the rounds: the writes in their box; the disk's, the text's, the iterator's boxes. -/
structure ScI (w W : World) (bl bt Bt Bd z : Nat) (DC TC EC : Array Value) (l : List Wr) : Prop where
  lb : ∃ A c xs, Blk W bl 32 #[.slice A l.length c] ∧ OwnW W w.heap.size (.slice A l.length c) xs l
  db : Blk W w.heap.size 24 DC
  tb : Blk W bt 53 TC
  eb : Blk W Bt 3 EC
  ib : Blk W Bd 24 DC
  bel : Below w.heap.size w W
  sz : z ≤ W.heap.size
section
variable {w W W' : World} {bl bt Bt Bd z : Nat} {DC TC EC : Array Value} {l : List Wr}
theorem ScI.turned (h : ScI w W bl bt Bt Bd z DC TC EC l) {row : Option Nat} (hg : W.grownBy W' row) (hr : ∀ r, row = some r → w.heap.size ≤ r ∧ ∃ o : Obj, W.heap[r]? = some o ∧ o.isCells = false) : ScI w W' bl bt Bt Bd z DC TC EC l := by
  have hr' := fun r e => (hr r e).2
  obtain ⟨A, c, xs, h1, h2⟩ := h.lb
  exact ⟨⟨A, c, xs, blk_own h1 hg hr', h2.turned hg hr'⟩, blk_own h.db hg hr', blk_own h.tb hg hr', blk_own h.eb hg hr', blk_own h.ib hg hr', h.bel.grown hg h.bel.size (fun k e => (hr k e).1), Nat.le_trans h.sz hg.size⟩
theorem ScI.after (h : ScI w W bl bt Bt Bd z DC TC EC l) (hb : Below W.heap.size W W') : ScI w W' bl bt Bt Bd z DC TC EC l := by
  obtain ⟨A, c, xs, h1, h2⟩ := h.lb
  exact ⟨⟨A, c, xs, h1.below hb h1.lt, h2.below hb⟩, h.db.below hb h.db.lt, h.tb.below hb h.tb.lt, h.eb.below hb h.eb.lt, h.ib.below hb h.ib.lt, keepB hb h.bel, Nat.le_trans h.sz hb.size⟩
/-- A round: one write more. -/
theorem ScI.next {w9 : World} {A0 A9 : Option Addr} {c0 c9 : Nat} {xs : List Value} (x : Int) (h : ScI w W bl bt Bt Bd z DC TC EC l) (hbl : w.heap.size ≤ bl) (hlb : Blk W bl 32 #[.slice A0 l.length c0]) (hO : OwnW W w.heap.size (.slice A0 l.length c0) xs l)
    (hown9 : w9.ownsRow w.heap.size 60 2 (.slice A9 (l.length + 1) c9) (l.length + 1) (xs ++ [.int .i64 x, .slice (some ⟨W.heap.size, 0, none⟩) 64 64]))
    (hgr9 : ((W.drew.alloc (.cells z64 5)).alloc (.cells #[.int .i64 x, .slice (some ⟨W.heap.size, 0, none⟩) 64 64] 60)).grownBy w9 (Value.slice A0 l.length c0).ownBlock) :
    KeepsOthers W (w9.setCell ⟨bl, 0, none⟩ (.slice A9 (l.length + 1) c9)) ∧ KpD w.heap.size Bt Bd W (w9.setCell ⟨bl, 0, none⟩ (.slice A9 (l.length + 1) c9)) ∧ ScI w (w9.setCell ⟨bl, 0, none⟩ (.slice A9 (l.length + 1) c9)) bl bt Bt Bd z DC TC EC (l ++ [(x, zeros 64)]) := by
  have hl : (l ++ [(x, zeros 64)]).length = l.length + 1 := by simp
  have hws := h.bel.size
  have oY := (hO.drew.alloc (.cells z64 5)).alloc (.cells #[.int .i64 x, .slice (some ⟨W.heap.size, 0, none⟩) 64 64] 60)
  have far : ∀ {g : Nat} {t : TypeId} {cs : Array Value}, t ≠ 60 → Blk W g t cs → Blk w9 g t cs := fun {g t cs} hne hb =>
    blk_far hgr9 (((show Blk W.drew g t cs from hb).alloc _).alloc _) oY.outer (fun e => hne e.symm)
  have z1 : (W.drew.alloc (.cells z64 5)).ownsRow w.heap.size 5 1 (.slice (some ⟨W.heap.size, 0, none⟩) 64 64) (zeros 64).length (bvs (zeros 64)) := own_z64 W.drew w.heap.size hws
  have p9 := oY.push (x := (x, zeros 64)) (z1.alloc _) hown9 hgr9
  have b9 := far (by decide) hlb
  have hne : ∀ {g : Nat} {t : TypeId} {cs : Array Value}, t ≠ 32 → Blk W g t cs → g ≠ bl := fun hn hb => blk_ne hb hlb hn
  have hB1 : Below w.heap.size w ((W.drew.alloc (.cells z64 5)).alloc (.cells #[.int .i64 x, .slice (some ⟨W.heap.size, 0, none⟩) 64 64] 60)) := bel_al (bel_al (bel_dr h.bel))
  have hrow : ∀ k, (Value.slice A0 l.length c0).ownBlock = some k → w.heap.size ≤ k := fun k e => by obtain ⟨_, _, hh, _⟩ := own_block hO.outer e; exact hh
  have hB9 := hB1.grown hgr9 hB1.size hrow
  have hs9 : W.heap.size ≤ w9.heap.size := Nat.le_trans (by show W.drew.heap.size ≤ _; simp; omega) hgr9.size
  have kz : ∀ {g : Nat} {t : TypeId} {cs : Array Value}, t ≠ 60 → t ≠ 32 → Blk W g t cs → Blk (w9.setCell ⟨bl, 0, none⟩ (.slice A9 (l.length + 1) c9)) g t cs := fun h1 h2 hb => (far h1 hb).far (p := ⟨bl, 0, none⟩) (hne h2 hb) _
  have bW : Below w.heap.size W ((W.drew.alloc (.cells z64 5)).alloc (.cells #[.int .i64 x, .slice (some ⟨W.heap.size, 0, none⟩) 64 64] 60)) :=
    ((((Below.refl W.heap.size W).drew.alloc (Nat.le_refl _) _).alloc (by show W.drew.heap.size ≤ _; simp) _)).mono hws
  have bW9 : Below w.heap.size W w9 := bW.grown hgr9 (by have := bW.size; simp; show w.heap.size ≤ W.drew.heap.size + 1 + 1; have e : W.drew.heap.size = W.heap.size := rfl; omega) hrow
  refine ⟨?_, ⟨bW9.setCell (p := ⟨bl, 0, none⟩) hbl _, ?_, ?_⟩, ⟨⟨A9, c9, xs ++ [.int .i64 x, .slice (some ⟨W.heap.size, 0, none⟩) 64 64], ?_, ?_⟩, kz (by decide) (by decide) h.db, kz (by decide) (by decide) h.tb, kz (by decide) (by decide) h.eb, kz (by decide) (by decide) h.ib, hB9.setCell (p := ⟨bl, 0, none⟩) hbl _, by have := h.sz; simp; omega⟩⟩
  · refine KeepsOthers.trans (KeepsOthers.drew W) (KeepsOthers.trans (KeepsOthers.alloc _ _) (KeepsOthers.trans (KeepsOthers.alloc _ _) (KeepsOthers.trans (KeepsOthers.of_grownBy hgr9 (fun j o e ho => ?_)) (KeepsOthers.setCell _ _ _))))
    obtain ⟨cur, hh, _⟩ := own_block oY.outer e
    rw [hh] at ho
    injection ho with ho
    subst ho
    rfl
  · have h1 := kz (by decide) (by decide) h.eb
    have h2 := h.eb
    unfold Blk at h1 h2
    exact h1.trans h2.symm
  · have h1 := kz (by decide) (by decide) h.ib
    have h2 := h.ib
    unfold Blk at h1 h2
    exact h1.trans h2.symm
  · rw [hl]
    have := b9.set_ 0 (.slice A9 (l.length + 1) c9)
    simpa using this
  · rw [hl]
    exact p9.grownB (grown_setCell w9 ⟨bl, 0, none⟩ _) b9 (by decide) (by decide)
end
theorem blk_two (w : World) (o : Obj) (t : TypeId) (cs : Array Value) : Blk ((w.alloc o).alloc (.cells cs t)) (w.heap.size + 1) t cs := by
  have := Blk.new (w.alloc o) t cs
  simpa using this
/-- An iterator's three boxes. -/
theorem iter_boxes (w : World) (DC : Array Value) (a b : Int) :
    Blk (((w.alloc (.cells DC 24)).alloc (.cells #[.int .i64 a] 3)).alloc (.cells #[.int .i64 b] 3)) w.heap.size 24 DC ∧
    Blk (((w.alloc (.cells DC 24)).alloc (.cells #[.int .i64 a] 3)).alloc (.cells #[.int .i64 b] 3)) (w.heap.size + 1) 3 #[.int .i64 a] ∧
    Blk (((w.alloc (.cells DC 24)).alloc (.cells #[.int .i64 a] 3)).alloc (.cells #[.int .i64 b] 3)) (w.heap.size + 1 + 1) 3 #[.int .i64 b] ∧
    Below w.heap.size w (((w.alloc (.cells DC 24)).alloc (.cells #[.int .i64 a] 3)).alloc (.cells #[.int .i64 b] 3)) ∧
    (((w.alloc (.cells DC 24)).alloc (.cells #[.int .i64 a] 3)).alloc (.cells #[.int .i64 b] 3)).heap.size = w.heap.size + 3 := by
  refine ⟨((Blk.new w _ _).alloc _).alloc _, ?_, ?_, bel_al (bel_al (below_one w _)), by simp⟩
  · have := (Blk.new (w.alloc (.cells DC 24)) 3 #[.int .i64 a]).alloc (.cells #[.int .i64 b] 3)
    simpa using this
  · have := Blk.new ((w.alloc (.cells DC 24)).alloc (.cells #[.int .i64 a] 3)) 3 #[.int .i64 b]
    simpa using this
theorem kpd_turn {n₀ Bt Bd : Nat} {w : World} (hn : n₀ ≤ w.heap.size) (h1 : Bt < w.heap.size) (h2 : Bd < w.heap.size) (W : World) (l : Nat) (o o' : Obj) (hl : w.heap.size ≤ l) (hw : W.heap[l]? = some o) (hc : o.isCells = false) (hk : o.isWalk = false) : KpD n₀ Bt Bd W (W.putObj l o') := by
  have hlt := (Array.getElem?_eq_some_iff.1 hw).1
  exact ⟨belowK_b hn W l o o' hl hw hc hk, (grownBy_putObj' W l o').block _ (by omega) (by simp; omega), (grownBy_putObj' W l o').block _ (by omega) (by simp; omega)⟩
end Go.Proofs.YtgeofnemlijbgaaDoor
