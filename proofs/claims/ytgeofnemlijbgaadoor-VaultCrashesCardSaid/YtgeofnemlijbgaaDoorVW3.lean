/- limitless; contracts for disks in memory of the call's own. -/
import Derived.Test.YtgeofnemlijbgaaDoorVW2
import Derived.Test.YtgeofnemlijbgaaDoorVO0
namespace Go.Proofs.YtgeofnemlijbgaaDoor
open Go.RowKit
set_option linter.unusedVariables false
set_option linter.unusedSimpArgs false

set_option maxRecDepth 100000 in
set_option maxHeartbeats 1000000 in
theorem limless_any (A : Option Addr) (c : Nat) (d : Dsk) (w : World) :
    Calls Tryd.prog 32 #[dvD A c d] w fun e w' => e = .returned (dvD A c (noLim d)) ∧ Below w.heap.size w w' := by
  obtain ⟨ss, left, torn, off, done⟩ := d
  go_enter Tryd.func32, Tryd.ntmps32
  go_wp2
  refine bodyPost_ret (v := dv A ss.length c left 0 off 0) (by simp [results, Tryd.results32, go_sem]) rfl ?_
  exact ⟨rfl, below_two w _ _⟩

section
variable {A : Option Addr} {c b base : Nat} {d x : Dsk} {vs : List Value} {w : World} {At : Option Addr} {ct : Nat} {t : List UInt8}
theorem own_args (h : OwnS w base (.slice A d.secs.length c) vs d.secs) : Bss w w.heap.size A d.secs.length d.secs ∧ d.secs.length ≤ c ∧ c ≤ maxLen := by
  obtain ⟨_, _, e4, f1, f2⟩ := h.form
  injection e4 with ea _ ec
  subst ea
  subst ec
  exact ⟨h.bss, f1, f2⟩
theorem save_w {e : Int} (hr : saveD d t = (x, e)) (h : OwnS w base (.slice A d.secs.length c) vs d.secs) (hs : Sm d.secs) (hli : d.left ≤ 9223372036854775807) (ht : Rd w w.heap.size At t.length (bvs t)) (htc : t.length ≤ ct) (htl : t.length ≤ 5000) : Calls Tryd.prog 12 #[dvD A c d, .slice At t.length ct] w (DRet w x fun v => .tuple #[v, .int .i64 e]) := by
  obtain ⟨h0, h1, h2⟩ := own_args h
  have := save_any A c d At ct t w h0 h1 h2 hs hli ht htc (by omega); rw [hr] at this; exact this
theorem scrub_w {r : List Wr × Int} (hr : scrubD d = r) (h : OwnS w base (.slice A d.secs.length c) vs d.secs) (hs : Sm d.secs) : Calls Tryd.prog 14 #[dvD A c d] w (WRet w r) := by
  obtain ⟨h0, h1, h2⟩ := own_args h
  rw [← hr]; exact scrub_any A c d w h0 h1 h2 hs
theorem lim_w {l t : Int} (hr : limD d l t = x) (h : OwnS w base (.slice A d.secs.length c) vs d.secs) (hs : Sm d.secs) : Calls Tryd.prog 30 #[dvD A c d, .int .i64 l, .int .i64 t] w (DRet w x id) := by
  rw [← hr]; exact limit_any A c d l t w (own_args h).1 hs
theorem do_w {l : List Wr} {e : Int} {Al : Option Addr} {cl : Nat} (hr : doD d l = (x, e)) (h : OwnS w base (.slice A d.secs.length c) vs d.secs) (hs : Sm d.secs) (hl : Wrs w w.heap.size Al l.length l) (hcl : l.length ≤ 10000) (hli : d.left ≤ 9223372036854775807) : Calls Tryd.prog 31 #[dvD A c d, .slice Al l.length cl] w (DRet w x fun v => .tuple #[v, .int .i64 e]) := by
  have := do_any A c d Al l.length cl l w (own_args h).1 hs hl hcl hli; rw [hr] at this; exact this
end
theorem conv_s {l : List UInt8} {S : ByteArray} (hS : S = ⟨l.toArray⟩) (w' : World) (B : Nat) (A' : Option Addr) (c' : Nat) (h : Rd w' B A' l.length (bvs l)) : (convert 25 9 (.slice A' l.length c')).run Tryd.prog w' = .ok (.string S) w' := by
  rw [hS]; exact conv_rd h c'
theorem rec_ck {a : Dsk} (h : checkB a.secs = true) : checkB (recD a).1.secs = true := by
  have h' : checkB (onD a).secs = true := h
  unfold recD
  rw [h, if_pos rfl]
  split
  · exact doD_check _ h'
  · exact h'
theorem str_not {l m : List UInt8} {S Z : ByteArray} (hS : S = ⟨l.toArray⟩) (hZ : Z = ⟨m.toArray⟩) (h : ¬ l = m) : (S.toList == Z.toList) = false ∧ ¬ S.toList = Z.toList := by
  have h1 : ¬ S.toList = Z.toList := by rw [hS, hZ]; simpa using h
  exact ⟨by simpa using h1, h1⟩
/-- The walk's facts where the save was cut off and there is a text. -/
theorem crash_facts {t was tt : List UInt8} {n e k : Int} {S Sw St : ByteArray} (hS : S = ⟨t.toArray⟩) (hSw : Sw = ⟨was.toArray⟩) (hSt : St = ⟨tt.toArray⟩) (hle : e = 0 ∨ e = 181)
    (h : (tt = t ∧ ((e = 0 ∧ k = n + 1) ∨ (e = 181 ∧ k = 0))) ∨ (e = 0 ∧ tt = was ∧ k = n)) :
    ∃ ob fb : Bool, (ob = true ∨ (ob = false ∧ fb = true)) ∧
      ((e = 181 ∧ St = S ∧ k = 0 ∧ ob = false ∧ fb = true) ∨
       (e = 0 ∧ St = S ∧ Sw = S ∧ k = n + 1 ∧ ob = false ∧ fb = true) ∨
       (e = 0 ∧ St = S ∧ k = n + 1 ∧ ob = false ∧ fb = true ∧ (S.toList == Sw.toList) = false ∧ ¬ S.toList = Sw.toList) ∨
       (e = 0 ∧ St = S ∧ Sw = S ∧ k = n ∧ ob = true ∧ fb = false) ∨
       (e = 0 ∧ St = Sw ∧ k = n ∧ ob = true ∧ fb = false ∧ (Sw.toList == S.toList) = false ∧ ¬ Sw.toList = S.toList)) := by
  by_cases hw : was = t
  · have hws : Sw = S := by rw [hSw, hS, hw]
    rcases h with ⟨h1, ⟨h2, h3⟩ | ⟨h2, h3⟩⟩ | ⟨h1, h2, h3⟩
    · exact ⟨false, true, .inr ⟨rfl, rfl⟩, .inr (.inl ⟨h2, by rw [hSt, h1, hS], hws, h3, rfl, rfl⟩)⟩
    · exact ⟨false, true, .inr ⟨rfl, rfl⟩, .inl ⟨h2, by rw [hSt, h1, hS], h3, rfl, rfl⟩⟩
    · exact ⟨true, false, .inl rfl, .inr (.inr (.inr (.inl ⟨h1, by rw [hSt, h2, hw, hS], hws, h3, rfl, rfl⟩)))⟩
  · rcases h with ⟨h1, ⟨h2, h3⟩ | ⟨h2, h3⟩⟩ | ⟨h1, h2, h3⟩
    · obtain ⟨a1, a2⟩ := str_not hS hSw (fun h => hw h.symm)
      exact ⟨false, true, .inr ⟨rfl, rfl⟩, .inr (.inr (.inl ⟨h2, by rw [hSt, h1, hS], h3, rfl, rfl, a1, a2⟩))⟩
    · exact ⟨false, true, .inr ⟨rfl, rfl⟩, .inl ⟨h2, by rw [hSt, h1, hS], h3, rfl, rfl⟩⟩
    · obtain ⟨a1, a2⟩ := str_not hSw hS hw
      exact ⟨true, false, .inl rfl, .inr (.inr (.inr (.inr ⟨h1, by rw [hSt, h2, hSw], h3, rfl, rfl, a1, a2⟩)))⟩
end Go.Proofs.YtgeofnemlijbgaaDoor
