/- Books as plain data. No program here. -/
import Derived.Test.YtkiijbbcfbkecaaWords
namespace Go.Proofs.Ytkiijbbcfbkecaa
open Go.RowKit

structure Ent where
  label : List UInt8
  value : List UInt8
  ver : Int
  ep : Int
  er : Bool
structure Bk where
  ents : List Ent
  eps : Int

def itemB (label value : List UInt8) (ver : Int) : Bool := decide (label.length ≤ 32) && decide (value.length ≤ 64) && decide (1 ≤ ver) && decide (ver ≤ 2147483647)
def cntL (l : List Ent) (lab : List UInt8) : Nat := l.countP fun o => decide (o.label = lab)
def cntE (l : List Ent) (ep : Int) : Nat := l.countP fun o => decide (o.ep = ep)
def lateB (e o : Ent) : Bool := decide (0 < e.ep) && (decide (o.ep = 0) || decide (e.ep < o.ep))
def mostN (ep : Int) : Nat := if ep = 0 then 8 else 4
def fitsB (e : Ent) (ah : List Ent) (eps : Int) : Bool :=
  itemB e.label e.value e.ver && decide (0 ≤ e.ep) && decide (e.ep ≤ eps) && !(e.er && (decide (0 < e.value.length) || decide (e.ep = 0))) && ah.all (fun o => !lateB e o) && decide (e.ver = cntL ah e.label + 1) && decide (cntE ah e.ep < mostN e.ep)
def fitsAt (l : List Ent) (eps : Int) (i : Nat) : Bool := match l[i]? with
  | some e => fitsB e (l.take i) eps
  | none => true
def checkBk (b : Bk) : Bool := decide (0 ≤ b.eps) && decide (b.eps ≤ 16) && decide (b.ents.length ≤ 72) && (List.range b.ents.length).all (fitsAt b.ents b.eps)

theorem cntL_snoc (l : List Ent) (x : Ent) (lab : List UInt8) : cntL (l ++ [x]) lab = cntL l lab + if x.label = lab then 1 else 0 := by
  unfold cntL
  rw [List.countP_append]
  by_cases h : x.label = lab <;> simp [h]
theorem cntE_snoc (l : List Ent) (x : Ent) (ep : Int) : cntE (l ++ [x]) ep = cntE l ep + if x.ep = ep then 1 else 0 := by
  unfold cntE
  rw [List.countP_append]
  by_cases h : x.ep = ep <;> simp [h]
theorem cntL_le (l : List Ent) (lab : List UInt8) : cntL l lab ≤ l.length := List.countP_le_length
theorem cntE_le (l : List Ent) (ep : Int) : cntE l ep ≤ l.length := List.countP_le_length
theorem take_snoc_of {α : Type} {l : List α} {k : Nat} {x : α} (h : l[k]? = some x) : l.take (k + 1) = l.take k ++ [x] := by
  rw [List.take_add_one, h]
  rfl
end Go.Proofs.Ytkiijbbcfbkecaa
