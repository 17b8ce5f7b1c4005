/- What a source that is a row, or a window over another, will bring. No program in sight. -/
import Derived.Test.YtpbmnjmagdacbaaVt
namespace Go.Eng
open Go

/-- States of sources. -/
inductive SS where
  | row (l : List VT) (e : Int)
  | lim (n : Int) (s : SS)
  | skp (n : Int) (s : SS)
  | cnt (name : ByteArray) (m : Int) (s : SS)
  | dead

/-- A number in a document. -/
def countDoc (name : ByteArray) (n : Int) : VT := .mk 6 0 ⟨#[]⟩ [] [(name, .mk 3 n ⟨#[]⟩ [] [] [])] []

/-- What it brings, and the error behind it. -/
def SS.out : SS → List VT × Int
  | .row l e => (l, e)
  | .lim n s => (s.out.1.take n.toNat, if n.toNat ≤ s.out.1.length then 0 else s.out.2)
  | .skp n s => (s.out.1.drop n.toNat, s.out.2)
  | .cnt name m s => if s.out.2 = 0 then (if 0 < m + s.out.1.length then ([countDoc name (m + s.out.1.length)], 0) else ([], 0)) else ([], s.out.2)
  | .dead => ([], 0)

theorem out_row (l : List VT) (e : Int) : (SS.row l e).out = (l, e) := rfl
theorem out_lim {s : SS} {xs : List VT} {e : Int} (n : Int) (h : s.out = (xs, e)) : (SS.lim n s).out = (xs.take n.toNat, if n.toNat ≤ xs.length then 0 else e) := by
  show (s.out.1.take n.toNat, if n.toNat ≤ s.out.1.length then 0 else s.out.2) = _
  rw [h]
theorem out_skp {s : SS} {xs : List VT} {e : Int} (n : Int) (h : s.out = (xs, e)) : (SS.skp n s).out = (xs.drop n.toNat, e) := by
  show (s.out.1.drop n.toNat, s.out.2) = _
  rw [h]
theorem out_cnt {s : SS} {xs : List VT} {e : Int} (nm : ByteArray) (m : Int) (h : s.out = (xs, e)) :
    (SS.cnt nm m s).out = if e = 0 then (if 0 < m + xs.length then ([countDoc nm (m + xs.length)], 0) else ([], 0)) else ([], e) := by
  show (if s.out.2 = 0 then (if 0 < m + s.out.1.length then ([countDoc nm (m + s.out.1.length)], 0) else ([], 0)) else ([], s.out.2)) = _
  rw [h]

/-- How many windows lie behind one another. -/
def SS.rank : SS → Nat
  | .lim _ s => s.rank + 1
  | .skp _ s => s.rank + 1
  | .cnt _ _ s => s.rank + 1
  | _ => 0

end Go.Eng
