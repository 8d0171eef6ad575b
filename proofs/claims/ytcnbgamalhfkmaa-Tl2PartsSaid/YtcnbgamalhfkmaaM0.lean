/- tl2, the plain model: what an engine has, and what each of its methods does. -/
namespace Go.Proofs.Ytcnbgamalhfkmaa.P
/-- A map of ints: its entries, the keys rising. -/
abbrev Mp := List (Int × Int)
def insM (x : Int × Int) : Mp → Mp
  | [] => [x]
  | y :: r => if x.1 < y.1 then x :: y :: r else y :: insM x r
def putM (m : Mp) (k v : Int) : Mp := insM (k, v) (m.filter fun p => p.1 != k)
def getM (m : Mp) (k : Int) : Option Int := (m.find? fun p => p.1 == k).map (·.2)
/-- All of q is written into p. -/
def copyM (p q : Mp) : Mp := q.foldl (fun m e => putM m e.1 e.2) p
structure PVar where
  value : Int
  version : Int
  lock : Int
structure PTx where
  start : Int
  stamp : Int
  reads : List Int
  parts : List Mp
  commits : Bool
  pointed : Bool
  left : List Int
structure PEng where
  clock : Int
  vars : List PVar
  txs : List (Option PTx)
def newE : PEng := ⟨0, [], List.replicate 8 none⟩
def inT (t : Int) : Bool := decide (0 ≤ t) && decide (t < 8)
def ofE (s : PEng) (t : Int) : Option PTx := if inT t then (s.txs.getD t.toNat none) else none
def openE (s : PEng) (t : Int) : Option PTx := (ofE s t).bind fun x => if x.commits then none else some x
def isE (s : PEng) (n : Int) : Bool := decide (0 ≤ n) && decide (n < s.vars.length)
def zV : PVar := ⟨0, 0, 0⟩
def setTx (s : PEng) (t : Int) (x : Option PTx) : PEng := { s with txs := s.txs.set t.toNat x }
def setVar (s : PEng) (n : Int) (v : PVar) : PEng := { s with vars := s.vars.set n.toNat v }
def varE (s : PEng) (n : Int) : PVar := s.vars.getD n.toNat zV
def makeE (s : PEng) (v : Int) : Int × Int × PEng := if 4000 ≤ s.vars.length then (0, 16, s) else (s.vars.length, 0, { s with vars := s.vars ++ [⟨v, 0, -1⟩] })
def beginE (s : PEng) (t : Int) : Int × PEng := if !inT t || (ofE s t).isSome then (1, s) else (0, setTx s t (some ⟨s.clock, 0, [], [[]], false, false, []⟩))
def lookE (s : PEng) (t : Int) (start n : Int) : Int :=
  let v := varE s n
  if v.lock != -1 && v.lock != t then 32 else if start < v.version then 33 else 0
def hitM (parts : List Mp) (n : Int) : Option Int := parts.reverse.findSome? fun p => getM p n
def readE (s : PEng) (t n : Int) : Int × Int × PEng :=
  match openE s t with
  | none => (0, 1, s)
  | some x =>
    if !isE s n then (0, 1, s) else
    match hitM x.parts n with
    | some v => (v, 0, s)
    | none =>
      let f := lookE s t x.start n
      if f != 0 then (0, f, s) else
      ((varE s n).value, 0, if x.reads.contains n then s else setTx s t (some { x with reads := x.reads ++ [n] }))
def writeE (s : PEng) (t n v : Int) : Int × PEng :=
  match openE s t with
  | none => (1, s)
  | some x => if !isE s n then (1, s) else (0, setTx s t (some { x with parts := x.parts.dropLast ++ [putM (x.parts.getLastD []) n v] }))
def partE (s : PEng) (t : Int) : Int × PEng :=
  match openE s t with
  | none => (1, s)
  | some x => (0, setTx s t (some { x with parts := x.parts ++ [[]] }))
def shutE (s : PEng) (t : Int) (keep : Bool) : Int × PEng :=
  match openE s t with
  | none => (1, s)
  | some x =>
    if x.parts.length < 2 then (1, s) else
    let p := x.parts.getLastD []
    let r := x.parts.dropLast
    (0, setTx s t (some { x with parts := if keep then r.dropLast ++ [copyM (r.getLastD []) p] else r }))
/-- Is what was read so still? -/
def validL (s : PEng) (t start : Int) : List Int → Int
  | [] => 0
  | n :: r => let f := lookE s t start n; if f != 0 then f else validL s t start r
def validE (s : PEng) (t : Int) : Int := match openE s t with | none => 1 | some x => validL s t x.start x.reads
/-- The first var that is not locked by t: its place and lock. -/
def lockL (s : PEng) (t : Int) : List Int → Option Int
  | [] => none
  | n :: r => if (varE s n).lock == t then lockL s t r else some n
def stepE (s : PEng) (t : Int) : Int × Int × PEng :=
  match ofE s t with
  | none => (0, 1, s)
  | some x =>
    if 1 < x.parts.length then (0, 1, s) else
    let x1 := { x with commits := true }
    let s1 := setTx s t (some x1)
    let p := x.parts.getD 0 []
    let all := p.map (·.1)
    if x.pointed then
      match x.left with
      | [] => (0, 0, s1)
      | n :: r =>
        let s2 := setVar s1 n ⟨(getM p n).getD 0, x.stamp, -1⟩
        if r.isEmpty then (4, 0, setTx s2 t none) else (3, 0, setTx s2 t (some { x1 with left := r }))
    else
      match lockL s t all with
      | some n => if (varE s n).lock == -1 then (1, 0, setVar s1 n { varE s n with lock := t }) else (0, 32, s1)
      | none =>
        let f := validL s t x.start x.reads
        if f != 0 then (0, f, s1) else
        if all.isEmpty then (4, 0, setTx s1 t none) else
        (2, 0, { setTx s1 t (some { x1 with pointed := true, stamp := s.clock + 1, left := all }) with clock := s.clock + 1 })
def abortE (s : PEng) (t : Int) : Int × PEng :=
  match ofE s t with
  | none => (1, s)
  | some x => if x.pointed then (1, s) else (0, setTx { s with vars := s.vars.map fun v => if v.lock == t then { v with lock := -1 } else v } t none)
def wordsE (s : PEng) : List Int := s.vars.map (·.value) ++ s.txs.flatMap fun o => match o with | none => [] | some x => x.parts.flatMap fun p => p.map (·.2)
end Go.Proofs.Ytcnbgamalhfkmaa.P
