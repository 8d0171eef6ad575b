/- tl2, the plain model: what an engine has, and what each of its methods does. tl2: maps of ints in memory; rows of flat elements. tl2: an engine in memory; each block has a role. tl2: New, of, open, is. tl2: what a method leaves; Make. tl2: Begin. tl2: rows read at a place; Active, Clock, Start, Value, Newer, look, last. -/
import Derived.Test.YtcnbgamalhfkmaaProg
import Derived.Below
import Derived.Deep.Draws
import Derived.Deep.AppendLies
import Derived.Maps.AppendAt
import Derived.OwnWalk
import Derived.Laws.BytesArg
import Derived.Laws.MakeOwn
import Derived.Laws.OwnMore
import Derived.Deep.OwnRows
import Derived.Tactics
import Derived.Lib.ConvBytes
import Derived.Laws.Slices
import Derived.WalkKit
import Derived.KernelRfl
import Derived.RowKit3
import Derived.Deep.LoopGhost
import Derived.Deep.QuietTactic
import Derived.BigQuiet
import Derived.WideLaws
import Derived.Deep.DeepCutAuto
import Derived.Deep.CutBlock
import Derived.Deep.RegionHeld3
import Derived.Laws.Rows
import Derived.Lib.AppendStr
import Derived.ArgAppend
import Derived.Laws.IdiomCopy
import Derived.OrdersHeld
import Derived.Laws.BitsLemmas
import Derived.RowKit
import Derived.Test.YtcnbgamalhfkmaaWWords
import Derived.Test.YtcnbgamalhfkmaaWLast
import Derived.Test.YtcnbgamalhfkmaaWTab
import Derived.Test.YtcnbgamalhfkmaaWFour
import Derived.Test.YtcnbgamalhfkmaaWQPut
import Derived.Test.YtcnbgamalhfkmaaWApart
import Derived.Test.YtcnbgamalhfkmaaWArr
import Derived.Test.YtcnbgamalhfkmaaWZeros
import Derived.Test.YtcnbgamalhfkmaaWFoot
import Derived.Test.YtcnbgamalhfkmaaWKept
import Derived.Test.YtcnbgamalhfkmaaWShare
import Derived.Test.YtcnbgamalhfkmaaWN
import Derived.Test.YtcnbgamalhfkmaaWFootNe
import Derived.Test.YtcnbgamalhfkmaaWAt
import Derived.Test.YtcnbgamalhfkmaaWEqStruct
import Derived.Test.YtcnbgamalhfkmaaWRepsOne
import Derived.Test.YtcnbgamalhfkmaaWInv
import Derived.Test.YtcnbgamalhfkmaaWInvWords
import Derived.Test.YtcnbgamalhfkmaaWGuard
import Derived.Test.YtcnbgamalhfkmaaWNEv
import Derived.Test.YtcnbgamalhfkmaaWMore
import Derived.Maps.OwnSet
import Derived.Shelf.Abstract
import Derived.StillTailTactics
import Derived.Deep.RegionLawGrows
import Derived.WalkSpells
import Derived.IntWalk
namespace Go.Proofs.Ytcnbgamalhfkmaa.P
/-- A map of ints: its entries, the keys rising. -/
abbrev Mp := List (Int × Int)
def insM (x : Int × Int) : Mp → Mp
  | [] => [x]
  | y :: r => if x.1 < y.1 then x :: y :: r else y :: insM x r
def putM (m : Mp) (k v : Int) : Mp := insM (k, v) (m.filter fun p => p.1 != k)
def getM (m : Mp) (k : Int) : Option Int := (m.find? fun p => p.1 == k).map (·.2)
/-- All of q is written into p. -/
def copyM (p q : Mp) : Mp := q.foldl (fun m e => putM m e.1 e.2) p
structure PVar where
  value : Int
  version : Int
  lock : Int
structure PTx where
  start : Int
  stamp : Int
  reads : List Int
  parts : List Mp
  commits : Bool
  pointed : Bool
  left : List Int
structure PEng where
  clock : Int
  vars : List PVar
  txs : List (Option PTx)
def newE : PEng := ⟨0, [], List.replicate 8 none⟩
def inT (t : Int) : Bool := decide (0 ≤ t) && decide (t < 8)
def ofE (s : PEng) (t : Int) : Option PTx := if inT t then (s.txs.getD t.toNat none) else none
def openE (s : PEng) (t : Int) : Option PTx := (ofE s t).bind fun x => if x.commits then none else some x
def isE (s : PEng) (n : Int) : Bool := decide (0 ≤ n) && decide (n < s.vars.length)
def zV : PVar := ⟨0, 0, 0⟩
def setTx (s : PEng) (t : Int) (x : Option PTx) : PEng := { s with txs := s.txs.set t.toNat x }
def setVar (s : PEng) (n : Int) (v : PVar) : PEng := { s with vars := s.vars.set n.toNat v }
def varE (s : PEng) (n : Int) : PVar := s.vars.getD n.toNat zV
def makeE (s : PEng) (v : Int) : Int × Int × PEng := if 4000 ≤ s.vars.length then (0, 16, s) else (s.vars.length, 0, { s with vars := s.vars ++ [⟨v, 0, -1⟩] })
def beginE (s : PEng) (t : Int) : Int × PEng := if !inT t || (ofE s t).isSome then (1, s) else (0, setTx s t (some ⟨s.clock, 0, [], [[]], false, false, []⟩))
def lookE (s : PEng) (t : Int) (start n : Int) : Int :=
  let v := varE s n
  if v.lock != -1 && v.lock != t then 32 else if start < v.version then 33 else 0
def hitM (parts : List Mp) (n : Int) : Option Int := parts.reverse.findSome? fun p => getM p n
def readE (s : PEng) (t n : Int) : Int × Int × PEng :=
  match openE s t with
  | none => (0, 1, s)
  | some x =>
    if !isE s n then (0, 1, s) else
    match hitM x.parts n with
    | some v => (v, 0, s)
    | none =>
      let f := lookE s t x.start n
      if f != 0 then (0, f, s) else
      ((varE s n).value, 0, if x.reads.contains n then s else setTx s t (some { x with reads := x.reads ++ [n] }))
def writeE (s : PEng) (t n v : Int) : Int × PEng :=
  match openE s t with
  | none => (1, s)
  | some x => if !isE s n then (1, s) else (0, setTx s t (some { x with parts := x.parts.dropLast ++ [putM (x.parts.getLastD []) n v] }))
def partE (s : PEng) (t : Int) : Int × PEng :=
  match openE s t with
  | none => (1, s)
  | some x => (0, setTx s t (some { x with parts := x.parts ++ [[]] }))
def shutE (s : PEng) (t : Int) (keep : Bool) : Int × PEng :=
  match openE s t with
  | none => (1, s)
  | some x =>
    if x.parts.length < 2 then (1, s) else
    let p := x.parts.getLastD []
    let r := x.parts.dropLast
    (0, setTx s t (some { x with parts := if keep then r.dropLast ++ [copyM (r.getLastD []) p] else r }))
/-- Is what was read so still? -/
def validL (s : PEng) (t start : Int) : List Int → Int
  | [] => 0
  | n :: r => let f := lookE s t start n; if f != 0 then f else validL s t start r
def validE (s : PEng) (t : Int) : Int := match openE s t with | none => 1 | some x => validL s t x.start x.reads
/-- The first var that is not locked by t: its place and lock. -/
def lockL (s : PEng) (t : Int) : List Int → Option Int
  | [] => none
  | n :: r => if (varE s n).lock == t then lockL s t r else some n
def stepE (s : PEng) (t : Int) : Int × Int × PEng :=
  match ofE s t with
  | none => (0, 1, s)
  | some x =>
    if 1 < x.parts.length then (0, 1, s) else
    let x1 := { x with commits := true }
    let s1 := setTx s t (some x1)
    let p := x.parts.getD 0 []
    let all := p.map (·.1)
    if x.pointed then
      match x.left with
      | [] => (0, 0, s1)
      | n :: r =>
        let s2 := setVar s1 n ⟨(getM p n).getD 0, x.stamp, -1⟩
        if r.isEmpty then (4, 0, setTx s2 t none) else (3, 0, setTx s2 t (some { x1 with left := r }))
    else
      match lockL s t all with
      | some n => if (varE s n).lock == -1 then (1, 0, setVar s1 n { varE s n with lock := t }) else (0, 32, s1)
      | none =>
        let f := validL s t x.start x.reads
        if f != 0 then (0, f, s1) else
        if all.isEmpty then (4, 0, setTx s1 t none) else
        (2, 0, { setTx s1 t (some { x1 with pointed := true, stamp := s.clock + 1, left := all }) with clock := s.clock + 1 })
def abortE (s : PEng) (t : Int) : Int × PEng :=
  match ofE s t with
  | none => (1, s)
  | some x => if x.pointed then (1, s) else (0, setTx { s with vars := s.vars.map fun v => if v.lock == t then { v with lock := -1 } else v } t none)
def wordsE (s : PEng) : List Int := s.vars.map (·.value) ++ s.txs.flatMap fun o => match o with | none => [] | some x => x.parts.flatMap fun p => p.map (·.2)
end Go.Proofs.Ytcnbgamalhfkmaa.P
namespace Go.Proofs.Ytcnbgamalhfkmaa.P
open Go.RowKit Go.Proofs.YtcnbgamalhfkmaaW.PrintWords Go.Proofs.YtcnbgamalhfkmaaW.PrintLast Go.Proofs.YtcnbgamalhfkmaaW.PrintMore
set_option linter.unusedVariables false
set_option linter.unusedSimpArgs false
open Go.WideShapes Go.Maps

/-! maps -/
def keyL (k : Int) : Lit := .int .i64 k
def toD (m : Mp) : DataW Unit := .map (m.map fun e => (keyL e.1, .lit (keyL e.2)))
theorem before_key (a b : Int) : (keyL a).before (keyL b) = decide (a < b) := rfl
theorem same_key (a b : Int) : (keyL a).sameKey (keyL b) = (a == b) := by
  unfold keyL Lit.sameKey
  by_cases h : a = b <;> simp [h]
theorem insert_toD (x : Int × Int) : ∀ m : Mp, DataW.insert (keyL x.1, (.lit (keyL x.2) : DataW Unit)) (m.map fun e => (keyL e.1, .lit (keyL e.2))) = (insM x m).map fun e => (keyL e.1, .lit (keyL e.2))
  | [] => rfl
  | y :: r => by
    simp only [List.map_cons, DataW.insert, insM, before_key, decide_eq_true_eq]
    split
    · rfl
    · rw [insert_toD x r]; rfl
theorem put_toD (m : Mp) (k v : Int) : (toD m).put (keyL k) (.lit (keyL v)) = toD (putM m k v) := by
  unfold toD DataW.put putM
  simp only
  rw [← insert_toD (k, v), List.filter_map]
  congr 2
  refine congrArg _ (List.filter_congr fun p hp => ?_)
  simp [same_key, bne]
theorem find_toD (m : Mp) (k : Int) : (m.map fun e => (keyL e.1, (.lit (keyL e.2) : DataW Unit))).find? (fun p => p.1.sameKey (keyL k)) = (m.find? fun p => p.1 == k).map fun e => (keyL e.1, .lit (keyL e.2)) := by
  rw [List.find?_map]
  congr 2
  funext p
  simp [same_key]
theorem at_toD (m : Mp) (k : Int) : (toD m).atKey (keyL k) (.lit (keyL 0)) = .lit (keyL ((getM m k).getD 0)) := by
  unfold toD DataW.atKey getM
  simp only
  rw [find_toD]
  cases m.find? fun p => p.1 == k <;> rfl
theorem has_toD (m : Mp) (k : Int) : Maps.has (toD m) (keyL k) = (getM m k).isSome := by
  unfold toD getM
  rw [Maps.has_eq, List.any_map]
  cases h : m.find? fun p => p.1 == k with
  | none =>
    rw [List.find?_eq_none] at h
    simp only [Option.map_none, Option.isSome_none, List.any_eq_false, Function.comp, same_key]
    exact h
  | some p =>
    simp only [Option.map_some, Option.isSome_some, List.any_eq_true, Function.comp, same_key]
    exact ⟨p, List.mem_of_find?_eq_some h, by simpa using List.find?_some h⟩
/-- Block b is the map m. -/
def MapAt (w : World) (b : Nat) (m : Mp) : Prop := w.ownsMap Try.prog 3 (plainElem Try.prog 3) b m.length (toD m)
theorem MapAt.of {w : World} {b n : Nat} {m : Mp} (h : w.ownsMap Try.prog 3 (plainElem Try.prog 3) b n (toD m)) : MapAt w b m := by
  obtain ⟨es, clock, hb, F, hs, hD⟩ := h
  refine ⟨es, clock, hb, F, ?_, hD⟩
  have h1 : (toD m : DataW Unit) = .map ((es.toList.map (WideElems.rg Try.prog 3 (plainElem Try.prog 3))).foldr DataW.insert []) := hD
  unfold toD at h1
  have h2 := congrArg List.length (DataW.map.inj h1)
  rw [List.length_map, length_sorted, List.length_map] at h2
  have h3 : es.toList.length = es.size := Array.length_toList
  omega
theorem MapAt.lt {w : World} {b : Nat} {m : Mp} (h : MapAt w b m) : b < w.heap.size := World.ownsMap.lt h
theorem MapAt.move {w w1 : World} {b : Nat} {m : Mp} (h : MapAt w b m) (hb : w1.heap[b]? = w.heap[b]?) : MapAt w1 b m := by
  obtain ⟨es, clock, hh, F, hs, hD⟩ := h
  exact ⟨es, clock, hb.trans hh, F, hs, hD⟩
theorem MapAt.made (w : World) : MapAt (w.alloc (.map #[] 0)) w.heap.size [] := World.ownsMap_made w _ _ _
theorem lawM : Go.Maps.Keyed Try.prog 3 := Go.Maps.int_keyed Try.underlying3
theorem zeroM (w : World) : (zeroValue 3).run Try.prog w = .ok (.int .i64 0) w := by kernel_rfl
def in64 (x : Int) : Prop := -9223372036854775808 ≤ x ∧ x ≤ 9223372036854775807
theorem in64_wf {x : Int} (h : in64 x) : (Lit.int .i64 x).wf = true := WalkArith.wf_i64 h
theorem key_in {x : Int} (h : in64 x) : keyOf Try.prog 3 (.int .i64 x) = some (keyL x) := Go.Maps.keyOf_int_mk Try.underlying3 (in64_wf h)
end Go.Proofs.Ytcnbgamalhfkmaa.P
namespace Go.Proofs.Ytcnbgamalhfkmaa.P
open Go.RowKit Go.Proofs.YtcnbgamalhfkmaaW.PrintWords Go.Proofs.YtcnbgamalhfkmaaW.PrintLast Go.Proofs.YtcnbgamalhfkmaaW.PrintMore
set_option linter.unusedVariables false
set_option linter.unusedSimpArgs false
open Go.WideShapes Go.Maps

def FlatK {α : Type} (d : Kd α) : Prop := ∀ (w w' : World) (x : α) (cs : List Value), d.K w x cs → d.K w' x cs
theorem N_flat {α : Type} {d : Kd α} (hd : FlatK d) {e base : Nat} {w : World} {ok ok' : Nat → Prop} {v : Value} {xs : List α} (h : Kd.N d e w base ok v xs) (hok : ∀ k, v.ownBlock = some k → ok' k) : Kd.N d e w base ok' v xs := by
  obtain ⟨h0, rows, hl, hR, hf⟩ := h
  exact ⟨hok, rows, hl, hR, fun j x c hx hc W' _ => hd _ _ _ _ (Kd.FK_now (hf j x c hx hc))⟩
theorem N_flat_move {α : Type} {d : Kd α} (hd : FlatK d) {e base : Nat} {w w1 : World} {ok : Nat → Prop} {v : Value} {xs : List α} (h : Kd.N d e w base ok v xs) (hm : ∀ k, v.ownBlock = some k → w1.heap[k]? = w.heap[k]?) : Kd.N d e w1 base ok v xs :=
  N_flat hd (Kd.N_step (N_flat hd h (ok' := fun k => v.ownBlock = some k) (fun k hk => hk)) (fun k hk _ => hm k hk)) (fun k hk => h.1 k hk)
abbrev kI : Kd Int := Kd.int .i64
def kV : Kd PVar := Kd.iso (Kd.pair (Kd.int .i64) (Kd.pair (Kd.int .i64) (Kd.int .i64))) (fun x : PVar => (x.value, x.version, x.lock))
def kP : Kd Nat := Kd.scalar (fun b => .map (some b)) (fun _ => rfl)
theorem kI_flat : FlatK kI := fun _ _ _ _ h => h
theorem kP_flat : FlatK kP := fun _ _ _ _ h => h
theorem kV_open {w : World} {x : PVar} {cs : List Value} (h : kV.K w x cs) : cs = [.int .i64 x.value, .int .i64 x.version, .int .i64 x.lock] := by
  obtain ⟨_, _, rfl, rfl, ⟨_, _, rfl, rfl, rfl⟩⟩ := h
  exact rfl
theorem kV_mk (w : World) (x : PVar) : kV.K w x [.int .i64 x.value, .int .i64 x.version, .int .i64 x.lock] := ⟨[_], [_, _], rfl, rfl, ⟨[_], [_], rfl, rfl, rfl⟩⟩
theorem kV_flat : FlatK kV := fun w w' x cs h => by rw [kV_open h]; exact kV_mk w' x
theorem info92 : (Try.prog.info? 92).map (fun i => (i.zero, i.size, i.bytes)) = some (some (.agg #[.int .i64 0, .int .i64 0, .int .i64 0]), 3, 24) := by kernel_rfl
theorem info3 : (Try.prog.info? 3).map (fun i => (i.zero, i.size, i.bytes)) = some (some (.int .i64 0), 1, 8) := by kernel_rfl
theorem info78 : (Try.prog.info? 78).map (fun i => (i.zero, i.size, i.bytes)) = some (some (.map none), 1, 8) := by kernel_rfl

/-- The roles of a thread's blocks: its transaction 0, what it has read 1, its parts 2, what is left 3, the parts' maps 4. -/
def rl (t j : Nat) : Nat := 8 + 8 * t + j
def isTx (t r : Nat) : Prop := 8 + 8 * t ≤ r ∧ r < 16 + 8 * t
theorem rl_tx (t j : Nat) (hj : j < 8) : isTx t (rl t j) := by unfold isTx rl; omega
theorem rl_other {t t' j r : Nat} (hj : j < 8) (h : isTx t r) (he : r = rl t' j) : t = t' := by unfold isTx rl at *; omega
structure MapsAt (W : World) (base : Nat) (ρ : Nat → Nat) (t : Nat) (ms : List Nat) (parts : List Mp) : Prop where
  len : ms.length = parts.length
  nd : ms.Nodup
  at_ : ∀ (i m : Nat) (p : Mp), ms[i]? = some m → parts[i]? = some p → base ≤ m ∧ ρ m = rl t 4 ∧ MapAt W m p
structure TxAt (W : World) (base : Nat) (ρ : Nat → Nat) (t gt : Nat) (x : PTx) (rd pa lf : Value) (ms : List Nat) : Prop where
  role : ρ gt = rl t 0
  ge : base ≤ gt
  blk : W.heap[gt]? = some (.cells #[.int .i64 x.start, .int .i64 x.stamp, rd, pa, .bool x.commits, .bool x.pointed, lf] 81 (0, 0))
  reads : Kd.N kI 3 W base (fun k => ρ k = rl t 1) rd x.reads
  parts : Kd.N kP 78 W base (fun k => ρ k = rl t 2) pa ms
  left : Kd.V kI 3 W base (fun k => ρ k = rl t 3) lf x.left
  maps : MapsAt W base ρ t ms x.parts
def PtrAt (W : World) (base : Nat) (ρ : Nat → Nat) (t : Nat) (p : Value) : Option PTx → Prop
  | none => p = .pointer none
  | some x => ∃ gt rd pa lf ms, p = .pointer (some ⟨gt, 0, none⟩) ∧ TxAt W base ρ t gt x rd pa lf ms
structure EngAt (W : World) (base : Nat) (ρ : Nat → Nat) (g : Nat) (s : PEng) (cells : Array Value) (vs : Value) : Prop where
  role : ρ g = 1
  own : ∀ k, ρ k ≠ 0 → base ≤ k ∧ k < W.heap.size
  len : s.txs.length = 8
  blk : W.heap[g]? = some (.cells cells 77 (0, 0))
  size : cells.size = 10
  clock : cells[0]? = some (.int .i64 s.clock)
  cv : cells[1]? = some vs
  vars : Kd.N kV 92 W base (fun k => ρ k = 2) vs s.vars
  txs : ∀ t, t < 8 → ∃ p, cells[2 + t]? = some p ∧ PtrAt W base ρ t p (s.txs.getD t none)
/-- The roles of the old blocks are as they were. -/
def Same (W : World) (ρ ρ' : Nat → Nat) : Prop := ∀ k, k < W.heap.size → ρ' k = ρ k
theorem role_keep {W : World} {base : Nat} {ρ ρ' : Nat → Nat} (own : ∀ k, ρ k ≠ 0 → base ≤ k ∧ k < W.heap.size) (hs : Same W ρ ρ') {r : Nat} (hr : r ≠ 0) {k : Nat} (h : ρ k = r) : ρ' k = r := by
  have := own k (by rw [h]; exact hr)
  rw [hs k this.2, h]
theorem MapsAt.move {W W' : World} {base : Nat} {ρ ρ' : Nat → Nat} {t : Nat} {ms : List Nat} {parts : List Mp} (h : MapsAt W base ρ t ms parts) (hρ : ∀ k, ρ k = rl t 4 → ρ' k = rl t 4) (hh : ∀ k, ρ k = rl t 4 → W'.heap[k]? = W.heap[k]?) : MapsAt W' base ρ' t ms parts :=
  ⟨h.len, h.nd, fun i m p hm hp => by
    obtain ⟨a, b, c⟩ := h.at_ i m p hm hp
    exact ⟨a, hρ _ b, c.move (hh _ b)⟩⟩
theorem V_move {α : Type} {d : Kd α} {e base : Nat} {w w1 : World} {ok ok' : Nat → Prop} {v : Value} {xs : List α} (h : Kd.V d e w base ok v xs) (hok : ∀ k, ok k → ok' k) (hm : ∀ k, ok k → k < w.heap.size → w1.heap[k]? = w.heap[k]?) : Kd.V d e w1 base ok' v xs := by
  obtain ⟨A, c, hv, hc, hF⟩ := h
  exact ⟨A, c, hv, hc, Kd.F_mono (Foot.step hF hm) hok⟩
theorem TxAt.move {W W' : World} {base : Nat} {ρ ρ' : Nat → Nat} {t gt : Nat} {x : PTx} {rd pa lf : Value} {ms : List Nat} (h : TxAt W base ρ t gt x rd pa lf ms) (hρ : ∀ k, isTx t (ρ k) → ρ' k = ρ k) (hh : ∀ k, isTx t (ρ k) → k < W.heap.size → W'.heap[k]? = W.heap[k]?) (hlt : ∀ k, isTx t (ρ k) → k < W.heap.size) : TxAt W' base ρ' t gt x rd pa lf ms := by
  have e : ∀ j, j < 8 → ∀ k, ρ k = rl t j → ρ' k = rl t j := fun j hj k hk => by rw [hρ k (by rw [hk]; exact rl_tx t j hj), hk]
  have f : ∀ j, j < 8 → ∀ k, ρ k = rl t j → W'.heap[k]? = W.heap[k]? := fun j hj k hk => hh k (by rw [hk]; exact rl_tx t j hj) (hlt k (by rw [hk]; exact rl_tx t j hj))
  refine ⟨e 0 (by omega) _ h.role, h.ge, (f 0 (by omega) _ h.role).trans h.blk, ?_, ?_, ?_, h.maps.move (e 4 (by omega)) (f 4 (by omega))⟩
  · exact N_flat kI_flat (N_flat_move kI_flat h.reads fun k hk => f 1 (by omega) k (h.reads.1 k hk)) fun k hk => e 1 (by omega) k (h.reads.1 k hk)
  · exact N_flat kP_flat (N_flat_move kP_flat h.parts fun k hk => f 2 (by omega) k (h.parts.1 k hk)) fun k hk => e 2 (by omega) k (h.parts.1 k hk)
  · exact V_move h.left (e 3 (by omega)) (fun k hk _ => f 3 (by omega) k hk)
theorem PtrAt.move {W W' : World} {base : Nat} {ρ ρ' : Nat → Nat} {t : Nat} {p : Value} {o : Option PTx} (h : PtrAt W base ρ t p o) (hρ : ∀ k, isTx t (ρ k) → ρ' k = ρ k) (hh : ∀ k, isTx t (ρ k) → k < W.heap.size → W'.heap[k]? = W.heap[k]?) (hlt : ∀ k, isTx t (ρ k) → k < W.heap.size) : PtrAt W' base ρ' t p o := by
  cases o with
  | none => exact h
  | some x =>
    obtain ⟨gt, rd, pa, lf, ms, e, hx⟩ := h
    exact ⟨gt, rd, pa, lf, ms, e, hx.move hρ hh hlt⟩
/-- What is the engine's lies as it lay. -/
theorem EngAt.move {W W' : World} {base : Nat} {ρ : Nat → Nat} {g : Nat} {s : PEng} {cells : Array Value} {vs : Value} (h : EngAt W base ρ g s cells vs) (hsz : W.heap.size ≤ W'.heap.size) (hh : ∀ k, ρ k ≠ 0 → W'.heap[k]? = W.heap[k]?) : EngAt W' base ρ g s cells vs := by
  refine ⟨h.role, fun k hk => ⟨(h.own k hk).1, Nat.lt_of_lt_of_le (h.own k hk).2 hsz⟩, h.len, (hh g (by rw [h.role]; omega)).trans h.blk, h.size, h.clock, h.cv, ?_, fun t ht => ?_⟩
  · exact N_flat_move kV_flat h.vars fun k hk => hh k (by have := h.vars.1 k hk; omega)
  · obtain ⟨p, hp, hx⟩ := h.txs t ht
    exact ⟨p, hp, hx.move (fun _ _ => rfl) (fun k hk _ => hh k (by unfold isTx at hk; omega)) (fun k hk => (h.own k (by unfold isTx at hk; omega)).2)⟩
theorem EngAt.below {W W' : World} {base : Nat} {ρ : Nat → Nat} {g : Nat} {s : PEng} {cells : Array Value} {vs : Value} (h : EngAt W base ρ g s cells vs) (hb : Below W.heap.size W W') : EngAt W' base ρ g s cells vs :=
  h.move hb.size fun k hk => hb.block k (h.own k hk).2
theorem EngAt.kept {W W' : World} {base : Nat} {ρ : Nat → Nat} {g : Nat} {s : PEng} {cells : Array Value} {vs : Value} {S : Nat → Prop} (h : EngAt W base ρ g s cells vs) (hk : Kept W W' S) (hS : ∀ k, S k → ρ k = 0) : EngAt W' base ρ g s cells vs :=
  h.move hk.1 fun k hk' => hk.2 k (h.own k hk').2 fun hs => hk' (hS k hs)
/-- One transaction turned (and maybe its place in the engine). -/
theorem EngAt.setTx {W W' : World} {base : Nat} {ρ ρ' : Nat → Nat} {g : Nat} {s : PEng} {cells : Array Value} {vs : Value} (h : EngAt W base ρ g s cells vs) {t : Nat} (ht : t < 8) {p' : Value} {o : Option PTx}
    (hs : Same W ρ ρ') (hown : ∀ k, ρ' k ≠ 0 → base ≤ k ∧ k < W'.heap.size) (hg : W'.heap[g]? = some (.cells (cells.setIfInBounds (2 + t) p') 77 (0, 0))) (hh : ∀ k, ρ k ≠ 0 → ρ k ≠ 1 → ¬ isTx t (ρ k) → W'.heap[k]? = W.heap[k]?)
    (hx : PtrAt W' base ρ' t p' o) : EngAt W' base ρ' g (setTx s (t : Int) o) (cells.setIfInBounds (2 + t) p') vs := by
  refine ⟨?_, hown, by simp [P.setTx, h.len], hg, by simp [h.size], ?_, ?_, ?_, fun t' ht' => ?_⟩
  · rw [hs g (h.own g (by rw [h.role]; omega)).2, h.role]
  · rw [Array.getElem?_setIfInBounds_ne (by omega)]; exact h.clock
  · rw [Array.getElem?_setIfInBounds_ne (by omega)]; exact h.cv
  · exact N_flat kV_flat (N_flat_move kV_flat h.vars fun k hk => by
      have := h.vars.1 k hk
      exact hh k (by omega) (by omega) (by unfold isTx; omega)) fun k hk => role_keep h.own hs (by omega) (h.vars.1 k hk)
  · by_cases e : t' = t
    · subst e
      refine ⟨p', by rw [Array.getElem?_setIfInBounds_self_of_lt (by have := h.size; omega)], ?_⟩
      have : (P.setTx s (t' : Int) o).txs.getD t' none = o := by
        simp [P.setTx, List.getD_eq_getElem?_getD, h.len, ht]
      rw [this]; exact hx
    · obtain ⟨p, hp, hpx⟩ := h.txs t' ht'
      refine ⟨p, by rw [Array.getElem?_setIfInBounds_ne (by omega)]; exact hp, ?_⟩
      have : (P.setTx s (t : Int) o).txs.getD t' none = s.txs.getD t' none := by
        simp only [P.setTx, List.getD_eq_getElem?_getD, Int.toNat_natCast]
        rw [List.getElem?_set_ne (Ne.symm e)]
      rw [this]
      refine hpx.move (fun k hk => hs k (h.own k (by unfold isTx at hk; omega)).2) (fun k hk _ => hh k ?_ ?_ ?_) (fun k hk => (h.own k (by unfold isTx at hk; omega)).2)
      · unfold isTx at hk; omega
      · unfold isTx at hk; omega
      · unfold isTx at hk ⊢; omega
end Go.Proofs.Ytcnbgamalhfkmaa.P
namespace Go.Proofs.Ytcnbgamalhfkmaa.P
open Go.RowKit Go.Proofs.YtcnbgamalhfkmaaW.PrintWords Go.Proofs.YtcnbgamalhfkmaaW.PrintLast Go.Proofs.YtcnbgamalhfkmaaW.PrintMore
set_option linter.unusedVariables false
set_option linter.unusedSimpArgs false
open Go.WideShapes Go.Maps

theorem EngAt.cell0 {W : World} {base : Nat} {ρ : Nat → Nat} {g : Nat} {s : PEng} {cells : Array Value} {vs : Value} (h : EngAt W base ρ g s cells vs) : W.cell? ⟨g, 0, none⟩ = some (.int .i64 s.clock) := (blk_cell h.blk 0).trans h.clock
theorem EngAt.cell1 {W : World} {base : Nat} {ρ : Nat → Nat} {g : Nat} {s : PEng} {cells : Array Value} {vs : Value} (h : EngAt W base ρ g s cells vs) : W.cell? ⟨g, 1, none⟩ = some vs := (blk_cell h.blk 1).trans h.cv
theorem EngAt.cellT {W : World} {base : Nat} {ρ : Nat → Nat} {g : Nat} {s : PEng} {cells : Array Value} {vs : Value} (h : EngAt W base ρ g s cells vs) {t : Nat} (ht : t < 8) : ∃ p, W.cell? ⟨g, 2 + t, none⟩ = some p ∧ cells[2 + t]? = some p ∧ PtrAt W base ρ t p (s.txs.getD t none) := by
  obtain ⟨p, hp, hx⟩ := h.txs t ht
  exact ⟨p, (blk_cell h.blk (2 + t)).trans hp, hp, hx⟩
theorem PtrAt.form {W : World} {base : Nat} {ρ : Nat → Nat} {t : Nat} {p : Value} {o : Option PTx} (h : PtrAt W base ρ t p o) : (o = none ∧ p = .pointer none) ∨ ∃ x gt rd pa lf ms, o = some x ∧ p = .pointer (some ⟨gt, 0, none⟩) ∧ TxAt W base ρ t gt x rd pa lf ms := by
  cases o with
  | none => exact .inl ⟨rfl, h⟩
  | some x =>
    obtain ⟨gt, rd, pa, lf, ms, e, hx⟩ := h
    exact .inr ⟨x, gt, rd, pa, lf, ms, rfl, e, hx⟩
/-- A thread's transaction, as the engine's place and the memory have it. -/
def Got (W : World) (base : Nat) (ρ : Nat → Nat) (cells : Array Value) (t : Int) (p : Value) : Option PTx → Prop
  | none => p = .pointer none
  | some x => ∃ tn gt rd pa lf ms, t = (tn : Nat) ∧ tn < 8 ∧ p = .pointer (some ⟨gt, 0, none⟩) ∧ cells[2 + tn]? = some p ∧ TxAt W base ρ tn gt x rd pa lf ms
theorem Got.form {W : World} {base : Nat} {ρ : Nat → Nat} {cells : Array Value} {t : Int} {p : Value} {o : Option PTx} (h : Got W base ρ cells t p o) : (o = none ∧ p = .pointer none) ∨ ∃ x tn gt rd pa lf ms, o = some x ∧ t = (tn : Nat) ∧ tn < 8 ∧ p = .pointer (some ⟨gt, 0, none⟩) ∧ cells[2 + tn]? = some (.pointer (some ⟨gt, 0, none⟩)) ∧ TxAt W base ρ tn gt x rd pa lf ms := by
  cases o with
  | none => exact .inl ⟨rfl, h⟩
  | some x =>
    obtain ⟨tn, gt, rd, pa, lf, ms, e, ht, rfl, hc, hx⟩ := h
    exact .inr ⟨x, tn, gt, rd, pa, lf, ms, rfl, e, ht, rfl, hc, hx⟩
set_option maxHeartbeats 1000000 in
theorem new_calls (w : World) : Calls Try.prog 35 #[] w fun e w' => e = .returned (.pointer (some ⟨w.heap.size, 0, none⟩)) ∧ w.alloc (.cells #[.int .i64 0, .slice none 0 0, .pointer none, .pointer none, .pointer none, .pointer none, .pointer none, .pointer none, .pointer none, .pointer none] 77) = w' := by
  go_enter Try.func35, Try.ntmps35
  go_wp2
  go_ret
  exact ⟨rfl, rfl⟩
set_option maxHeartbeats 1000000 in
theorem of_calls {W : World} {base : Nat} {ρ : Nat → Nat} {g : Nat} {s : PEng} {cells : Array Value} {vs : Value} (h : EngAt W base ρ g s cells vs) (t : Int) :
    Calls Try.prog 53 #[.pointer (some ⟨g, 0, none⟩), .int .i64 t] W fun e w' => (∃ p, e = .returned p ∧ Got W base ρ cells t p (ofE s t)) ∧ W = w' := by
  have HO := Aside0.mk (show ofE s t = if inT t then (s.txs.getD t.toNat none) else none from rfl)
  have HI := Aside0.mk (show inT t = (decide (0 ≤ t) && decide (t < 8)) from rfl)
  by_cases h0 : t < 0
  · have HE := Aside0.mk (show ofE s t = none by rw [HO.out, HI.out]; simp; omega)
    go_enter Try.func53, Try.ntmps53
    go_wp2
    go_ret
    exact ⟨⟨_, rfl, by rw [HE.out]; rfl⟩, rfl⟩
  · by_cases h8 : 8 ≤ t
    · have HE := Aside0.mk (show ofE s t = none by rw [HO.out, HI.out]; simp; omega)
      go_enter Try.func53, Try.ntmps53
      go_wp2
      go_ret
      exact ⟨⟨_, rfl, by rw [HE.out]; rfl⟩, rfl⟩
    · obtain ⟨tn, rfl⟩ : ∃ tn : Nat, t = tn := ⟨t.toNat, by omega⟩
      have ht : tn < 8 := by omega
      obtain ⟨p, hc, hp, hx⟩ := h.cellT ht
      have HE := Aside0.mk (show Got W base ρ cells tn p (ofE s (tn : Int)) by
        rw [HO.out, HI.out, if_pos (by simp; omega)]
        show Got W base ρ cells tn p (s.txs.getD tn none)
        rcases hx.form with ⟨e, e2⟩ | ⟨x, gt, rd, pa, lf, ms, e, e2, hx⟩
        · rw [e]; exact e2
        · rw [e]; exact ⟨tn, gt, rd, pa, lf, ms, rfl, ht, e2, hp, hx⟩)
      have ht8 : (tn : Int) < 8 := by omega
      clear HO HI hp hx h8
      go_enter Try.func53, Try.ntmps53
      go_wp2
      go_ret
      exact ⟨⟨_, rfl, HE.out⟩, rfl⟩
set_option maxHeartbeats 1000000 in
theorem open_calls {W : World} {base : Nat} {ρ : Nat → Nat} {g : Nat} {s : PEng} {cells : Array Value} {vs : Value} (h : EngAt W base ρ g s cells vs) (t : Int) :
    Calls Try.prog 39 #[.pointer (some ⟨g, 0, none⟩), .int .i64 t] W fun e w' => (∃ p, e = .returned p ∧ Got W base ρ cells t p (openE s t)) ∧ W = w' := by
  have hof := of_calls h t
  have HO := Aside0.mk (show openE s t = (ofE s t).bind fun x => if x.commits then none else some x from rfl)
  clear h
  go_enter Try.func39, Try.ntmps39
  go_wp2_with fail
  refine hof.mono ?_; rintro e w' ⟨⟨p, rfl, hp⟩, rfl⟩
  clear hof
  rcases hp.form with ⟨e0, rfl⟩ | ⟨x, tn, gt, rd, pa, lf, ms, e0, rfl, ht, rfl, hcc, hx⟩
  · have HE := Aside0.mk (show openE s t = none by rw [HO.out, e0]; rfl)
    clear hp e0 HO
    go_wp2
    go_ret
    exact ⟨⟨_, rfl, by rw [HE.out]; rfl⟩, rfl⟩
  · have k4 := blk_cell hx.blk 4
    cases hc : x.commits with
    | true =>
      have HE := Aside0.mk (show openE s tn = none by rw [HO.out, e0]; simp [hc])
      clear hp e0 HO hx
      go_wp2
      go_ret
      exact ⟨⟨_, rfl, by rw [HE.out]; rfl⟩, rfl⟩
    | false =>
      have HE := Aside0.mk (show Got W base ρ cells tn (.pointer (some ⟨gt, 0, none⟩)) (openE s tn) by rw [HO.out, e0]; simp only [Option.bind_some, hc]; exact ⟨tn, gt, rd, pa, lf, ms, rfl, ht, rfl, hcc, hx⟩)
      clear hp e0 HO hx
      go_wp2
      go_ret
      exact ⟨⟨_, rfl, HE.out⟩, rfl⟩
set_option maxHeartbeats 1000000 in
theorem is_calls {W : World} {base : Nat} {ρ : Nat → Nat} {g : Nat} {s : PEng} {cells : Array Value} {vs : Value} (h : EngAt W base ρ g s cells vs) (n : Int) :
    Calls Try.prog 40 #[.pointer (some ⟨g, 0, none⟩), .int .i64 n] W fun e w' => e = .returned (.bool (isE s n)) ∧ W = w' := by
  have HO := Aside0.mk (show isE s n = (decide (0 ≤ n) && decide (n < s.vars.length)) from rfl)
  have k1 := h.cell1
  obtain ⟨A, c, rfl⟩ := Kd.N_slice h.vars
  clear h
  by_cases h0 : 0 ≤ n
  · by_cases h1 : n < s.vars.length
    · have HE := Aside0.mk (show isE s n = true by rw [HO.out]; simp [h0, h1])
      go_enter Try.func40, Try.ntmps40
      go_wp2
      go_ret
      exact ⟨by rw [HE.out]; rfl, rfl⟩
    · have HE := Aside0.mk (show isE s n = false by rw [HO.out]; simp [h0, h1])
      go_enter Try.func40, Try.ntmps40
      go_wp2
      go_ret
      exact ⟨by rw [HE.out]; rfl, rfl⟩
  · have HE := Aside0.mk (show isE s n = false by rw [HO.out]; simp [h0])
    go_enter Try.func40, Try.ntmps40
    go_wp2
    go_ret
    exact ⟨by rw [HE.out]; rfl, rfl⟩
end Go.Proofs.Ytcnbgamalhfkmaa.P
namespace Go.Proofs.Ytcnbgamalhfkmaa.P
open Go.RowKit Go.Proofs.YtcnbgamalhfkmaaW.PrintWords Go.Proofs.YtcnbgamalhfkmaaW.PrintLast Go.Proofs.YtcnbgamalhfkmaaW.PrintMore
set_option linter.unusedVariables false
set_option linter.unusedSimpArgs false
open Go.WideShapes Go.Maps

structure Did (W : World) (base : Nat) (ρ ρ' : Nat → Nat) (W' : World) : Prop where
  same : Same W ρ ρ'
  kept : Kept W W' (fun k => ρ k ≠ 0)
  below : Below base W W'
def EngPost (W : World) (base : Nat) (ρ : Nat → Nat) (g : Nat) (s' : PEng) (W' : World) : Prop := ∃ ρ' cells' vs', EngAt W' base ρ' g s' cells' vs' ∧ Did W base ρ ρ' W'
theorem Did.refl {W : World} {base : Nat} {ρ : Nat → Nat} : Did W base ρ ρ W := ⟨fun _ _ => rfl, Kept.refl _ _, Below.refl _ _⟩
theorem Did.of_below {W W' : World} {base : Nat} {ρ : Nat → Nat} (hb : Below W.heap.size W W') (hbase : base ≤ W.heap.size) : Did W base ρ ρ W' := ⟨fun _ _ => rfl, Kept.of_below hb _, hb.mono hbase⟩
theorem Did.trans {W W1 W2 : World} {base : Nat} {ρ ρ1 ρ2 : Nat → Nat} (h : Did W base ρ ρ1 W1) (k : Did W1 base ρ1 ρ2 W2) : Did W base ρ ρ2 W2 :=
  ⟨fun i hi => (k.same i (Nat.lt_of_lt_of_le hi h.kept.1)).trans (h.same i hi), h.kept.then_ k.kept (fun i hi => by
    by_cases hl : i < W.heap.size
    · left; rw [← h.same i hl]; exact hi
    · right; omega), h.below.trans k.below⟩
theorem EngAt.base_le {W : World} {base : Nat} {ρ : Nat → Nat} {g : Nat} {s : PEng} {cells : Array Value} {vs : Value} (h : EngAt W base ρ g s cells vs) : base ≤ W.heap.size := by
  have := h.own g (by rw [h.role]; omega)
  omega
theorem EngAt.g_lt {W : World} {base : Nat} {ρ : Nat → Nat} {g : Nat} {s : PEng} {cells : Array Value} {vs : Value} (h : EngAt W base ρ g s cells vs) : base ≤ g ∧ g < W.heap.size := h.own g (by rw [h.role]; omega)
/-- The role of a row's block, wherever the row lies now. -/
def withRow (ρ : Nat → Nat) (v : Value) (r : Nat) (k : Nat) : Nat := if v.ownBlock = some k then r else ρ k
theorem withRow_at {ρ : Nat → Nat} {v : Value} {r : Nat} : ∀ k, v.ownBlock = some k → withRow ρ v r k = r := fun k hk => by unfold withRow; rw [if_pos hk]
theorem withRow_same {W : World} {ρ : Nat → Nat} {v v1 : Value} {r : Nat} (hv : ∀ k, v.ownBlock = some k → ρ k = r) (hat : v1.ownBlock = v.ownBlock ∨ ∃ b, v1.ownBlock = some b ∧ W.heap.size ≤ b) : Same W ρ (withRow ρ v1 r) := fun k hk => by
  unfold withRow
  split
  · next h =>
    rcases hat with e | ⟨b, e, hb⟩
    · exact (hv k (e ▸ h)).symm
    · rw [e] at h; injection h with h; omega
  · rfl
theorem withRow_own {W W' : World} {base : Nat} {ρ : Nat → Nat} {v1 : Value} {r : Nat} (hown : ∀ k, ρ k ≠ 0 → base ≤ k ∧ k < W.heap.size) (hsz : W.heap.size ≤ W'.heap.size) (hv1 : ∀ k, v1.ownBlock = some k → base ≤ k ∧ k < W'.heap.size) : ∀ k, withRow ρ v1 r k ≠ 0 → base ≤ k ∧ k < W'.heap.size := fun k hk => by
  unfold withRow at hk
  split at hk
  · next h => exact hv1 k h
  · have := hown k hk; exact ⟨this.1, Nat.lt_of_lt_of_le this.2 hsz⟩
theorem N_in {α : Type} {d : Kd α} {e base : Nat} {w : World} {ok : Nat → Prop} {v : Value} {xs : List α} (h : Kd.N d e w base ok v xs) : ∀ k, v.ownBlock = some k → base ≤ k ∧ k < w.heap.size := fun k hk => ⟨Kd.N_base h k hk, Kd.N_lt h k hk⟩
theorem EngAt.g_ne {W : World} {base : Nat} {ρ : Nat → Nat} {g : Nat} {s : PEng} {cells : Array Value} {vs : Value} (h : EngAt W base ρ g s cells vs) {v : Value} {r : Nat} (hv : ∀ k, v.ownBlock = some k → ρ k = r) (hr : r ≠ 1) : some g ≠ v.ownBlock := fun e => hr ((hv g e.symm).symm.trans h.role)
/-- The vars turned. -/
theorem EngAt.setVars {W W' : World} {base : Nat} {ρ ρ' : Nat → Nat} {g : Nat} {s : PEng} {cells : Array Value} {vs vs' : Value} {vars' : List PVar} (h : EngAt W base ρ g s cells vs)
    (hs : Same W ρ ρ') (hown : ∀ k, ρ' k ≠ 0 → base ≤ k ∧ k < W'.heap.size) (hg : W'.heap[g]? = some (.cells (cells.setIfInBounds 1 vs') 77 (0, 0))) (hh : ∀ k, ρ k ≠ 0 → ρ k ≠ 1 → ρ k ≠ 2 → W'.heap[k]? = W.heap[k]?)
    (hv : Kd.N kV 92 W' base (fun k => ρ' k = 2) vs' vars') : EngAt W' base ρ' g { s with vars := vars' } (cells.setIfInBounds 1 vs') vs' := by
  refine ⟨?_, hown, h.len, hg, by simp [h.size], ?_, ?_, hv, fun t ht => ?_⟩
  · rw [hs g h.g_lt.2, h.role]
  · rw [Array.getElem?_setIfInBounds_ne (by omega)]; exact h.clock
  · rw [Array.getElem?_setIfInBounds_self_of_lt (by have := h.size; omega)]
  · obtain ⟨p, hp, hpx⟩ := h.txs t ht
    refine ⟨p, by rw [Array.getElem?_setIfInBounds_ne (by omega)]; exact hp, ?_⟩
    refine hpx.move (fun k hk => hs k (h.own k (by unfold isTx at hk; omega)).2) (fun k hk _ => hh k ?_ ?_ ?_) (fun k hk => (h.own k (by unfold isTx at hk; omega)).2) <;> unfold isTx at hk <;> omega
/-- The clock turned. -/
theorem EngAt.setClock {W : World} {base : Nat} {ρ : Nat → Nat} {g : Nat} {s : PEng} {cells : Array Value} {vs : Value} (h : EngAt W base ρ g s cells vs) (c : Int) : EngAt (W.setCell ⟨g, 0, none⟩ (.int .i64 c)) base ρ g { s with clock := c } (cells.setIfInBounds 0 (.int .i64 c)) vs := by
  have hh : ∀ k, ρ k ≠ 0 → ρ k ≠ 1 → (W.setCell ⟨g, 0, none⟩ (.int .i64 c)).heap[k]? = W.heap[k]? := fun k _ h1 => Below.heap_setCell W ⟨g, 0, none⟩ _ k (fun e => h1 (by rw [e]; exact h.role))
  refine ⟨h.role, fun k hk => by simpa [World.setCell] using h.own k hk, h.len, blk_set h.blk 0 _, by simp [h.size], ?_, ?_, ?_, fun t ht => ?_⟩
  · rw [Array.getElem?_setIfInBounds_self_of_lt (by have := h.size; omega)]
  · rw [Array.getElem?_setIfInBounds_ne (by omega)]; exact h.cv
  · exact N_flat_move kV_flat h.vars fun k hk => hh k (by have := h.vars.1 k hk; omega) (by have := h.vars.1 k hk; omega)
  · obtain ⟨p, hp, hpx⟩ := h.txs t ht
    refine ⟨p, by rw [Array.getElem?_setIfInBounds_ne (by omega)]; exact hp, ?_⟩
    exact hpx.move (fun _ _ => rfl) (fun k hk _ => hh k (by unfold isTx at hk; omega) (by unfold isTx at hk; omega)) (fun k hk => (h.own k (by unfold isTx at hk; omega)).2)
theorem setCell_size (w : World) (p : Addr) (v : Value) : (w.setCell p v).heap.size = w.heap.size := by simp [World.setCell]
/-- The vars' row has grown, and the engine has the new one. -/
theorem EngAt.push_vars {W w1 : World} {base : Nat} {ρ : Nat → Nat} {g : Nat} {s : PEng} {cells : Array Value} {vs v1 : Value} {vars' : List PVar} (h : EngAt W base ρ g s cells vs) (hN : Kd.N kV 92 w1 base (fun _ => True) v1 vars') (hb : Below base W w1) (hg : W.grownBy w1 vs.ownBlock)
    (hat : v1.ownBlock = vs.ownBlock ∨ ∃ b, v1.ownBlock = some b ∧ W.heap.size ≤ b) : EngPost W base ρ g { s with vars := vars' } (w1.setCell ⟨g, 1, none⟩ v1) := by
  have hgl := h.g_lt
  have hng : ∀ k, v1.ownBlock = some k → k ≠ g := fun k hk e => by
    rcases hat with e1 | ⟨b, e1, hb1⟩
    · have := h.vars.1 k (e1 ▸ hk); have := h.role; subst e; omega
    · rw [e1] at hk; injection hk with hk; omega
  have hbk := (hg.block g hgl.2 (h.g_ne h.vars.1 (by omega))).trans h.blk
  refine ⟨withRow ρ v1 2, _, v1, h.setVars (withRow_same h.vars.1 hat) ?_ (blk_set hbk 1 v1) (fun k h0 h1 h2 => ?_) ?_, ⟨withRow_same h.vars.1 hat, ?_, ?_⟩⟩
  · rw [setCell_size]; exact withRow_own h.own hg.size (N_in hN)
  · rw [Below.heap_setCell w1 ⟨g, 1, none⟩ v1 k (fun e => h1 (by rw [e]; exact h.role))]
    exact hg.block k (h.own k h0).2 (fun e => h2 (h.vars.1 k e.symm))
  · exact N_flat kV_flat (N_flat_move kV_flat hN fun k hk => Below.heap_setCell w1 ⟨g, 1, none⟩ v1 k (hng k hk)) withRow_at
  · exact (Kept.of_grown hg (Kept.refl W _) (fun k e => .inl (by have := h.vars.1 k e; omega))).setCell (.inl (by rw [h.role]; omega)) v1
  · exact hb.setCell (p := ⟨g, 1, none⟩) hgl.1 v1
set_option maxHeartbeats 8000000 in
set_option maxRecDepth 100000 in
theorem make_calls {W : World} {base : Nat} {ρ : Nat → Nat} {g : Nat} {s : PEng} {cells : Array Value} {vs : Value} (h : EngAt W base ρ g s cells vs) (hl : s.vars.length ≤ 4000) (v : Int) :
    Calls Try.prog 37 #[.pointer (some ⟨g, 0, none⟩), .int .i64 v] W fun e w' => e = .returned (.tuple #[.int .i64 (makeE s v).1, .int .i64 (makeE s v).2.1]) ∧ EngPost W base ρ g (makeE s v).2.2 w' := by
  have HO := Aside0.mk (show makeE s v = if 4000 ≤ s.vars.length then (0, 16, s) else ((s.vars.length : Int), (0 : Int), ({ s with vars := s.vars ++ [⟨v, 0, -1⟩] } : PEng)) from rfl)
  have k1 := h.cell1
  have f1 := blk_frozen h.blk 1
  have HH := Aside0.mk h
  have hN := h.vars
  obtain ⟨A, c, rfl⟩ := Kd.N_slice hN
  have HN := Aside0.mk hN
  clear h hN
  by_cases h4 : 4000 ≤ s.vars.length
  · have h4z : (4000 : Int) ≤ (s.vars.length : Int) := by omega
    have HE := Aside0.mk (show makeE s v = (0, 16, s) by rw [HO.out, if_pos h4])
    clear HO h4
    go_enter Try.func37, Try.ntmps37
    go_wp2
    go_ret2
    rw [HE.out]
    exact ⟨rfl, ρ, _, _, HH.out, Did.refl⟩
  · have h4z : ¬ (4000 : Int) ≤ (s.vars.length : Int) := by omega
    have HE := Aside0.mk (show makeE s v = ((s.vars.length : Int), (0 : Int), ({ s with vars := s.vars ++ [⟨v, 0, -1⟩] } : PEng)) by rw [HO.out, if_neg h4])
    clear HO h4
    go_enter Try.func37, Try.ntmps37
    go_wp2_with ((with_reducible refine gate_builtin (b := .append) (xs := #[.tmp 16, .tmp 19]) rfl ?_); at_builtin; refine Kd.N_append kV (w0 := W) base rfl (.tmp 16) (.tmp 19) 74 92 (.agg #[.int .i64 0, .int .i64 0, .int .i64 0]) 24 rfl Try.underlying74 info92 rfl (by decide) (by omega) (.slice A s.vars.length c) s.vars ⟨v, 0, -1⟩ [.int .i64 v, .int .i64 0, .int .i64 (-1)] (fun _ => True) (fun _ => False) rfl rfl ?aP (fun _ hk => hk.elim) (fun _ _ => trivial) ?aO ?aB ?aS ?aL ?_; (case aP => exact fun W' _ => kV_mk W' _); (case aO => exact Kd.N_mono HN.out (fun _ _ => trivial)); (case aB => exact Below.refl _ _); (case aS => exact HH.out.base_le); (case aL => omega); intro v1 w1 ho hb hg hat; have HN1 := Aside0.mk ho; have HB1 := Aside0.mk hb; have HG1 := Aside0.mk hg; have HA1 := Aside0.mk hat; clear ho hb hg hat; obtain ⟨A1, c1, e1⟩ := Kd.N_slice HN1.out; subst e1; have hb1 := (HG1.out.block g HH.out.g_lt.2 (HH.out.g_ne HN.out.1 (by omega))).trans HH.out.blk; have j1 := (blk_cell hb1 1).trans HH.out.cv; have g1 := blk_frozen hb1 1; have HBK := Aside0.mk hb1; clear hb1 k1 f1)
    go_ret2
    have HP := HH.out.push_vars HN1.out HB1.out HG1.out HA1.out
    rw [show (s.vars ++ [(⟨v, 0, -1⟩ : PVar)]).length = s.vars.length + 1 from by simp] at HP
    rw [HE.out]
    exact ⟨rfl, HP⟩
end Go.Proofs.Ytcnbgamalhfkmaa.P
namespace Go.Proofs.Ytcnbgamalhfkmaa.P
open Go.RowKit Go.Proofs.YtcnbgamalhfkmaaW.PrintWords Go.Proofs.YtcnbgamalhfkmaaW.PrintLast Go.Proofs.YtcnbgamalhfkmaaW.PrintMore
set_option linter.unusedVariables false
set_option linter.unusedSimpArgs false
open Go.WideShapes Go.Maps

theorem frozen_lt {w w1 : World} (h : Below w.heap.size w w1) {a : Addr} {b : Bool} (hl : a.block < w.heap.size) (hf : w.frozen? a = b) : w1.frozen? a = b := (h.frozen hl).trans hf
theorem inT_iff {t : Int} : inT t = true ↔ 0 ≤ t ∧ t < 8 := by simp [inT]
theorem ofE_in {s : PEng} {tn : Nat} (ht : tn < 8) : ofE s (tn : Int) = s.txs.getD tn none := by
  unfold ofE
  rw [if_pos (inT_iff.2 (by omega))]
  rfl
theorem ofE_out {s : PEng} {t : Int} (ht : t < 0 ∨ 8 ≤ t) : ofE s t = none := by
  unfold ofE
  rw [if_neg (by rw [inT_iff]; omega)]
theorem N_one {w : World} {base b m : Nat} (hb : w.heap[b]? = some (.cells #[.map (some m)] 78 (0, 0))) (hbase : base ≤ b) : Kd.N kP 78 w base (fun k => k = b) (.slice (some ⟨b, 0, none⟩) 1 1) [m] := by
  refine Kd.R_N ⟨fun k hk => by simpa [Value.ownBlock] using hk.symm, [.map (some m)], ⟨rfl, .inr ⟨b, 1, _, rfl, hbase, hb, Nat.le_refl _, by decide, rfl, rfl⟩⟩, ?_⟩
  exact Reps.one (v := .map (some m)) rfl (Reps.none _ _)
theorem EngPost.below {W W1 W2 : World} {base : Nat} {ρ : Nat → Nat} {g : Nat} {s : PEng} (h : EngPost W base ρ g s W1) (hb : Below W1.heap.size W1 W2) : EngPost W base ρ g s W2 := by
  obtain ⟨ρ', cells', vs', he, hd⟩ := h
  exact ⟨ρ', cells', vs', he.below hb, ⟨hd.same, hd.kept.below hb, hd.below.trans (hb.mono he.base_le)⟩⟩
theorem EngPost.drew {W W1 : World} {base : Nat} {ρ : Nat → Nat} {g : Nat} {s : PEng} (h : EngPost W base ρ g s W1) : EngPost W base ρ g s W1.drew := h.below (below_drew (Below.refl _ _))
/-- A new transaction. -/
theorem EngAt.new_tx {W : World} {base : Nat} {ρ : Nat → Nat} {g : Nat} {s : PEng} {cells : Array Value} {vs : Value} (h : EngAt W base ρ g s cells vs) {t : Nat} (ht : t < 8) :
    EngPost W base ρ g (P.setTx s (t : Int) (some ⟨s.clock, 0, [], [[]], false, false, []⟩)) ((((W.alloc (.map #[] 0)).alloc (.cells #[.map (some W.heap.size)] 78)).alloc (.cells #[.int .i64 s.clock, .int .i64 0, .slice none 0 0, .slice (some ⟨W.heap.size + 1, 0, none⟩) 1 1, .bool false, .bool false, .slice none 0 0] 81)).setCell ⟨g, 2 + t, none⟩ (.pointer (some ⟨W.heap.size + 1 + 1, 0, none⟩))).drew := by
  have hgl := h.g_lt
  obtain ⟨W1, hW1⟩ : ∃ W1, W.alloc (.map #[] 0) = W1 := ⟨_, rfl⟩
  obtain ⟨W2, hW2⟩ : ∃ W2, W1.alloc (.cells #[.map (some W.heap.size)] 78) = W2 := ⟨_, rfl⟩
  obtain ⟨W3, hW3⟩ : ∃ W3, W2.alloc (.cells #[.int .i64 s.clock, .int .i64 0, .slice none 0 0, .slice (some ⟨W.heap.size + 1, 0, none⟩) 1 1, .bool false, .bool false, .slice none 0 0] 81) = W3 := ⟨_, rfl⟩
  have s1 : W1.heap.size = W.heap.size + 1 := by rw [← hW1]; simp
  have s2 : W2.heap.size = W.heap.size + 2 := by rw [← hW2]; simp [s1]
  have s3 : W3.heap.size = W.heap.size + 3 := by rw [← hW3]; simp [s2]
  have hm : MapAt W3 W.heap.size [] := (MapAt.made W).move (by
    rw [hW1, ← hW3, Below.heap_alloc W2 _ _ (by omega), ← hW2, Below.heap_alloc W1 _ _ (by omega)])
  have hp : W3.heap[W.heap.size + 1]? = some (.cells #[.map (some W.heap.size)] 78 (0, 0)) := by
    rw [← hW3, Below.heap_alloc W2 _ _ (by omega), ← hW2]
    have := blk_new W1 (.cells #[.map (some W.heap.size)] 78)
    rwa [s1] at this
  have hx : W3.heap[W.heap.size + 2]? = some (.cells #[.int .i64 s.clock, .int .i64 0, .slice none 0 0, .slice (some ⟨W.heap.size + 1, 0, none⟩) 1 1, .bool false, .bool false, .slice none 0 0] 81 (0, 0)) := by
    have := blk_new W2 (.cells #[.int .i64 s.clock, .int .i64 0, .slice none 0 0, .slice (some ⟨W.heap.size + 1, 0, none⟩) 1 1, .bool false, .bool false, .slice none 0 0] 81)
    rwa [hW3, s2] at this
  have hB : Below W.heap.size W W3 := by
    rw [← hW3, ← hW2, ← hW1]
    exact below_alloc (below_alloc (below_alloc (Below.refl _ _) _) _) _
  rw [hW1, hW2, hW3]
  refine EngPost.drew ?_
  show EngPost W base ρ g _ (W3.setCell ⟨g, 2 + t, none⟩ (.pointer (some ⟨W.heap.size + 2, 0, none⟩)))
  have hset : ∀ k, k ≠ g → (W3.setCell ⟨g, 2 + t, none⟩ (.pointer (some ⟨W.heap.size + 2, 0, none⟩))).heap[k]? = W3.heap[k]? := fun k hk => Below.heap_setCell W3 _ _ k hk
  have hsame : Same W ρ (fun k => if k = W.heap.size then rl t 4 else if k = W.heap.size + 1 then rl t 2 else if k = W.heap.size + 2 then rl t 0 else ρ k) := fun k hk => by
    show (if k = W.heap.size then _ else _) = _
    rw [if_neg (by omega), if_neg (by omega), if_neg (by omega)]
  refine ⟨fun k => if k = W.heap.size then rl t 4 else if k = W.heap.size + 1 then rl t 2 else if k = W.heap.size + 2 then rl t 0 else ρ k, _, vs, h.setTx ht (p' := .pointer (some ⟨W.heap.size + 2, 0, none⟩)) hsame (fun k hk => ?_) ?_ (fun k h0 h1 _ => ?_) ⟨W.heap.size + 2, .slice none 0 0, .slice (some ⟨W.heap.size + 1, 0, none⟩) 1 1, .slice none 0 0, [W.heap.size], rfl, ?_⟩, ⟨hsame, ?_, ?_⟩⟩
  · rw [setCell_size, s3]
    have hb := h.base_le
    by_cases e0 : k = W.heap.size
    · omega
    · by_cases e1 : k = W.heap.size + 1
      · omega
      · by_cases e2 : k = W.heap.size + 2
        · omega
        · simp only [e0, e1, e2, if_false] at hk
          have := h.own k hk
          omega
  · exact blk_set (blk_below h.blk hB) _ _
  · rw [hset k (fun e => h1 (by rw [e]; exact h.role))]
    exact hB.block k (h.own k h0).2
  · have hb := h.base_le
    refine ⟨by simp, by omega, by rw [hset _ (by omega)]; exact hx, Kd.N_nil _ _ _ _ _, ?_, ⟨none, 0, rfl, Nat.le_refl _, Kd.F_nil _ _ _⟩, ⟨rfl, by simp, fun i m p hm' hp' => ?_⟩⟩
    · have hh := N_one (w := W3.setCell ⟨g, 2 + t, none⟩ (.pointer (some ⟨W.heap.size + 2, 0, none⟩))) (base := base) (b := W.heap.size + 1) (m := W.heap.size) (by rw [hset _ (by omega)]; exact hp) (by omega)
      exact Kd.N_mono hh (fun k hk => by rw [hk]; simp)
    · have e0 : i = 0 := by
        have := (List.getElem?_eq_some_iff.1 hm').1
        simpa using this
      subst e0
      simp only [List.getElem?_cons_zero, Option.some.injEq] at hm' hp'
      subst hm' hp'
      exact ⟨hb, by simp, hm.move (hset _ (by omega))⟩
  · exact (Kept.of_below hB _).setCell (.inl (by rw [h.role]; omega)) _
  · exact (hB.mono h.base_le).setCell (p := ⟨g, 2 + t, none⟩) hgl.1 _
set_option maxHeartbeats 8000000 in
set_option maxRecDepth 100000 in
theorem begin_calls {W : World} {base : Nat} {ρ : Nat → Nat} {g : Nat} {s : PEng} {cells : Array Value} {vs : Value} (h : EngAt W base ρ g s cells vs) (t : Int) :
    Calls Try.prog 11 #[.pointer (some ⟨g, 0, none⟩), .int .i64 t] W fun e w' => e = .returned (.int .i64 (beginE s t).1) ∧ EngPost W base ρ g (beginE s t).2 w' := by
  have HO := Aside0.mk (show beginE s t = if !inT t || (ofE s t).isSome then (1, s) else (0, setTx s t (some ⟨s.clock, 0, [], [[]], false, false, []⟩)) from rfl)
  have HH := Aside0.mk h
  by_cases h0 : t < 0
  · have HE := Aside0.mk (show beginE s t = (1, s) by rw [HO.out, if_pos]; simp [inT]; omega)
    clear h HO
    go_enter Try.func11, Try.ntmps11
    go_wp2
    go_ret
    rw [HE.out]
    exact ⟨rfl, ρ, _, _, HH.out, Did.refl⟩
  · by_cases h8 : 8 ≤ t
    · have HE := Aside0.mk (show beginE s t = (1, s) by rw [HO.out, if_pos]; simp [inT]; omega)
      clear h HO
      go_enter Try.func11, Try.ntmps11
      go_wp2
      go_ret
      rw [HE.out]
      exact ⟨rfl, ρ, _, _, HH.out, Did.refl⟩
    · obtain ⟨tn, rfl⟩ : ∃ tn : Nat, t = tn := ⟨t.toNat, by omega⟩
      have ht : tn < 8 := by omega
      have ht8 : (tn : Int) < 8 := by omega
      have hin : inT (tn : Int) = true := inT_iff.2 (by omega)
      obtain ⟨p, hc, hp, hx⟩ := h.cellT ht
      have hofe := ofE_in (s := s) ht
      rcases hx.form with ⟨e0, rfl⟩ | ⟨x, gt, rd, pa, lf, ms, e0, rfl, hx⟩
      · have HE := Aside0.mk (show beginE s tn = (0, setTx s tn (some ⟨s.clock, 0, [], [[]], false, false, []⟩)) by rw [HO.out, if_neg]; rw [hin, hofe, e0]; simp)
        have k0 := h.cell0
        have ft := blk_frozen h.blk (2 + tn)
        have hmm := @run_makeMap Try.prog
        have hgl := h.g_lt.2
        have n0 := World.new_ne W _ k0
        have n1 := World.new_ne W _ hc
        have n2 : W.heap.size + 1 ≠ g := by omega
        have n3 : W.heap.size + 1 + 1 ≠ g := by omega
        have hft : ∀ o1 o2 o3 : Obj, (((W.alloc o1).alloc o2).alloc o3).drew.frozen? ⟨g, 2 + tn, none⟩ = false := fun o1 o2 o3 => frozen_lt (w := W) (below_drew (below_alloc (below_alloc (below_alloc (Below.refl _ _) _) _) _)) hgl ft
        have hct : ∀ o1 o2 o3 : Obj, (((W.alloc o1).alloc o2).alloc o3).drew.cell? ⟨g, 2 + tn, none⟩ = some (.pointer none) := fun o1 o2 o3 => pw_cell_below (below_drew (below_alloc (below_alloc (below_alloc (Below.refl _ _) _) _) _)) hc
        clear h HO h8 hin hp hx hofe e0
        go_enter Try.func11, Try.ntmps11
        go_wp2_with fail
        go_region_law (fail)
        all_goals
          go_wp2
          go_ret
          rw [HE.out]
          exact ⟨rfl, HH.out.new_tx ht⟩
      · have HE := Aside0.mk (show beginE s tn = (1, s) by rw [HO.out, if_pos]; rw [hin, hofe, e0]; simp)
        clear h HO h8 hin hp hx hofe e0
        go_enter Try.func11, Try.ntmps11
        go_wp2
        go_ret
        rw [HE.out]
        exact ⟨rfl, ρ, _, _, HH.out, Did.refl⟩
end Go.Proofs.Ytcnbgamalhfkmaa.P
namespace Go.Proofs.Ytcnbgamalhfkmaa.P
open Go.RowKit Go.Proofs.YtcnbgamalhfkmaaW.PrintWords Go.Proofs.YtcnbgamalhfkmaaW.PrintLast Go.Proofs.YtcnbgamalhfkmaaW.PrintMore
set_option linter.unusedVariables false
set_option linter.unusedSimpArgs false
open Go.WideShapes Go.Maps

theorem below_1 (w : World) (o : Obj) : Below w.heap.size w (w.alloc o) := below_alloc (Below.refl _ _) o
theorem rowV_at {w : World} {base : Nat} {ok : Nat → Prop} {vs : Value} {vars : List PVar} (h : Kd.N kV 92 w base ok vs vars) {i : Nat} (hi : i < vars.length) :
    ∃ gv cap, vs = .slice (some ⟨gv, 0, none⟩) vars.length cap ∧ vars.length ≤ cap ∧ w.cell? ⟨gv, i * 3, none⟩ = some (.int .i64 vars[i].value) ∧ w.cell? ⟨gv, i * 3 + 1, none⟩ = some (.int .i64 vars[i].version) ∧ w.cell? ⟨gv, i * 3 + 2, none⟩ = some (.int .i64 vars[i].lock) ∧ ∀ j, w.frozen? ⟨gv, i * 3 + j, none⟩ = false := by
  obtain ⟨gv, cap, rfl, _, _, _⟩ := Kd.N_form h (by omega)
  obtain ⟨c, hcl, hK, hc, hf⟩ := Kd.N_elem h zV (i : Int) (by omega) (by omega)
  rw [Int.toNat_natCast, List.getD_eq_getElem?_getD, List.getElem?_eq_getElem hi, Option.getD_some] at hK
  obtain rfl := kV_open (Kd.FK_now hK)
  exact ⟨gv, cap, rfl, (Kd.N_reads' h).2.1, hc 0 _ rfl, hc 1 _ rfl, hc 2 _ rfl, fun j => hf j⟩
theorem rowP_at {w : World} {base : Nat} {ok : Nat → Prop} {v : Value} {ms : List Nat} (h : Kd.N kP 78 w base ok v ms) {i : Nat} (hi : i < ms.length) :
    ∃ gv cap, v = .slice (some ⟨gv, 0, none⟩) ms.length cap ∧ ms.length ≤ cap ∧ w.cell? ⟨gv, i, none⟩ = some (.map (some ms[i])) := by
  obtain ⟨gv, cap, rfl, _, _, _⟩ := Kd.N_form h (by omega)
  obtain ⟨c, hcl, hK, hc, hf⟩ := Kd.N_elem h 0 (i : Int) (by omega) (by omega)
  rw [Int.toNat_natCast, List.getD_eq_getElem?_getD, List.getElem?_eq_getElem hi, Option.getD_some] at hK
  have e : c = [.map (some ms[i])] := Kd.FK_now hK
  subst e
  have h0 := hc 0 _ rfl
  rw [Int.toNat_natCast, show kP.sz = 1 from rfl, Nat.mul_one, Nat.add_zero] at h0
  exact ⟨gv, cap, rfl, (Kd.N_reads' h).2.1, h0⟩
theorem varE_at {s : PEng} {i : Nat} (hi : i < s.vars.length) : varE s (i : Int) = s.vars[i] := by
  unfold varE
  rw [Int.toNat_natCast, List.getD_eq_getElem?_getD, List.getElem?_eq_getElem hi, Option.getD_some]
theorem isE_iff {s : PEng} {n : Int} : isE s n = true ↔ 0 ≤ n ∧ n < s.vars.length := by simp [isE]
section
variable {W : World} {base : Nat} {ρ : Nat → Nat} {g : Nat} {s : PEng} {cells : Array Value} {vs : Value}
set_option maxHeartbeats 4000000 in
theorem active_calls (h : EngAt W base ρ g s cells vs) (t : Int) : Calls Try.prog 19 #[.pointer (some ⟨g, 0, none⟩), .int .i64 t] W fun e w' => e = .returned (.bool (ofE s t).isSome) ∧ W = w' := by
  have hof := of_calls h t
  clear h
  go_enter Try.func19, Try.ntmps19
  go_wp2_with fail
  refine hof.mono ?_; rintro e w' ⟨⟨p, rfl, hp⟩, rfl⟩
  clear hof
  rcases hp.form with ⟨e0, rfl⟩ | ⟨x, tn, gt, rd, pa, lf, ms, e0, rfl, ht, rfl, hcc, hx⟩
  · have HE := Aside0.mk e0
    clear hp e0
    go_wp2
    go_ret
    exact ⟨by rw [HE.out]; rfl, rfl⟩
  · have HE := Aside0.mk e0
    clear hp e0 hx
    go_wp2
    go_ret
    exact ⟨by rw [HE.out]; rfl, rfl⟩
set_option maxHeartbeats 4000000 in
theorem clock_calls (h : EngAt W base ρ g s cells vs) : Calls Try.prog 23 #[.pointer (some ⟨g, 0, none⟩)] W fun e w' => e = .returned (.int .i64 s.clock) ∧ W = w' := by
  have k0 := h.cell0
  clear h
  go_enter Try.func23, Try.ntmps23
  go_wp2
  go_ret
  exact ⟨rfl, rfl⟩
def startE (s : PEng) (t : Int) : Int := match ofE s t with | none => 0 | some x => x.start
set_option maxHeartbeats 4000000 in
theorem start_calls (h : EngAt W base ρ g s cells vs) (t : Int) : Calls Try.prog 27 #[.pointer (some ⟨g, 0, none⟩), .int .i64 t] W fun e w' => e = .returned (.int .i64 (startE s t)) ∧ W = w' := by
  have hof := of_calls h t
  clear h
  go_enter Try.func27, Try.ntmps27
  go_wp2_with fail
  refine hof.mono ?_; rintro e w' ⟨⟨p, rfl, hp⟩, rfl⟩
  clear hof
  rcases hp.form with ⟨e0, rfl⟩ | ⟨x, tn, gt, rd, pa, lf, ms, e0, rfl, ht, rfl, hcc, hx⟩
  · have HE := Aside0.mk (show startE s t = 0 by unfold startE; rw [e0])
    clear hp e0
    go_wp2
    go_ret
    exact ⟨by rw [HE.out]; rfl, rfl⟩
  · have HE := Aside0.mk (show startE s tn = x.start by unfold startE; rw [e0])
    have k0 := blk_cell hx.blk 0
    clear hp e0 hx
    go_wp2
    go_ret
    exact ⟨by rw [HE.out]; rfl, rfl⟩
def valueE (s : PEng) (n : Int) : Int × Int := if isE s n then ((varE s n).value, 0) else (0, 1)
set_option maxHeartbeats 4000000 in
theorem value_calls (h : EngAt W base ρ g s cells vs) (n : Int) : Calls Try.prog 22 #[.pointer (some ⟨g, 0, none⟩), .int .i64 n] W fun e w' => e = .returned (.tuple #[.int .i64 (valueE s n).1, .int .i64 (valueE s n).2]) ∧ W = w' := by
  have HV := Aside0.mk (show valueE s n = if isE s n then ((varE s n).value, 0) else (0, 1) from rfl)
  have his := is_calls h n
  have k1 := h.cell1
  have hN := h.vars
  clear h
  go_enter Try.func22, Try.ntmps22
  go_wp2_with fail
  refine his.mono ?_; rintro e w' ⟨rfl, rfl⟩
  clear his
  cases hb : isE s n with
  | false =>
    have HE := Aside0.mk (show valueE s n = (0, 1) by rw [HV.out, hb]; rfl)
    go_wp2
    go_ret2
    rw [HE.out]
    exact ⟨rfl, rfl⟩
  | true =>
    obtain ⟨hn0, hn1⟩ := isE_iff.1 hb
    obtain ⟨i, rfl⟩ : ∃ i : Nat, n = i := ⟨n.toNat, by omega⟩
    have hi : i < s.vars.length := by omega
    obtain ⟨gv, cap, rfl, hcap, c0, c1, c2, _⟩ := rowV_at hN hi
    have HE := Aside0.mk (show valueE s i = (s.vars[i].value, 0) by rw [HV.out, hb, varE_at hi]; rfl)
    generalize s.vars[i] = y at *
    clear hN HV hi hb
    go_wp2
    go_ret2
    rw [HE.out]
    exact ⟨rfl, rfl⟩
def newerE (s : PEng) (n than : Int) : Bool := isE s n && decide (than < (varE s n).version)
set_option maxHeartbeats 4000000 in
theorem newer_calls (h : EngAt W base ρ g s cells vs) (n than : Int) : Calls Try.prog 58 #[.pointer (some ⟨g, 0, none⟩), .int .i64 n, .int .i64 than] W fun e w' => e = .returned (.bool (newerE s n than)) ∧ W = w' := by
  have HV := Aside0.mk (show newerE s n than = (isE s n && decide (than < (varE s n).version)) from rfl)
  have his := is_calls h n
  have k1 := h.cell1
  have hN := h.vars
  clear h
  go_enter Try.func58, Try.ntmps58
  go_wp2_with fail
  refine his.mono ?_; rintro e w' ⟨rfl, rfl⟩
  clear his
  cases hb : isE s n with
  | false =>
    have HE := Aside0.mk (show newerE s n than = false by rw [HV.out, hb]; rfl)
    go_wp2
    go_ret
    exact ⟨by rw [HE.out]; rfl, rfl⟩
  | true =>
    obtain ⟨hn0, hn1⟩ := isE_iff.1 hb
    obtain ⟨i, rfl⟩ : ∃ i : Nat, n = i := ⟨n.toNat, by omega⟩
    have hi : i < s.vars.length := by omega
    obtain ⟨gv, cap, rfl, hcap, c0, c1, c2, _⟩ := rowV_at hN hi
    have HE := Aside0.mk (show newerE s i than = decide (than < s.vars[i].version) by rw [HV.out, hb, varE_at hi]; rfl)
    generalize s.vars[i] = y at *
    clear hN HV hi hb
    go_wp2
    go_ret
    exact ⟨by rw [HE.out]; rfl, rfl⟩
set_option maxHeartbeats 4000000 in
/-- look: x is some transaction's block. -/
theorem look_calls (h : EngAt W base ρ g s cells vs) (t : Int) {gt : Nat} {st : Int} (hst : W.cell? ⟨gt, 0, none⟩ = some (.int .i64 st)) (hgt : gt < W.heap.size) {i : Nat} (hi : i < s.vars.length) :
    Calls Try.prog 44 #[.pointer (some ⟨g, 0, none⟩), .int .i64 t, .pointer (some ⟨gt, 0, none⟩), .int .i64 i] W fun e w' => e = .returned (.int .i64 (lookE s t st i)) ∧ Below W.heap.size W w' := by
  have HV := Aside0.mk (show lookE s t st i = if s.vars[i].lock != -1 && s.vars[i].lock != t then 32 else if st < s.vars[i].version then 33 else 0 by unfold lookE; rw [varE_at hi])
  have k1 := h.cell1
  obtain ⟨gv, cap, rfl, hcap, c0, c1, c2, _⟩ := rowV_at h.vars hi
  have hiz : (i : Int) < (s.vars.length : Int) := by omega
  have HB := Aside0.mk (below_1 W (.cells #[.int .i64 s.vars[i].value, .int .i64 s.vars[i].version, .int .i64 s.vars[i].lock] 92))
  generalize s.vars[i] = y at *
  clear h hi
  have hne : W.heap.size ≠ gt := by omega
  cases e1 : (y.lock == -1) with
  | true =>
    have e1c : (y.lock != -1) = false := by simp [bne, e1]
    by_cases hv : st < y.version
    · have HE := Aside0.mk (show lookE s t st i = 33 by rw [HV.out, e1c, if_neg (by simp), if_pos hv])
      clear HV
      go_enter Try.func44, Try.ntmps44
      go_wp2_with fail
      go_quiet (fail)
      go_wp2
      go_ret
      exact ⟨by rw [HE.out]; rfl, pw_below_drewN HB.out _⟩
    · have HE := Aside0.mk (show lookE s t st i = 0 by rw [HV.out, e1c, if_neg (by simp), if_neg hv])
      clear HV
      go_enter Try.func44, Try.ntmps44
      go_wp2_with fail
      go_quiet (fail)
      go_wp2
      go_ret
      exact ⟨by rw [HE.out]; rfl, pw_below_drewN HB.out _⟩
  | false =>
    have e1c : (y.lock != -1) = true := by simp [bne, e1]
    cases e2 : (y.lock == t) with
    | true =>
      have e2c : (y.lock != t) = false := by simp [bne, e2]
      by_cases hv : st < y.version
      · have HE := Aside0.mk (show lookE s t st i = 33 by rw [HV.out, e1c, e2c, if_neg (by decide), if_pos hv])
        clear HV
        go_enter Try.func44, Try.ntmps44
        go_wp2_with fail
        go_quiet (fail)
        go_wp2
        go_ret
        exact ⟨by rw [HE.out]; rfl, pw_below_drewN HB.out _⟩
      · have HE := Aside0.mk (show lookE s t st i = 0 by rw [HV.out, e1c, e2c, if_neg (by decide), if_neg hv])
        clear HV
        go_enter Try.func44, Try.ntmps44
        go_wp2_with fail
        go_quiet (fail)
        go_wp2
        go_ret
        exact ⟨by rw [HE.out]; rfl, pw_below_drewN HB.out _⟩
    | false =>
      have e2c : (y.lock != t) = true := by simp [bne, e2]
      have HE := Aside0.mk (show lookE s t st i = 32 by rw [HV.out, e1c, e2c]; rfl)
      clear HV
      go_enter Try.func44, Try.ntmps44
      go_wp2
      go_ret
      exact ⟨by rw [HE.out]; rfl, HB.out⟩
set_option maxHeartbeats 4000000 in
/-- last: the youngest part's map. -/
theorem last_calls {t : Nat} {gt : Nat} {x : PTx} {rd pa lf : Value} {ms : List Nat} (h : TxAt W base ρ t gt x rd pa lf ms) {k : Nat} (hk : ms.length = k + 1) (hkb : k ≤ 1000000) :
    Calls Try.prog 41 #[.pointer (some ⟨gt, 0, none⟩)] W fun e w' => e = .returned (.map (some (ms[k]'(by omega)))) ∧ Below W.heap.size W w' := by
  have k3 := blk_cell h.blk 3
  obtain ⟨gv, cap, rfl, hcap, c0⟩ := rowP_at h.parts (i := k) (by omega)
  generalize ms[k]'(by omega) = m at *
  clear h
  generalize ms.length = n at *
  subst hk
  have hkz : (0 : Int) ≤ (k : Int) := by omega
  have hkl : (k : Int) < (k : Int) + 1 := by omega
  have hw : IntKind.i64.wrap (k : Int) = (k : Int) := IntWalk.i64_in _ (by omega)
  go_enter Try.func41, Try.ntmps41
  go_wp2_with fail
  go_quiet (fail)
  go_wp2
  go_ret
  exact ⟨rfl, pw_below_drewN (Below.refl _ _) _⟩
end
end Go.Proofs.Ytcnbgamalhfkmaa.P
