/- tl2: the document's engine: plain model, in memory; New. -/
import Derived.Test.YtcnbgamalhfkmaaC2
namespace Go.Proofs.Ytcnbgamalhfkmaa.P
open Go.RowKit Go.Proofs.YtcnbgamalhfkmaaW.PrintWords Go.Proofs.YtcnbgamalhfkmaaW.PrintLast Go.Proofs.YtcnbgamalhfkmaaW.PrintMore
set_option linter.unusedVariables false
set_option linter.unusedSimpArgs false
open Go.WideShapes Go.Maps
structure RPut where
  n : Int
  v : Int
  part : Int
structure RTx where
  is : Bool
  start : Int
  reads : List Int
  puts : List RPut
  parts : Int
  commits : Bool
  stamp : Int
  done : Int
structure REng where
  clock : Int
  vars : List PVar
  txs : List RTx
def zR : RTx := ⟨false, 0, [], [], 0, false, 0, 0⟩
def newR : REng := ⟨0, [], List.replicate 8 zR⟩
def makeR (s : REng) (v : Int) : Int × Int × REng := if s.vars.length = 4000 then (0, 16, s) else (s.vars.length, 0, { s with vars := s.vars ++ [⟨v, 0, -1⟩] })
def kW : Kd RPut := Kd.iso (Kd.pair (Kd.int .i64) (Kd.pair (Kd.int .i64) (Kd.int .i64))) (fun x : RPut => (x.n, x.v, x.part))
def rcells (x : RTx) (rd pu : Value) : List Value := [.bool x.is, .int .i64 x.start, rd, pu, .int .i64 x.parts, .bool x.commits, .int .i64 x.stamp, .int .i64 x.done]
def zT : Array Value := #[.bool false, .int .i64 0, .slice none 0 0, .slice none 0 0, .int .i64 0, .bool false, .int .i64 0, .int .i64 0, .bool false, .int .i64 0, .slice none 0 0, .slice none 0 0, .int .i64 0, .bool false, .int .i64 0, .int .i64 0, .bool false, .int .i64 0, .slice none 0 0, .slice none 0 0, .int .i64 0, .bool false, .int .i64 0, .int .i64 0, .bool false, .int .i64 0, .slice none 0 0, .slice none 0 0, .int .i64 0, .bool false, .int .i64 0, .int .i64 0,
  .bool false, .int .i64 0, .slice none 0 0, .slice none 0 0, .int .i64 0, .bool false, .int .i64 0, .int .i64 0, .bool false, .int .i64 0, .slice none 0 0, .slice none 0 0, .int .i64 0, .bool false, .int .i64 0, .int .i64 0, .bool false, .int .i64 0, .slice none 0 0, .slice none 0 0, .int .i64 0, .bool false, .int .i64 0, .int .i64 0, .bool false, .int .i64 0, .slice none 0 0, .slice none 0 0, .int .i64 0, .bool false, .int .i64 0, .int .i64 0]
theorem info69 : (Try.prog.info? 69).map (fun i => (i.zero, i.size, i.bytes)) = some (some (.agg #[.int .i64 0, .int .i64 0, .int .i64 0]), 3, 24) := by kernel_rfl
/-- The roles of the ref engine's blocks: its own 1, the vars' row 2, the transactions' row 3; per thread what it has read 8 + 2 t, its puts 9 + 2 t. -/
structure RTxAt (W : World) (base : Nat) (σ : Nat → Nat) (t : Nat) (tc : Array Value) (x : RTx) : Prop where
  ex : ∃ rd pu, (∀ j u, (rcells x rd pu)[j]? = some u → tc[8 * t + j]? = some u) ∧ Kd.N kI 3 W base (fun k => σ k = 8 + 2 * t) rd x.reads ∧ Kd.N kW 61 W base (fun k => σ k = 9 + 2 * t) pu x.puts
structure RefAt (W : World) (base : Nat) (σ : Nat → Nat) (a : Nat) (s : REng) (V : Value) (gt : Nat) (tc : Array Value) : Prop where
  role : σ a = 1
  own : ∀ k, σ k ≠ 0 → base ≤ k ∧ k < W.heap.size
  blk : W.heap[a]? = some (.cells #[.int .i64 s.clock, V, .slice (some ⟨gt, 0, none⟩) 8 8] 55 (0, 0))
  vars : Kd.N kV 69 W base (fun k => σ k = 2) V s.vars
  trole : σ gt = 3
  tblk : W.heap[gt]? = some (.cells tc 51 (0, 0))
  tsize : tc.size = 64
  len : s.txs.length = 8
  txs : ∀ t, t < 8 → RTxAt W base σ t tc (s.txs.getD t zR)
set_option maxRecDepth 100000 in
set_option maxHeartbeats 4000000 in
theorem rnew_calls (w : World) : Calls Try.prog 36 #[] w fun e w' => e = .returned (.pointer (some ⟨w.heap.size + 1, 0, none⟩)) ∧ (w.alloc (.cells zT 51)).alloc (.cells #[.int .i64 0, .slice none 0 0, .slice (some ⟨w.heap.size, 0, none⟩) 8 8] 55) = w' := by
  have hmk : ∀ w, (Instr.makeSlice 53 (.int .i64 8) (.int .i64 8)).run Try.prog w = .ok (.slice (some ⟨w.heap.size, 0, none⟩) 8 8) (w.alloc (.cells zT 51)) := fun _ => by kernel_rfl
  go_enter Try.func36, Try.ntmps36
  go_wp2
  go_ret
  exact ⟨rfl, rfl⟩
end Go.Proofs.Ytcnbgamalhfkmaa.P
