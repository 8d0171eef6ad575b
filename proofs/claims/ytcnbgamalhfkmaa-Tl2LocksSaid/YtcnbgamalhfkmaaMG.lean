/- tl2: the document's engine: the plain model of its methods; a transaction in memory, turned. tl2: the document's engine: has, open, is, look, valid, Valid, Begin, Part. tl2: the document's engine: valid, Valid, Begin, Part. tl2: the document's engine: put, Write. -/
import Derived.Test.YtcnbgamalhfkmaaMF
import Derived.Test.YtcnbgamalhfkmaaMA
import Derived.Test.YtcnbgamalhfkmaaMB
namespace Go.Proofs.Ytcnbgamalhfkmaa.P
open Go.RowKit Go.Proofs.YtcnbgamalhfkmaaW.PrintWords Go.Proofs.YtcnbgamalhfkmaaW.PrintLast Go.Proofs.YtcnbgamalhfkmaaW.PrintMore
set_option linter.unusedVariables false
set_option linter.unusedSimpArgs false
open Go.WideShapes Go.Maps
def txR (s : REng) (t : Int) : RTx := s.txs.getD t.toNat zR
def hasR (s : REng) (t : Int) : Bool := inT t && (txR s t).is
def openR (s : REng) (t : Int) : Bool := hasR s t && !(txR s t).commits
def isR (s : REng) (n : Int) : Bool := decide (0 ≤ n) && decide (n < s.vars.length)
def varR (s : REng) (n : Int) : PVar := s.vars.getD n.toNat zV
def setTR (s : REng) (t : Int) (x : RTx) : REng := { s with txs := s.txs.set t.toNat x }
def setVR (s : REng) (n : Int) (v : PVar) : REng := { s with vars := s.vars.set n.toNat v }
def beginR (s : REng) (t : Int) : Int × REng := if !inT t || (txR s t).is then (1, s) else (0, setTR s t ⟨true, s.clock, [], [], 1, false, 0, 0⟩)
def lookR (s : REng) (t n : Int) : Int :=
  let v := varR s n
  if decide (0 ≤ v.lock) && v.lock != t then 32 else if (txR s t).start < v.version then 33 else 0
/-- The put of var n that counts. -/
def betterP (n : Int) (b : Option RPut) (p : RPut) : Bool := p.n == n && (match b with | none => true | some q => decide (q.part < p.part))
def bestP (n : Int) : Option RPut → List RPut → Option RPut
  | b, [] => b
  | b, p :: r => bestP n (if betterP n b p then some p else b) r
def readR (s : REng) (t n : Int) : Int × Int × REng :=
  if !openR s t || !isR s n then (0, 1, s) else
  match bestP n none (txR s t).puts with
  | some p => (p.v, 0, s)
  | none =>
    let f := lookR s t n
    if f != 0 then (0, f, s) else
    ((varR s n).value, 0, if (txR s t).reads.contains n then s else setTR s t { txR s t with reads := (txR s t).reads ++ [n] })
def putL (n v part : Int) : List RPut → List RPut
  | [] => [⟨n, v, part⟩]
  | p :: r => if p.n == n && p.part == part then ⟨p.n, v, p.part⟩ :: r else p :: putL n v part r
def writeR (s : REng) (t n v : Int) : Int × REng :=
  if !openR s t || !isR s n then (1, s) else (0, setTR s t { txR s t with puts := putL n v (txR s t).parts (txR s t).puts })
def partR (s : REng) (t : Int) : Int × REng := if !openR s t then (1, s) else (0, setTR s t { txR s t with parts := (txR s t).parts + 1 })
def shutR (s : REng) (t : Int) (keep : Bool) : Int × REng :=
  if !openR s t || (txR s t).parts == 1 then (1, s) else
  let k := (txR s t).parts
  let own := (txR s t).puts.filter fun p => p.part == k
  let rest := (txR s t).puts.filter fun p => !(p.part == k)
  (0, setTR s t { txR s t with puts := if keep then own.foldl (fun r p => putL p.n p.v (k - 1) r) rest else rest, parts := k - 1 })
def validRL (s : REng) (t : Int) : List Int → Int
  | [] => 0
  | n :: r => let f := lookR s t n; if f != 0 then f else validRL s t r
def validR (s : REng) (t : Int) : Int := if !openR s t then 1 else validRL s t (txR s t).reads
/-- The least put of a part above last. -/
def lessP (part last : Int) (b : Option RPut) (p : RPut) : Bool := p.part == part && decide (last < p.n) && (match b with | none => true | some q => decide (p.n < q.n))
def nextP (part last : Int) : Option RPut → List RPut → Option RPut
  | b, [] => b
  | b, p :: r => nextP part last (if lessP part last b p then some p else b) r
def sortedF (l : List RPut) (part : Int) : Nat → Int → List RPut
  | 0, _ => []
  | k + 1, last => match nextP part last none l with | none => [] | some p => p :: sortedF l part k p.n
def sortedR (l : List RPut) (part : Int) : List RPut := sortedF l part (l.length + 1) (-1)
def lockRL (s : REng) (t : Int) : List RPut → Option Int
  | [] => none
  | p :: r => if (varR s p.n).lock == t then lockRL s t r else some p.n
def zP : RPut := ⟨0, 0, 0⟩
def stepR (s : REng) (t : Int) : Int × Int × REng :=
  if !hasR s t || decide (1 < (txR s t).parts) then (0, 1, s) else
  let x1 := { txR s t with commits := true }
  let s1 := setTR s t x1
  let l := sortedR x1.puts 1
  if decide (0 < x1.stamp) then
    let p := l.getD x1.done.toNat zP
    let s2 := setVR s1 p.n ⟨p.v, x1.stamp, -1⟩
    if decide (x1.done + 1 < l.length) then (3, 0, setTR s2 t { x1 with done := x1.done + 1 }) else (4, 0, setTR s2 t zR)
  else
    match lockRL s t l with
    | some n => if decide (0 ≤ (varR s n).lock) then (0, 32, s1) else (1, 0, setVR s1 n { varR s n with lock := t })
    | none =>
      let f := validRL s t x1.reads
      if f != 0 then (0, f, s1) else
      if l.isEmpty then (4, 0, setTR s1 t zR) else
      (2, 0, { setTR s1 t { x1 with stamp := s.clock + 1 } with clock := s.clock + 1 })
def abortR (s : REng) (t : Int) : Int × REng :=
  if !hasR s t || decide (0 < (txR s t).stamp) then (1, s) else (0, setTR { s with vars := s.vars.map fun v => if v.lock == t then { v with lock := -1 } else v } t zR)
def partsW8 (l : List RPut) : Nat → List Int
  | 0 => []
  | k + 1 => partsW8 l k ++ (sortedR l ((k : Int) + 1)).map (·.v)
def wordsR (s : REng) : List Int := s.vars.map (·.value) ++ s.txs.flatMap fun x => if x.is then partsW8 x.puts x.parts.toNat else []
/-! in memory -/
theorem rowR_at {w : World} {base : Nat} {ok : Nat → Prop} {vs : Value} {vars : List PVar} (h : Kd.N kV 69 w base ok vs vars) {i : Nat} (hi : i < vars.length) :
    ∃ gv cap, vs = .slice (some ⟨gv, 0, none⟩) vars.length cap ∧ vars.length ≤ cap ∧ w.cell? ⟨gv, i * 3, none⟩ = some (.int .i64 vars[i].value) ∧ w.cell? ⟨gv, i * 3 + 1, none⟩ = some (.int .i64 vars[i].version) ∧ w.cell? ⟨gv, i * 3 + 2, none⟩ = some (.int .i64 vars[i].lock) ∧ ∀ j, w.frozen? ⟨gv, i * 3 + j, none⟩ = false := by
  obtain ⟨gv, cap, rfl, _, _, _⟩ := Kd.N_form h (by omega)
  obtain ⟨c, hcl, hK, hc, hf⟩ := Kd.N_elem h zV (i : Int) (by omega) (by omega)
  rw [Int.toNat_natCast, List.getD_eq_getElem?_getD, List.getElem?_eq_getElem hi, Option.getD_some] at hK
  obtain rfl := kV_open (Kd.FK_now hK)
  exact ⟨gv, cap, rfl, (Kd.N_reads' h).2.1, hc 0 _ rfl, hc 1 _ rfl, hc 2 _ rfl, fun j => hf j⟩
theorem rowW_at {w : World} {base : Nat} {ok : Nat → Prop} {vs : Value} {l : List RPut} (h : Kd.N kW 61 w base ok vs l) {i : Nat} (hi : i < l.length) :
    ∃ gv cap, vs = .slice (some ⟨gv, 0, none⟩) l.length cap ∧ l.length ≤ cap ∧ w.cell? ⟨gv, i * 3, none⟩ = some (.int .i64 l[i].n) ∧ w.cell? ⟨gv, i * 3 + 1, none⟩ = some (.int .i64 l[i].v) ∧ w.cell? ⟨gv, i * 3 + 2, none⟩ = some (.int .i64 l[i].part) ∧ ∀ j, w.frozen? ⟨gv, i * 3 + j, none⟩ = false := by
  obtain ⟨gv, cap, rfl, _, _, _⟩ := Kd.N_form h (by omega)
  obtain ⟨c, hcl, hK, hc, hf⟩ := Kd.N_elem h zP (i : Int) (by omega) (by omega)
  rw [Int.toNat_natCast, List.getD_eq_getElem?_getD, List.getElem?_eq_getElem hi, Option.getD_some] at hK
  obtain rfl := kW_open (Kd.FK_now hK)
  exact ⟨gv, cap, rfl, (Kd.N_reads' h).2.1, hc 0 _ rfl, hc 1 _ rfl, hc 2 _ rfl, fun j => hf j⟩
theorem txR_nat (s : REng) (t : Nat) : txR s (t : Int) = s.txs.getD t zR := rfl
theorem varR_at {s : REng} {i : Nat} (hi : i < s.vars.length) : varR s (i : Int) = s.vars[i] := by
  unfold varR
  rw [Int.toNat_natCast, List.getD_eq_getElem?_getD, List.getElem?_eq_getElem hi, Option.getD_some]
theorem isR_iff {s : REng} {n : Int} : isR s n = true ↔ 0 ≤ n ∧ n < s.vars.length := by simp [isR]
section
variable {W : World} {base : Nat} {σ : Nat → Nat} {a : Nat} {s : REng} {V : Value} {gt : Nat} {tc : Array Value}
theorem RefAt.cell0 (h : RefAt W base σ a s V gt tc) : W.cell? ⟨a, 0, none⟩ = some (.int .i64 s.clock) := blk_cell h.blk 0
theorem RefAt.cell1 (h : RefAt W base σ a s V gt tc) : W.cell? ⟨a, 1, none⟩ = some V := blk_cell h.blk 1
theorem RefAt.cell2 (h : RefAt W base σ a s V gt tc) : W.cell? ⟨a, 2, none⟩ = some (.slice (some ⟨gt, 0, none⟩) 8 8) := blk_cell h.blk 2
/-- A thread's cells. -/
structure RCells (W : World) (base : Nat) (σ : Nat → Nat) (t gt : Nat) (tc : Array Value) (x : RTx) (rd pu : Value) : Prop where
  all : ∀ j u, (rcells x rd pu)[j]? = some u → tc[8 * t + j]? = some u
  reads : Kd.N kI 3 W base (fun k => σ k = 8 + 2 * t) rd x.reads
  puts : Kd.N kW 61 W base (fun k => σ k = 9 + 2 * t) pu x.puts
  froz : ∀ j, W.frozen? ⟨gt, t * 8 + j, none⟩ = false
  c0 : W.cell? ⟨gt, t * 8, none⟩ = some (.bool x.is)
  c1 : W.cell? ⟨gt, t * 8 + 1, none⟩ = some (.int .i64 x.start)
  c2 : W.cell? ⟨gt, t * 8 + 2, none⟩ = some rd
  c3 : W.cell? ⟨gt, t * 8 + 3, none⟩ = some pu
  c4 : W.cell? ⟨gt, t * 8 + 4, none⟩ = some (.int .i64 x.parts)
  c5 : W.cell? ⟨gt, t * 8 + 5, none⟩ = some (.bool x.commits)
  c6 : W.cell? ⟨gt, t * 8 + 6, none⟩ = some (.int .i64 x.stamp)
  c7 : W.cell? ⟨gt, t * 8 + 7, none⟩ = some (.int .i64 x.done)
theorem RefAt.cells (h : RefAt W base σ a s V gt tc) {t : Nat} (ht : t < 8) : ∃ rd pu, RCells W base σ t gt tc (txR s t) rd pu := by
  obtain ⟨rd, pu, h1, h2, h3⟩ := (h.txs t ht).ex
  have hc : ∀ j u, (rcells (txR s t) rd pu)[j]? = some u → W.cell? ⟨gt, t * 8 + j, none⟩ = some u := fun j u hj => by
    rw [blk_cell h.tblk, Nat.mul_comm t 8]; exact h1 j u hj
  exact ⟨rd, pu, h1, h2, h3, fun j => blk_frozen h.tblk _, hc 0 _ rfl, hc 1 _ rfl, hc 2 _ rfl, hc 3 _ rfl, hc 4 _ rfl, hc 5 _ rfl, hc 6 _ rfl, hc 7 _ rfl⟩
/-- One transaction turned. -/
theorem RefAt.turn (h : RefAt W base σ a s V gt tc) {t : Nat} (ht : t < 8) {W' : World} {σ' : Nat → Nat} {tc' : Array Value} {x' : RTx}
    (hs : Same W σ σ') (hown : ∀ k, σ' k ≠ 0 → base ≤ k ∧ k < W'.heap.size) (hh : ∀ k, σ k ≠ 0 → σ k ≠ 3 → σ k ≠ 8 + 2 * t → σ k ≠ 9 + 2 * t → W'.heap[k]? = W.heap[k]?)
    (htb : W'.heap[gt]? = some (.cells tc' 51 (0, 0))) (hsz : tc'.size = 64) (hto : ∀ i, i < 8 * t ∨ 8 * t + 8 ≤ i → tc'[i]? = tc[i]?) (hx : RTxAt W' base σ' t tc' x') : RefAt W' base σ' a (setTR s (t : Int) x') V gt tc' := by
  have hr : ∀ k, σ k ≠ 0 → σ' k = σ k := fun k hk => hs k (h.own k hk).2
  refine ⟨by rw [hr a (by rw [h.role]; omega)]; exact h.role, hown, (hh a (by rw [h.role]; omega) (by rw [h.role]; omega) (by rw [h.role]; omega) (by rw [h.role]; omega)).trans h.blk, ?_, by rw [hr gt (by rw [h.trole]; omega)]; exact h.trole, htb, hsz, by simp [setTR, h.len], fun t' ht' => ?_⟩
  · exact N_flat kV_flat (N_flat_move kV_flat h.vars fun k hk => by have := h.vars.1 k hk; exact hh k (by omega) (by omega) (by omega) (by omega)) fun k hk => by have := h.vars.1 k hk; show σ' k = 2; rw [hr k (by omega)]; exact this
  · by_cases e : t' = t
    · subst e
      have : (setTR s (t' : Int) x').txs.getD t' zR = x' := by simp [setTR, List.getD_eq_getElem?_getD, h.len, ht]
      rw [this]; exact hx
    · have : (setTR s (t : Int) x').txs.getD t' zR = s.txs.getD t' zR := by
        simp only [setTR, List.getD_eq_getElem?_getD, Int.toNat_natCast]
        rw [List.getElem?_set_ne (Ne.symm e)]
      rw [this]
      obtain ⟨rd, pu, h1, h2, h3⟩ := (h.txs t' ht').ex
      refine ⟨rd, pu, fun j u hj => ?_, N_flat kI_flat (N_flat_move kI_flat h2 fun k hk => ?_) (fun k hk => ?_), N_flat kW_flat (N_flat_move kW_flat h3 fun k hk => ?_) (fun k hk => ?_)⟩
      · have hjl : j < 8 := by have := (List.getElem?_eq_some_iff.1 hj).1; simpa [rcells] using this
        rw [hto _ (by omega)]; exact h1 j u hj
      · have := h2.1 k hk; exact hh k (by omega) (by omega) (by omega) (by omega)
      · have := h2.1 k hk; show σ' k = _; rw [hr k (by omega)]; exact this
      · have := h3.1 k hk; exact hh k (by omega) (by omega) (by omega) (by omega)
      · have := h3.1 k hk; show σ' k = _; rw [hr k (by omega)]; exact this
/-- Cells of one transaction are written; its rows stay (or are none). -/
theorem RefAt.seg' (h : RefAt W base σ a s V gt tc) {t : Nat} (ht : t < 8) {rd pu rd' pu' : Value} (hc : RCells W base σ t gt tc (txR s t) rd pu) (j : Nat) (seg : List Value) (hj : j + seg.length ≤ 8) {x' : RTx}
    (hr : (rd' = rd ∧ x'.reads = (txR s t).reads) ∨ (rd' = .slice none 0 0 ∧ x'.reads = [])) (hp : (pu' = pu ∧ x'.puts = (txR s t).puts) ∨ (pu' = .slice none 0 0 ∧ x'.puts = []))
    (hM : (rcells (txR s t) rd pu).take j ++ seg ++ (rcells (txR s t) rd pu).drop (j + seg.length) = rcells x' rd' pu') : ∃ tc', RefAt (W.setCells gt (t * 8 + j) seg) base σ a (setTR s (t : Int) x') V gt tc' ∧ Did W base σ σ (W.setCells gt (t * 8 + j) seg) := by
  obtain ⟨tc', hb, hts, hin, hout⟩ : ∃ tc', (W.setCells gt (t * 8 + j) seg).heap[gt]? = some (.cells tc' 51 (0, 0)) ∧ tc'.size = 64 ∧ (∀ i, i < seg.length → tc'[t * 8 + j + i]? = seg[i]?) ∧ ∀ i, (i < t * 8 + j ∨ t * 8 + j + seg.length ≤ i) → tc'[i]? = tc[i]? := by
    have key : ∀ (vs : List Value) (o : Nat) (w : World) (cur : Array Value), w.heap[gt]? = some (.cells cur 51 (0, 0)) → o + vs.length ≤ cur.size → ∃ tc', (w.setCells gt o vs).heap[gt]? = some (.cells tc' 51 (0, 0)) ∧ tc'.size = cur.size ∧ (∀ i, i < vs.length → tc'[o + i]? = vs[i]?) ∧ ∀ i, (i < o ∨ o + vs.length ≤ i) → tc'[i]? = cur[i]? := by
      intro vs
      induction vs with
      | nil => exact fun o w cur hb _ => ⟨cur, hb, rfl, fun i hi => absurd hi (Nat.not_lt_zero i), fun _ _ => rfl⟩
      | cons v vs ih =>
        intro o w cur hb hl
        rw [List.length_cons] at hl
        obtain ⟨tc', h1, h2, h3, h4⟩ := ih (o + 1) (w.setCell ⟨gt, o, none⟩ v) (cur.setIfInBounds o v) (blk_set hb o v) (by simp; omega)
        refine ⟨tc', h1, by rw [h2]; simp, fun i hi => ?_, fun i hi => ?_⟩
        · cases i with
          | zero => rw [Nat.add_zero, h4 o (by omega), Array.getElem?_setIfInBounds_self_of_lt (by omega)]; rfl
          | succ i => rw [show o + (i + 1) = o + 1 + i by omega, h3 i (by simpa using hi)]; rfl
        · rw [List.length_cons] at hi
          rw [h4 i (by omega), Array.getElem?_setIfInBounds_ne (by omega)]
    obtain ⟨tc', h1, h2, h3, h4⟩ := key seg (t * 8 + j) W tc h.tblk (by have := h.tsize; omega)
    exact ⟨tc', h1, by rw [h2, h.tsize], h3, h4⟩
  have hgb := h.own gt (by rw [h.trole]; omega)
  have hfar : ∀ k, k ≠ gt → (W.setCells gt (t * 8 + j) seg).heap[k]? = W.heap[k]? := fun k hk => setCells_far seg _ k hk
  obtain ⟨so, stp, sou, ssz⟩ := setCells_same gt seg (t * 8 + j) W
  have hne : ∀ k, σ k ≠ 3 → (W.setCells gt (t * 8 + j) seg).heap[k]? = W.heap[k]? := fun k hk => hfar k (fun e => hk (by rw [e]; exact h.trole))
  refine ⟨tc', h.turn ht (fun _ _ => rfl) (fun k hk => by rw [ssz]; exact h.own k hk) (fun k _ h3 _ _ => hne k h3) hb hts (fun i hi => hout i (by omega)) ⟨rd', pu', fun i u hi => ?_, ?_, ?_⟩, fun _ _ => rfl, ⟨by rw [ssz]; exact Nat.le_refl _, fun k hk h0 => hfar k (fun e => h0 (by show σ k ≠ 0; rw [e, h.trole]; omega))⟩, ⟨so, stp, sou, by rw [ssz]; exact Nat.le_refl _, fun k hk => hfar k (by omega)⟩⟩
  · rw [← hM] at hi
    have hlen : (rcells (txR s t) rd pu).length = 8 := rfl
    by_cases h1 : i < j
    · rw [List.append_assoc, List.getElem?_append_left (by rw [List.length_take]; omega), List.getElem?_take_of_lt h1] at hi
      rw [hout _ (by omega)]; exact hc.all i u hi
    · by_cases h2 : i < j + seg.length
      · rw [List.append_assoc, List.getElem?_append_right (by rw [List.length_take]; omega), List.length_take, show i - min j (rcells (txR s t) rd pu).length = i - j by omega, List.getElem?_append_left (by omega)] at hi
        rw [show 8 * t + i = t * 8 + j + (i - j) by omega, hin _ (by omega)]; exact hi
      · rw [List.getElem?_append_right (by rw [List.length_append, List.length_take]; omega), List.getElem?_drop, List.length_append, List.length_take, show j + seg.length + (i - (min j (rcells (txR s t) rd pu).length + seg.length)) = i by omega] at hi
        rw [hout _ (by omega)]; exact hc.all i u hi
  · rcases hr with ⟨e1, e2⟩ | ⟨e1, e2⟩
    · rw [e1, e2]; exact N_flat_move kI_flat hc.reads fun k hk => by have := hc.reads.1 k hk; exact hne k (by omega)
    · rw [e1, e2]; exact Kd.N_nil _ _ _ _ _
  · rcases hp with ⟨e1, e2⟩ | ⟨e1, e2⟩
    · rw [e1, e2]; exact N_flat_move kW_flat hc.puts fun k hk => by have := hc.puts.1 k hk; exact hne k (by omega)
    · rw [e1, e2]; exact Kd.N_nil _ _ _ _ _
theorem RefAt.seg (h : RefAt W base σ a s V gt tc) {t : Nat} (ht : t < 8) {rd pu rd' pu' : Value} (hc : RCells W base σ t gt tc (txR s t) rd pu) (j : Nat) (seg : List Value) (hj : j + seg.length ≤ 8) {x' : RTx}
    (hr : (rd' = rd ∧ x'.reads = (txR s t).reads) ∨ (rd' = .slice none 0 0 ∧ x'.reads = [])) (hp : (pu' = pu ∧ x'.puts = (txR s t).puts) ∨ (pu' = .slice none 0 0 ∧ x'.puts = []))
    (hM : (rcells (txR s t) rd pu).take j ++ seg ++ (rcells (txR s t) rd pu).drop (j + seg.length) = rcells x' rd' pu') : RefPost W base σ a (setTR s (t : Int) x') (W.setCells gt (t * 8 + j) seg) := by
  obtain ⟨tc', h1, h2⟩ := h.seg' ht hc j seg hj hr hp hM
  exact ⟨σ, V, gt, tc', h1, h2⟩
/-- Cells of one var are written. -/
theorem RefAt.set_var (h : RefAt W base σ a s V gt tc) {gv cap i j : Nat} {seg : List Value} (hv : V = .slice (some ⟨gv, 0, none⟩) s.vars.length cap) (hi : i < s.vars.length) (hj : j + seg.length ≤ 3) (v' : PVar)
    (hM : ([.int .i64 (varR s i).value, .int .i64 (varR s i).version, .int .i64 (varR s i).lock] : List Value).take j ++ seg ++ ([.int .i64 (varR s i).value, .int .i64 (varR s i).version, .int .i64 (varR s i).lock] : List Value).drop (j + seg.length) = [.int .i64 v'.value, .int .i64 v'.version, .int .i64 v'.lock]) :
    RefAt (W.setCells gv (i * 3 + j) seg) base σ a (setVR s (i : Int) v') V gt tc ∧ Did W base σ σ (W.setCells gv (i * 3 + j) seg) := by
  obtain ⟨gv', cap', e1, hcap, c0, c1, c2, _⟩ := rowR_at h.vars hi
  have hN := h.vars
  rw [hv] at hN
  have e2 := e1.symm.trans hv
  injection e2 with e3 e4 e5
  injection e3 with e3
  injection e3 with e3
  subst e3 e5
  rw [varR_at hi] at hM
  obtain ⟨h1, h2⟩ := Kd.N_seg (d := kV) hN (i : Int) (by omega) (by omega) (c := [.int .i64 s.vars[i].value, .int .i64 s.vars[i].version, .int .i64 s.vars[i].lock]) (seg := seg) (j := j) (okp := fun _ => False) (x' := v') rfl
    (fun q u hq => by
      rw [Int.toNat_natCast, show kV.sz = 3 from rfl]
      match q, hq with
      | 0, hq => obtain rfl := Option.some.inj hq; exact c0
      | 1, hq => obtain rfl := Option.some.inj hq; exact c1
      | 2, hq => obtain rfl := Option.some.inj hq; exact c2) hj (fun W' _ => by rw [hM]; exact kV_mk W' v') (fun _ hk => hk.elim)
  rw [Int.toNat_natCast, show kV.sz = 3 from rfl] at h1 h2
  have hgv : σ gv' = 2 := hN.1 gv' rfl
  have hgb := h.own gv' (by omega)
  have hne : ∀ k, σ k ≠ 0 → σ k ≠ 2 → (W.setCells gv' (i * 3 + j) seg).heap[k]? = W.heap[k]? := fun k h0 hk => h2.block k (h.own k h0).2 (fun e => by injection e with e; subst e; omega)
  refine ⟨⟨h.role, fun k hk => ⟨(h.own k hk).1, Nat.lt_of_lt_of_le (h.own k hk).2 h2.size⟩, (hne a (by rw [h.role]; omega) (by rw [h.role]; omega)).trans h.blk, by rw [hv]; simpa [setVR] using h1, h.trole, (hne gt (by rw [h.trole]; omega) (by rw [h.trole]; omega)).trans h.tblk, h.tsize, h.len, fun t ht => ?_⟩, fun _ _ => rfl, Kept.of_grown h2 (Kept.refl W _) (fun k e => .inl (by injection e with e; subst e; omega)), ⟨h2.os, h2.tape, h2.output, h2.size, fun k hk => h2.block k (by have := h.own a (by rw [h.role]; omega); omega) (fun e => by injection e with e; subst e; omega)⟩⟩
  obtain ⟨rd, pu, g1, g2, g3⟩ := (h.txs t ht).ex
  exact ⟨rd, pu, g1, N_flat_move kI_flat g2 fun k hk => (by have := g2.1 k hk; exact hne k (by omega) (by omega)), N_flat_move kW_flat g3 fun k hk => (by have := g3.1 k hk; exact hne k (by omega) (by omega))⟩
/-- The clock. -/
theorem RefAt.set_clock (h : RefAt W base σ a s V gt tc) (c : Int) : RefAt (W.setCell ⟨a, 0, none⟩ (.int .i64 c)) base σ a { s with clock := c } V gt tc ∧ Did W base σ σ (W.setCell ⟨a, 0, none⟩ (.int .i64 c)) := by
  have hne : ∀ k, σ k ≠ 1 → (W.setCell ⟨a, 0, none⟩ (.int .i64 c)).heap[k]? = W.heap[k]? := fun k h1 => Below.heap_setCell W ⟨a, 0, none⟩ _ k (fun e => h1 (by rw [e]; exact h.role))
  refine ⟨⟨h.role, fun k hk => by rw [setCell_size]; exact h.own k hk, blk_set h.blk 0 _, ?_, h.trole, (hne gt (by rw [h.trole]; omega)).trans h.tblk, h.tsize, h.len, fun t ht => ?_⟩, fun _ _ => rfl, (Kept.refl W _).setCell (.inl (by show σ a ≠ 0; rw [h.role]; omega)) _, (Below.refl _ W).setCell (p := ⟨a, 0, none⟩) (h.own a (by rw [h.role]; omega)).1 _⟩
  · exact N_flat_move kV_flat h.vars fun k hk => hne k (by have := h.vars.1 k hk; omega)
  · obtain ⟨rd, pu, g1, g2, g3⟩ := (h.txs t ht).ex
    exact ⟨rd, pu, g1, N_flat_move kI_flat g2 fun k hk => (by have := g2.1 k hk; exact hne k (by omega)), N_flat_move kW_flat g3 fun k hk => (by have := g3.1 k hk; exact hne k (by omega))⟩
end
end Go.Proofs.Ytcnbgamalhfkmaa.P
namespace Go.Proofs.Ytcnbgamalhfkmaa.P
open Go.RowKit Go.Proofs.YtcnbgamalhfkmaaW.PrintWords Go.Proofs.YtcnbgamalhfkmaaW.PrintLast Go.Proofs.YtcnbgamalhfkmaaW.PrintMore
set_option linter.unusedVariables false
set_option linter.unusedSimpArgs false
open Go.WideShapes Go.Maps
section
variable {W : World} {base : Nat} {σ : Nat → Nat} {a : Nat} {s : REng} {V : Value} {gt : Nat} {tc : Array Value}
theorem RefPost.same (h : RefAt W base σ a s V gt tc) {W' : World} (hb : Below W.heap.size W W') : RefPost W base σ a s W' := ⟨σ, V, gt, tc, h.below hb, Did.of_below hb h.base_le⟩
theorem RefPost.refl (h : RefAt W base σ a s V gt tc) : RefPost W base σ a s W := ⟨σ, V, gt, tc, h, Did.refl⟩
theorem RefPost.after {W1 W2 : World} {s' : REng} (hb : Below W.heap.size W W1) (hbase : base ≤ W.heap.size) (h : RefPost W1 base σ a s' W2) : RefPost W base σ a s' W2 := by
  obtain ⟨σ', V', gt', tc', he, hd⟩ := h
  exact ⟨σ', V', gt', tc', he, (Did.of_below hb hbase).trans hd⟩
theorem RefPost.via {W1 W2 : World} {s' : REng} {σ1 : Nat → Nat} (hd : Did W base σ σ1 W1) (h : RefPost W1 base σ1 a s' W2) : RefPost W base σ a s' W2 := by
  obtain ⟨σ', V', gt', tc', he, hd2⟩ := h
  exact ⟨σ', V', gt', tc', he, hd.trans hd2⟩
set_option maxHeartbeats 4000000 in
theorem rhas_calls (h : RefAt W base σ a s V gt tc) (t : Int) : Calls Try.prog 60 #[.pointer (some ⟨a, 0, none⟩), .int .i64 t] W fun e w' => e = .returned (.bool (hasR s t)) ∧ W = w' := by
  have HO := Aside0.mk (show hasR s t = (inT t && (txR s t).is) from rfl)
  by_cases h0 : t < 0
  · have HE := Aside0.mk (show hasR s t = false by rw [HO.out]; simp [inT]; omega)
    have h0z : ¬ (0 ≤ t) := by omega
    clear h HO
    go_enter Try.func60, Try.ntmps60
    go_wp2
    go_ret
    exact ⟨by rw [HE.out]; rfl, rfl⟩
  · by_cases h8 : 8 ≤ t
    · have HE := Aside0.mk (show hasR s t = false by rw [HO.out]; simp [inT]; omega)
      clear h HO
      go_enter Try.func60, Try.ntmps60
      go_wp2
      go_ret
      exact ⟨by rw [HE.out]; rfl, rfl⟩
    · obtain ⟨tn, rfl⟩ : ∃ tn : Nat, t = tn := ⟨t.toNat, by omega⟩
      have ht : tn < 8 := by omega
      have ht8 : (tn : Int) < 8 := by omega
      obtain ⟨rd, pu, hc⟩ := h.cells ht
      have HE := Aside0.mk (show hasR s tn = (txR s tn).is by rw [HO.out, show inT (tn : Int) = true from inT_iff.2 (by omega)]; rfl)
      have k2 := h.cell2
      have c0 := hc.c0
      generalize (txR s tn).is = q at *
      clear h HO hc h8
      go_enter Try.func60, Try.ntmps60
      go_wp2
      go_ret
      exact ⟨by rw [HE.out]; rfl, rfl⟩
set_option maxHeartbeats 4000000 in
theorem ropen_calls (h : RefAt W base σ a s V gt tc) (t : Int) : Calls Try.prog 65 #[.pointer (some ⟨a, 0, none⟩), .int .i64 t] W fun e w' => e = .returned (.bool (openR s t)) ∧ W = w' := by
  have HO := Aside0.mk (show openR s t = (hasR s t && !(txR s t).commits) from rfl)
  have hh := rhas_calls h t
  cases hb : hasR s t with
  | false =>
    have HE := Aside0.mk (show openR s t = false by rw [HO.out, hb]; rfl)
    rw [hb] at hh
    clear h HO
    go_enter Try.func65, Try.ntmps65
    go_wp2_with fail
    refine hh.mono ?_; rintro e w' ⟨rfl, rfl⟩
    clear hh
    go_wp2
    go_ret
    exact ⟨by rw [HE.out]; rfl, rfl⟩
  | true =>
    have hin : inT t = true := by unfold hasR at hb; simp at hb; exact hb.1
    have ht2 := inT_iff.1 hin
    obtain ⟨tn, rfl⟩ : ∃ tn : Nat, t = tn := ⟨t.toNat, by omega⟩
    have ht : tn < 8 := by omega
    have ht8 : (tn : Int) < 8 := by omega
    obtain ⟨rd, pu, hc⟩ := h.cells ht
    have HE := Aside0.mk (show openR s tn = !(txR s tn).commits by rw [HO.out, hb]; rfl)
    rw [hb] at hh
    have k2 := h.cell2
    have c5 := hc.c5
    generalize (txR s tn).commits = q at *
    clear h HO hc
    go_enter Try.func65, Try.ntmps65
    go_wp2_with fail
    refine hh.mono ?_; rintro e w' ⟨rfl, rfl⟩
    clear hh
    go_wp2
    go_ret
    exact ⟨by rw [HE.out]; rfl, rfl⟩
set_option maxHeartbeats 4000000 in
theorem ris_calls (h : RefAt W base σ a s V gt tc) (n : Int) : Calls Try.prog 66 #[.pointer (some ⟨a, 0, none⟩), .int .i64 n] W fun e w' => e = .returned (.bool (isR s n)) ∧ W = w' := by
  have HO := Aside0.mk (show isR s n = (decide (0 ≤ n) && decide (n < s.vars.length)) from rfl)
  have k1 := h.cell1
  obtain ⟨A, c, rfl⟩ := Kd.N_slice h.vars
  clear h
  by_cases h0 : 0 ≤ n
  · by_cases h1 : n < s.vars.length
    · have HE := Aside0.mk (show isR s n = true by rw [HO.out]; simp [h0, h1])
      go_enter Try.func66, Try.ntmps66
      go_wp2
      go_ret
      exact ⟨by rw [HE.out]; rfl, rfl⟩
    · have HE := Aside0.mk (show isR s n = false by rw [HO.out]; simp [h0, h1])
      go_enter Try.func66, Try.ntmps66
      go_wp2
      go_ret
      exact ⟨by rw [HE.out]; rfl, rfl⟩
  · have HE := Aside0.mk (show isR s n = false by rw [HO.out]; simp [h0])
    go_enter Try.func66, Try.ntmps66
    go_wp2
    go_ret
    exact ⟨by rw [HE.out]; rfl, rfl⟩
set_option maxHeartbeats 4000000 in
theorem rlook_calls (h : RefAt W base σ a s V gt tc) {t : Nat} (ht : t < 8) {i : Nat} (hi : i < s.vars.length) :
    Calls Try.prog 67 #[.pointer (some ⟨a, 0, none⟩), .int .i64 t, .int .i64 i] W fun e w' => e = .returned (.int .i64 (lookR s t i)) ∧ Below W.heap.size W w' := by
  have HV := Aside0.mk (show lookR s t i = if decide (0 ≤ s.vars[i].lock) && s.vars[i].lock != t then 32 else if (txR s t).start < s.vars[i].version then 33 else 0 by unfold lookR; rw [varR_at hi])
  have k1 := h.cell1
  have k2 := h.cell2
  obtain ⟨rd, pu, hc⟩ := h.cells ht
  have c1 := hc.c1
  obtain ⟨gv, cap, rfl, hcap, v0, v1, v2, _⟩ := rowR_at h.vars hi
  have hiz : (i : Int) < (s.vars.length : Int) := by omega
  have ht8 : (t : Int) < 8 := by omega
  generalize s.vars[i] = y at *
  generalize (txR s t).start = st at *
  clear h hi hc
  have hcase : (0 ≤ y.lock ∧ (y.lock != (t : Int)) = true) ∨ (¬ 0 ≤ y.lock) ∨ (0 ≤ y.lock ∧ (y.lock != (t : Int)) = false) := by
    by_cases e : 0 ≤ y.lock
    · cases e2 : (y.lock != (t : Int))
      · exact .inr (.inr ⟨e, rfl⟩)
      · exact .inl ⟨e, rfl⟩
    · exact .inr (.inl e)
  rcases hcase with ⟨e1, e2⟩ | e1 | ⟨e1, e2⟩
  · have HE := Aside0.mk (show lookR s t i = 32 by rw [HV.out, e2, decide_eq_true e1]; rfl)
    clear HV
    go_enter Try.func67, Try.ntmps67
    go_wp2
    go_ret
    exact ⟨by rw [HE.out]; rfl, Below.refl _ _⟩
  · by_cases hv : st < y.version
    · have HE := Aside0.mk (show lookR s t i = 33 by rw [HV.out, decide_eq_false e1, if_neg (by simp), if_pos hv])
      clear HV
      go_enter Try.func67, Try.ntmps67
      go_wp2_with fail
      go_quiet (fail)
      go_wp2
      go_ret
      exact ⟨by rw [HE.out]; rfl, pw_below_drewN (Below.refl _ _) _⟩
    · have HE := Aside0.mk (show lookR s t i = 0 by rw [HV.out, decide_eq_false e1, if_neg (by simp), if_neg hv])
      clear HV
      go_enter Try.func67, Try.ntmps67
      go_wp2_with fail
      go_quiet (fail)
      go_wp2
      go_ret
      exact ⟨by rw [HE.out]; rfl, pw_below_drewN (Below.refl _ _) _⟩
  · by_cases hv : st < y.version
    · have HE := Aside0.mk (show lookR s t i = 33 by rw [HV.out, e2, if_neg (by simp), if_pos hv])
      clear HV
      go_enter Try.func67, Try.ntmps67
      go_wp2_with fail
      go_quiet (fail)
      go_wp2
      go_ret
      exact ⟨by rw [HE.out]; rfl, pw_below_drewN (Below.refl _ _) _⟩
    · have HE := Aside0.mk (show lookR s t i = 0 by rw [HV.out, e2, if_neg (by simp), if_neg hv])
      clear HV
      go_enter Try.func67, Try.ntmps67
      go_wp2_with fail
      go_quiet (fail)
      go_wp2
      go_ret
      exact ⟨by rw [HE.out]; rfl, pw_below_drewN (Below.refl _ _) _⟩
end
end Go.Proofs.Ytcnbgamalhfkmaa.P
namespace Go.Proofs.Ytcnbgamalhfkmaa.P
open Go.RowKit Go.Proofs.YtcnbgamalhfkmaaW.PrintWords Go.Proofs.YtcnbgamalhfkmaaW.PrintLast Go.Proofs.YtcnbgamalhfkmaaW.PrintMore
set_option linter.unusedVariables false
set_option linter.unusedSimpArgs false
open Go.WideShapes Go.Maps
theorem openR_in {s : REng} {t : Int} (h : openR s t = true) : ∃ tn : Nat, t = tn ∧ tn < 8 := by
  unfold openR hasR at h
  simp at h
  have ht2 := inT_iff.1 h.1.1
  exact ⟨t.toNat, by omega, by omega⟩
theorem hasR_in {s : REng} {t : Int} (h : hasR s t = true) : ∃ tn : Nat, t = tn ∧ tn < 8 := by
  unfold hasR at h
  simp at h
  have ht2 := inT_iff.1 h.1
  exact ⟨t.toNat, by omega, by omega⟩
section
variable {W : World} {base : Nat} {σ : Nat → Nat} {a : Nat} {s : REng} {V : Value} {gt : Nat} {tc : Array Value}
theorem RefPost.then_below {s' : REng} {W1 W2 : World} (h : RefPost W base σ a s' W1) (hb : Below W1.heap.size W1 W2) : RefPost W base σ a s' W2 := by
  obtain ⟨σ', V', gt', tc', he, hd⟩ := h
  exact ⟨σ', V', gt', tc', he.below hb, hd.trans (Did.of_below hb he.base_le)⟩
theorem RefPost.drew {s' : REng} {W1 : World} (h : RefPost W base σ a s' W1) : RefPost W base σ a s' W1.drew := h.then_below (below_drew (Below.refl _ _))
set_option maxHeartbeats 4000000 in
set_option maxRecDepth 100000 in
theorem rvalid_calls (h : RefAt W base σ a s V gt tc) {t : Nat} (ht : t < 8) (hr : ∀ n ∈ (txR s t).reads, isR s n = true) (hl : (txR s t).reads.length ≤ 100000) :
    Calls Try.prog 61 #[.pointer (some ⟨a, 0, none⟩), .int .i64 t] W fun e w' => e = .returned (.int .i64 (validRL s t (txR s t).reads)) ∧ Below W.heap.size W w' := by
  obtain ⟨rd, pu, hc⟩ := h.cells ht
  obtain ⟨A, c, rfl⟩ := Kd.N_slice hc.reads
  have ht8 : (t : Int) < 8 := by omega
  have HH := Aside0.mk h
  have HC := Aside0.mk hc
  have HR := Aside0.mk hr
  obtain ⟨l, hll⟩ : ∃ l, (txR s t).reads = l := ⟨_, rfl⟩
  rw [hll] at hl ⊢
  have k2 := h.cell2
  have c2 := hc.c2
  rw [hll] at c2
  have HL := Aside0.mk hll
  clear h hc hr hll
  go_enter Try.func61, Try.ntmps61
  go_wp2
  go_loopg [5, 6] l.length (fun gg s5 _ wr => ∃ i : Nat, i ≤ l.length ∧ l.length - i ≤ gg ∧ s5 = .int .i64 i ∧ Aside0 (Below W.heap.size W wr) ∧ Aside0 (validRL s t (l.drop i) = validRL s t l))
  case atStart => exact ⟨0, Nat.zero_le _, by omega, rfl, ⟨Below.refl _ W⟩, ⟨rfl⟩⟩
  case round =>
    obtain ⟨i, hi, hg, rfl, BW, AA⟩ := hrel
    have k2r := pw_cell_below BW.out k2
    have c2r := pw_cell_below BW.out c2
    by_cases hlt : i < l.length
    · have hltz : (i : Int) < (l.length : Int) := by omega
      have hN := Kd.N_below HC.out.reads BW.out
      rw [HL.out] at hN
      obtain ⟨gv, cap', e, hcap, c0⟩ := rowI_at hN hlt
      cases e
      have hin := isR_iff.1 (HR.out _ (by rw [HL.out]; exact List.getElem_mem hlt))
      have hdr : l.drop i = l[i] :: l.drop (i + 1) := List.drop_eq_getElem_cons hlt
      have hA := AA.out
      rw [hdr] at hA
      have HA := Aside0.mk (show (if lookR s t l[i] != 0 then lookR s t l[i] else validRL s t (l.drop (i + 1))) = validRL s t l from hA)
      clear hA hdr AA hN
      generalize l[i] = n at *
      obtain ⟨m, rfl⟩ : ∃ m : Nat, n = m := ⟨n.toNat, by omega⟩
      have hm : m < s.vars.length := by omega
      have hlk := rlook_calls (HH.out.below BW.out) ht hm
      generalize hf : lookR s t m = f at *
      clear hf hin k2 c2
      go_wp2_with fail
      refine hlk.mono ?_; rintro e w' ⟨rfl, hb'⟩
      have HB := Aside0.mk hb'
      clear hlk hb' c0 k2r c2r
      have k2 := pw_cell_below (BW.out.trans (HB.out.mono BW.out.size)) HH.out.cell2
      by_cases hf0 : f = 0
      · subst hf0
        go_wp2
        go_roundg (l.length - (i + 1))
        case measure => omega
        case rel => exact ⟨i + 1, by omega, by omega, by go_num, ⟨BW.out.trans (HB.out.mono BW.out.size)⟩, ⟨HA.out⟩⟩
      · have HF := Aside0.mk (show f = validRL s t l by rw [← HA.out, if_pos (by simpa using hf0)])
        clear HA
        go_wp2
        go_ret
        exact ⟨by rw [← HF.out]; rfl, BW.out.trans (HB.out.mono BW.out.size)⟩
    · have hltz : ¬ (i : Int) < (l.length : Int) := by omega
      have HA := Aside0.mk (show validRL s t l = 0 by rw [← AA.out, List.drop_eq_nil_of_le (by omega)]; rfl)
      go_wp2
      go_ret
      exact ⟨by rw [HA.out]; rfl, BW.out⟩
set_option maxHeartbeats 4000000 in
theorem rValid_calls (h : RefAt W base σ a s V gt tc) (t : Int) (hr : openR s t = true → (∀ n ∈ (txR s t).reads, isR s n = true) ∧ (txR s t).reads.length ≤ 100000) :
    Calls Try.prog 52 #[.pointer (some ⟨a, 0, none⟩), .int .i64 t] W fun e w' => e = .returned (.int .i64 (validR s t)) ∧ Below W.heap.size W w' := by
  have HO := Aside0.mk (show validR s t = if !openR s t then 1 else validRL s t (txR s t).reads from rfl)
  have hop := ropen_calls h t
  cases hb : openR s t with
  | false =>
    have HE := Aside0.mk (show validR s t = 1 by rw [HO.out, hb]; rfl)
    rw [hb] at hop
    clear h HO hr
    go_enter Try.func52, Try.ntmps52
    go_wp2_with fail
    refine hop.mono ?_; rintro e w' ⟨rfl, rfl⟩
    clear hop
    go_wp2
    go_ret
    exact ⟨by rw [HE.out]; rfl, Below.refl _ _⟩
  | true =>
    obtain ⟨tn, rfl, ht⟩ := openR_in hb
    have hv := rvalid_calls h ht (hr hb).1 (hr hb).2
    have HE := Aside0.mk (show validR s tn = validRL s tn (txR s tn).reads by rw [HO.out, hb]; rfl)
    rw [hb] at hop
    clear h HO hr
    go_enter Try.func52, Try.ntmps52
    go_wp2_with fail
    refine hop.mono ?_; rintro e w' ⟨rfl, rfl⟩
    clear hop
    go_wp2_with fail
    refine hv.mono ?_; rintro e w' ⟨rfl, hb2⟩
    have HB := Aside0.mk hb2
    clear hv hb2
    go_wp2
    go_ret
    exact ⟨by rw [HE.out]; rfl, HB.out⟩
set_option maxHeartbeats 4000000 in
theorem rbegin_calls (h : RefAt W base σ a s V gt tc) (t : Int) : Calls Try.prog 46 #[.pointer (some ⟨a, 0, none⟩), .int .i64 t] W fun e w' => e = .returned (.int .i64 (beginR s t).1) ∧ RefPost W base σ a (beginR s t).2 w' := by
  have HO := Aside0.mk (show beginR s t = if !inT t || (txR s t).is then (1, s) else (0, setTR s t ⟨true, s.clock, [], [], 1, false, 0, 0⟩) from rfl)
  have HH := Aside0.mk h
  by_cases h0 : t < 0
  · have HE := Aside0.mk (show beginR s t = (1, s) by rw [HO.out, if_pos]; simp [inT]; omega)
    clear h HO
    go_enter Try.func46, Try.ntmps46
    go_wp2
    go_ret
    exact ⟨by rw [HE.out]; rfl, by rw [HE.out]; exact RefPost.refl HH.out⟩
  · by_cases h8 : 8 ≤ t
    · have HE := Aside0.mk (show beginR s t = (1, s) by rw [HO.out, if_pos]; simp [inT]; omega)
      have h8z : 7 < t := by omega
      clear h HO
      go_enter Try.func46, Try.ntmps46
      go_wp2
      go_ret
      exact ⟨by rw [HE.out]; rfl, by rw [HE.out]; exact RefPost.refl HH.out⟩
    · obtain ⟨tn, rfl⟩ : ∃ tn : Nat, t = tn := ⟨t.toNat, by omega⟩
      have ht : tn < 8 := by omega
      have ht8 : (tn : Int) < 8 := by omega
      have ht7 : ¬ 7 < (tn : Int) := by omega
      obtain ⟨rd, pu, hc⟩ := h.cells ht
      have hin : inT (tn : Int) = true := inT_iff.2 (by omega)
      have k2 := h.cell2
      have k0 := h.cell0
      have c0 := hc.c0
      have f0 := hc.froz
      cases hq : (txR s tn).is with
      | true =>
        have HE := Aside0.mk (show beginR s tn = (1, s) by rw [HO.out, hin, hq]; rfl)
        rw [hq] at c0
        clear h HO hc h8 hq hin
        go_enter Try.func46, Try.ntmps46
        go_wp2
        go_ret
        exact ⟨by rw [HE.out]; rfl, by rw [HE.out]; exact RefPost.refl HH.out⟩
      | false =>
        have HE := Aside0.mk (show beginR s tn = (0, setTR s tn ⟨true, s.clock, [], [], 1, false, 0, 0⟩) by rw [HO.out, hin, hq]; rfl)
        rw [hq] at c0
        have c1 := hc.c1
        have c2 := hc.c2
        have c3 := hc.c3
        have c4 := hc.c4
        have c5 := hc.c5
        have c6 := hc.c6
        have c7 := hc.c7
        have g0 : W.frozen? ⟨gt, tn * 8, none⟩ = false := f0 0
        have g1 := f0 1
        have g2 := f0 2
        have g3 := f0 3
        have g4 := f0 4
        have g5 := f0 5
        have g6 := f0 6
        have g7 := f0 7
        have HC := Aside0.mk hc
        clear h HO hc h8 hq hin f0
        go_enter Try.func46, Try.ntmps46
        go_wp2_with fail
        go_region_law (fail)
        all_goals
          go_wp2
          go_ret
          rw [HE.out]
          exact ⟨rfl, RefPost.drew (HH.out.seg ht HC.out 0 [.bool true, .int .i64 s.clock, .slice none 0 0, .slice none 0 0, .int .i64 1, .bool false, .int .i64 0, .int .i64 0] (Nat.le_refl 8) (.inr ⟨rfl, rfl⟩) (.inr ⟨rfl, rfl⟩) rfl)⟩
set_option maxHeartbeats 4000000 in
theorem rpart_calls (h : RefAt W base σ a s V gt tc) (t : Int) (hp : openR s t = true → 0 ≤ (txR s t).parts ∧ (txR s t).parts ≤ 1000000) : Calls Try.prog 49 #[.pointer (some ⟨a, 0, none⟩), .int .i64 t] W fun e w' => e = .returned (.int .i64 (partR s t).1) ∧ RefPost W base σ a (partR s t).2 w' := by
  have HO := Aside0.mk (show partR s t = if !openR s t then (1, s) else (0, setTR s t { txR s t with parts := (txR s t).parts + 1 }) from rfl)
  have HH := Aside0.mk h
  have hop := ropen_calls h t
  cases hb : openR s t with
  | false =>
    have HE := Aside0.mk (show partR s t = (1, s) by rw [HO.out, hb]; rfl)
    rw [hb] at hop
    clear h HO hp
    go_enter Try.func49, Try.ntmps49
    go_wp2_with fail
    refine hop.mono ?_; rintro e w' ⟨rfl, rfl⟩
    clear hop
    go_wp2
    go_ret
    exact ⟨by rw [HE.out]; rfl, by rw [HE.out]; exact RefPost.refl HH.out⟩
  | true =>
    obtain ⟨tn, rfl, ht⟩ := openR_in hb
    have hpp := hp hb
    have ht8 : (tn : Int) < 8 := by omega
    obtain ⟨rd, pu, hc⟩ := h.cells ht
    have HE := Aside0.mk (show partR s tn = (0, setTR s tn { txR s tn with parts := (txR s tn).parts + 1 }) by rw [HO.out, hb]; rfl)
    rw [hb] at hop
    have k2 := h.cell2
    have c4 := hc.c4
    have g4 := hc.froz 4
    have HC := Aside0.mk hc
    have hw : wrap64 ((txR s tn).parts + 1) = (txR s tn).parts + 1 := IntWalk.wrap64_in _ (by omega)
    obtain ⟨x, hx⟩ : ∃ x, txR s tn = x := ⟨_, rfl⟩
    have HX := Aside0.mk hx
    rw [hx] at c4 hpp hw
    clear h HO hc hp hx
    go_enter Try.func49, Try.ntmps49
    go_wp2_with fail
    refine hop.mono ?_; rintro e w' ⟨rfl, rfl⟩
    clear hop
    go_wp2
    go_ret
    rw [HE.out, HX.out]
    exact ⟨rfl, HH.out.seg ht HC.out 4 [.int .i64 (x.parts + 1)] (show 4 + 1 ≤ 8 by decide) (.inl ⟨rfl, by rw [HX.out]⟩) (.inl ⟨rfl, by rw [HX.out]⟩) (by rw [HX.out]; rfl)⟩
end
end Go.Proofs.Ytcnbgamalhfkmaa.P
namespace Go.Proofs.Ytcnbgamalhfkmaa.P
open Go.RowKit Go.Proofs.YtcnbgamalhfkmaaW.PrintWords Go.Proofs.YtcnbgamalhfkmaaW.PrintLast Go.Proofs.YtcnbgamalhfkmaaW.PrintMore
set_option linter.unusedVariables false
set_option linter.unusedSimpArgs false
open Go.WideShapes Go.Maps
theorem info61 : (Try.prog.info? 61).map (fun i => (i.zero, i.size, i.bytes)) = some (some (.agg #[.int .i64 0, .int .i64 0, .int .i64 0]), 3, 24) := by kernel_rfl
def hitP (n part : Int) (p : RPut) : Bool := p.n == n && p.part == part
theorem putL_cons (n v part : Int) (p : RPut) (r : List RPut) : putL n v part (p :: r) = if hitP n part p then ⟨p.n, v, p.part⟩ :: r else p :: putL n v part r := rfl
theorem putL_len (n v part : Int) : ∀ l : List RPut, (putL n v part l).length ≤ l.length + 1
  | [] => Nat.le_refl _
  | p :: r => by
    rw [putL_cons]
    split
    · simp
    · simpa using putL_len n v part r
theorem putL_step {n v part : Int} {l : List RPut} {i : Nat} (hi : i < l.length) (h : hitP n part l[i] = false) (ha : putL n v part l = l.take i ++ putL n v part (l.drop i)) : putL n v part l = l.take (i + 1) ++ putL n v part (l.drop (i + 1)) := by
  rw [ha, List.drop_eq_getElem_cons hi, putL_cons, h, if_neg (by simp), List.take_succ_eq_append_getElem hi, List.append_assoc]
  rfl
theorem putL_set {n v part : Int} {l : List RPut} {i : Nat} (hi : i < l.length) (h : hitP n part l[i] = true) (ha : putL n v part l = l.take i ++ putL n v part (l.drop i)) : putL n v part l = l.set i ⟨l[i].n, v, l[i].part⟩ := by
  rw [ha, List.drop_eq_getElem_cons hi, putL_cons, h, List.set_eq_take_append_cons_drop, if_pos hi]
  simp
section
variable {W : World} {base : Nat} {σ : Nat → Nat} {a : Nat} {s : REng} {V : Value} {gt : Nat} {tc : Array Value}
set_option maxHeartbeats 4000000 in
set_option maxRecDepth 100000 in
theorem put_calls {ok : Nat → Prop} {A : Option Addr} {c : Nat} {l : List RPut} (h : Kd.N kW 61 W base ok (.slice A l.length c) l) (hb : base ≤ W.heap.size) (hl : l.length ≤ 1000000) (n v part : Int) :
    Calls Try.prog 68 #[.slice A l.length c, .int .i64 n, .int .i64 v, .int .i64 part] W fun e w' => ∃ v1, e = .returned v1 ∧ Aside0 (Kd.N kW 61 w' base (fun _ => True) v1 (putL n v part l)) ∧ Aside0 (Below base W w') ∧ Aside0 (W.grownBy w' (Value.slice A l.length c).ownBlock) ∧ Aside0 (v1.ownBlock = (Value.slice A l.length c).ownBlock ∨ ∃ b, v1.ownBlock = some b ∧ W.heap.size ≤ b) := by
  have HN := Aside0.mk (Kd.N_mono h (fun _ _ => trivial) : Kd.N kW 61 W base (fun _ => True) (.slice A l.length c) l)
  have HB := Aside0.mk hb
  clear h hb
  go_enter Try.func68, Try.ntmps68
  go_wp2
  go_loopg [9] l.length (fun gg s9 wr => ∃ i : Nat, i ≤ l.length ∧ l.length - i ≤ gg ∧ s9 = .int .i64 i ∧ W = wr ∧ Aside0 (putL n v part l = l.take i ++ putL n v part (l.drop i)))
  case atStart => exact ⟨0, Nat.zero_le _, by omega, rfl, rfl, ⟨rfl⟩⟩
  case round =>
    obtain ⟨i, hi, hg, rfl, rfl, AA⟩ := hrel
    by_cases hlt : i < l.length
    · have hltz : (i : Int) < (l.length : Int) := by omega
      obtain ⟨gv, cap', e, hcap, c0, c1, c2, cf⟩ := rowW_at HN.out hlt
      cases e
      have cf1 := cf 1
      cases e1 : l[i].n == n with
      | false =>
        have HS := Aside0.mk (putL_step hlt (by unfold hitP; rw [e1]; rfl) AA.out)
        generalize l[i].n = yn at *
        generalize l[i].part = yp at *
        generalize l[i].v = yv at *
        clear cf
        go_wp2
        go_roundg (l.length - (i + 1))
        case measure => omega
        case rel => exact ⟨i + 1, by omega, by omega, by go_num, rfl, ⟨HS.out⟩⟩
      | true =>
        cases e2 : l[i].part == part with
        | false =>
          have HS := Aside0.mk (putL_step hlt (by unfold hitP; rw [e1, e2]; rfl) AA.out)
          generalize l[i].n = yn at *
          generalize l[i].part = yp at *
          generalize l[i].v = yv at *
          clear cf
          go_wp2
          go_roundg (l.length - (i + 1))
          case measure => omega
          case rel => exact ⟨i + 1, by omega, by omega, by go_num, rfl, ⟨HS.out⟩⟩
        | true =>
          have HS := Aside0.mk (putL_set hlt (by unfold hitP; rw [e1, e2]; rfl) AA.out)
          obtain ⟨h1, h2⟩ := Kd.N_seg (d := kW) HN.out (i : Int) (by omega) (by omega) (c := [.int .i64 l[i].n, .int .i64 l[i].v, .int .i64 l[i].part]) (seg := [.int .i64 v]) (j := 1) (okp := fun _ => False) (x' := ⟨l[i].n, v, l[i].part⟩) rfl
            (fun q u hq => by
              rw [Int.toNat_natCast, show kW.sz = 3 from rfl]
              match q, hq with
              | 0, hq => obtain rfl := Option.some.inj hq; exact c0
              | 1, hq => obtain rfl := Option.some.inj hq; exact c1
              | 2, hq => obtain rfl := Option.some.inj hq; exact c2) (show 1 + 1 ≤ 3 by omega) (fun W' _ => kW_mk W' ⟨l[i].n, v, l[i].part⟩) (fun _ hk => hk.elim)
          rw [Int.toNat_natCast, show kW.sz = 3 from rfl] at h1 h2
          have hbg := Kd.N_base HN.out gv rfl
          have H1 := Aside0.mk h1
          have H2 := Aside0.mk h2
          generalize hyn : l[i].n = yn at *
          generalize hyp : l[i].part = yp at *
          generalize hyv : l[i].v = yv at *
          clear cf h1 h2
          go_wp2
          go_ret
          refine ⟨_, rfl, ⟨by rw [HS.out]; exact H1.out⟩, ⟨⟨H2.out.os, H2.out.tape, H2.out.output, H2.out.size, fun k hk => H2.out.block k (by have := HB.out; omega) (fun e => by injection e with e; omega)⟩⟩, ⟨H2.out⟩, ⟨.inl rfl⟩⟩
    · have hltz : ¬ (i : Int) < (l.length : Int) := by omega
      have HS := Aside0.mk (show putL n v part l = l ++ [⟨n, v, part⟩] by rw [AA.out, List.take_of_length_le (by omega), List.drop_eq_nil_of_le (by omega)]; rfl)
      go_wp2_with ((with_reducible refine gate_builtin (b := .append) (xs := #[.tmp 38, .tmp 43]) rfl ?_); at_builtin; refine Kd.N_append kW (w0 := W) base rfl (.tmp 38) (.tmp 43) 48 61 (.agg #[.int .i64 0, .int .i64 0, .int .i64 0]) 24 rfl Try.underlying48 info61 rfl (by decide) (by omega) (.slice A l.length c) l ⟨n, v, part⟩ [.int .i64 n, .int .i64 v, .int .i64 part] (fun _ => True) (fun _ => False) rfl rfl ?aP (fun _ hk => hk.elim) (fun _ _ => trivial) ?aO ?aB ?aS ?aL ?_; (case aP => exact fun W' _ => kW_mk W' _); (case aO => exact HN.out); (case aB => exact Below.refl _ _); (case aS => exact HB.out); (case aL => omega); intro v1 w1 ho hb hg hat; have HN1 := Aside0.mk ho; have HB1 := Aside0.mk hb; have HG1 := Aside0.mk hg; have HA1 := Aside0.mk hat; clear ho hb hg hat)
      go_ret
      exact ⟨_, rfl, ⟨by rw [HS.out]; exact HN1.out⟩, ⟨HB1.out⟩, ⟨HG1.out⟩, ⟨HA1.out⟩⟩
theorem RefAt.push_puts (h : RefAt W base σ a s V gt tc) {t : Nat} (ht : t < 8) {rd pu : Value} (hc : RCells W base σ t gt tc (txR s t) rd pu) {w1 : World} {v1 : Value} {l' : List RPut} (hN : Kd.N kW 61 w1 base (fun _ => True) v1 l') (hb : Below base W w1) (hg : W.grownBy w1 pu.ownBlock)
    (hat : v1.ownBlock = pu.ownBlock ∨ ∃ b, v1.ownBlock = some b ∧ W.heap.size ≤ b) : RefPost W base σ a (setTR s (t : Int) { txR s t with puts := l' }) (w1.setCell ⟨gt, t * 8 + 3, none⟩ v1) := by
  have hgl := h.own gt (by rw [h.trole]; omega)
  have hpa : ∀ k, pu.ownBlock = some k → σ k = 9 + 2 * t := hc.puts.1
  have hng : ∀ k, v1.ownBlock = some k → k ≠ gt := fun k hk e => by
    rcases hat with e1 | ⟨b, e1, hb1⟩
    · have := hpa k (e1 ▸ hk); have := h.trole; subst e; omega
    · rw [e1] at hk; injection hk with hk; omega
  have hold : ∀ k, σ k ≠ 0 → σ k ≠ 3 → σ k ≠ 9 + 2 * t → (w1.setCell ⟨gt, t * 8 + 3, none⟩ v1).heap[k]? = W.heap[k]? := fun k h0 h3 h9 => by
    rw [Below.heap_setCell w1 ⟨gt, t * 8 + 3, none⟩ v1 k (fun e => h3 (by rw [e]; exact h.trole))]
    exact hg.block k (h.own k h0).2 (fun e => h9 (hpa k e.symm))
  have hbk : w1.heap[gt]? = some (.cells tc 51 (0, 0)) := (hg.block gt hgl.2 (fun e => by have := hpa gt e.symm; have := h.trole; omega)).trans h.tblk
  have hs : Same W σ (withRow σ v1 (9 + 2 * t)) := withRow_same hpa hat
  have hr : ∀ k, σ k ≠ 0 → withRow σ v1 (9 + 2 * t) k = σ k := fun k hk => hs k (h.own k hk).2
  have hsz := h.tsize
  refine ⟨withRow σ v1 (9 + 2 * t), V, gt, tc.setIfInBounds (t * 8 + 3) v1, h.turn ht hs ?_ (fun k h0 h3 h8 h9 => hold k h0 h3 (by omega)) (blk_set hbk _ v1) (by simp [hsz]) (fun i hi => by rw [Array.getElem?_setIfInBounds_ne (by omega)]) ⟨rd, v1, fun i u hi => ?_, ?_, ?_⟩, hs, ?_, ?_⟩
  · rw [setCell_size]; exact withRow_own h.own hg.size (N_in hN)
  · by_cases e : i = 3
    · subst e
      rw [show 8 * t + 3 = t * 8 + 3 by omega, Array.getElem?_setIfInBounds_self_of_lt (by omega)]
      exact hi
    · rw [Array.getElem?_setIfInBounds_ne (by omega)]
      refine hc.all i u ?_
      match i, e, hi with
      | 0, _, hi => exact hi
      | 1, _, hi => exact hi
      | 2, _, hi => exact hi
      | 3, e, _ => exact absurd rfl e
      | 4, _, hi => exact hi
      | 5, _, hi => exact hi
      | 6, _, hi => exact hi
      | 7, _, hi => exact hi
      | _ + 8, _, hi => cases hi
  · exact N_flat kI_flat (N_flat_move kI_flat hc.reads fun k hk => (by have := hc.reads.1 k hk; exact hold k (by omega) (by omega) (by omega))) fun k hk => (by have := hc.reads.1 k hk; show withRow σ v1 _ k = _; rw [hr k (by omega)]; exact this)
  · exact N_flat kW_flat (N_flat_move kW_flat hN fun k hk => Below.heap_setCell w1 ⟨gt, t * 8 + 3, none⟩ v1 k (hng k hk)) withRow_at
  · exact Kept.setCell (Kept.of_grown hg (Kept.refl W _) (fun k e => .inl (by rw [hpa k e]; omega))) (.inl (by show σ gt ≠ 0; rw [h.trole]; omega)) v1
  · exact hb.setCell (p := ⟨gt, t * 8 + 3, none⟩) hgl.1 v1
theorem RefAt.push_reads (h : RefAt W base σ a s V gt tc) {t : Nat} (ht : t < 8) {rd pu : Value} (hc : RCells W base σ t gt tc (txR s t) rd pu) {w1 : World} {v1 : Value} {l' : List Int} (hN : Kd.N kI 3 w1 base (fun _ => True) v1 l') (hb : Below base W w1) (hg : W.grownBy w1 rd.ownBlock)
    (hat : v1.ownBlock = rd.ownBlock ∨ ∃ b, v1.ownBlock = some b ∧ W.heap.size ≤ b) : RefPost W base σ a (setTR s (t : Int) { txR s t with reads := l' }) (w1.setCell ⟨gt, t * 8 + 2, none⟩ v1) := by
  have hgl := h.own gt (by rw [h.trole]; omega)
  have hpa : ∀ k, rd.ownBlock = some k → σ k = 8 + 2 * t := hc.reads.1
  have hng : ∀ k, v1.ownBlock = some k → k ≠ gt := fun k hk e => by
    rcases hat with e1 | ⟨b, e1, hb1⟩
    · have := hpa k (e1 ▸ hk); have := h.trole; subst e; omega
    · rw [e1] at hk; injection hk with hk; omega
  have hold : ∀ k, σ k ≠ 0 → σ k ≠ 3 → σ k ≠ 8 + 2 * t → (w1.setCell ⟨gt, t * 8 + 2, none⟩ v1).heap[k]? = W.heap[k]? := fun k h0 h3 h9 => by
    rw [Below.heap_setCell w1 ⟨gt, t * 8 + 2, none⟩ v1 k (fun e => h3 (by rw [e]; exact h.trole))]
    exact hg.block k (h.own k h0).2 (fun e => h9 (hpa k e.symm))
  have hbk : w1.heap[gt]? = some (.cells tc 51 (0, 0)) := (hg.block gt hgl.2 (fun e => by have := hpa gt e.symm; have := h.trole; omega)).trans h.tblk
  have hs : Same W σ (withRow σ v1 (8 + 2 * t)) := withRow_same hpa hat
  have hr : ∀ k, σ k ≠ 0 → withRow σ v1 (8 + 2 * t) k = σ k := fun k hk => hs k (h.own k hk).2
  have hsz := h.tsize
  refine ⟨withRow σ v1 (8 + 2 * t), V, gt, tc.setIfInBounds (t * 8 + 2) v1, h.turn ht hs ?_ (fun k h0 h3 h8 h9 => hold k h0 h3 (by omega)) (blk_set hbk _ v1) (by simp [hsz]) (fun i hi => by rw [Array.getElem?_setIfInBounds_ne (by omega)]) ⟨v1, pu, fun i u hi => ?_, ?_, ?_⟩, hs, ?_, ?_⟩
  · rw [setCell_size]; exact withRow_own h.own hg.size (N_in hN)
  · by_cases e : i = 2
    · subst e
      rw [show 8 * t + 2 = t * 8 + 2 by omega, Array.getElem?_setIfInBounds_self_of_lt (by omega)]
      exact hi
    · rw [Array.getElem?_setIfInBounds_ne (by omega)]
      refine hc.all i u ?_
      match i, e, hi with
      | 0, _, hi => exact hi
      | 1, _, hi => exact hi
      | 2, e, _ => exact absurd rfl e
      | 3, _, hi => exact hi
      | 4, _, hi => exact hi
      | 5, _, hi => exact hi
      | 6, _, hi => exact hi
      | 7, _, hi => exact hi
      | _ + 8, _, hi => cases hi
  · exact N_flat kI_flat (N_flat_move kI_flat hN fun k hk => Below.heap_setCell w1 ⟨gt, t * 8 + 2, none⟩ v1 k (hng k hk)) withRow_at
  · exact N_flat kW_flat (N_flat_move kW_flat hc.puts fun k hk => (by have := hc.puts.1 k hk; exact hold k (by omega) (by omega) (by omega))) fun k hk => (by have := hc.puts.1 k hk; show withRow σ v1 _ k = _; rw [hr k (by omega)]; exact this)
  · exact Kept.setCell (Kept.of_grown hg (Kept.refl W _) (fun k e => .inl (by rw [hpa k e]; omega))) (.inl (by show σ gt ≠ 0; rw [h.trole]; omega)) v1
  · exact hb.setCell (p := ⟨gt, t * 8 + 2, none⟩) hgl.1 v1
end
end Go.Proofs.Ytcnbgamalhfkmaa.P
