/- cover.column, cover.others; cover.means; cover.means: the second closure; cover.means; cover.means; cover.means; cover.means; cover.parts, cover.together; cover.together; cover: the walked functions, as the printed ones ask for them -/
import Derived.Test.YtikhkcnbabpneaaAvHA
import Derived.Test.YtikhkcnbabpneaaAvPx25
import Derived.Test.YtikhkcnbabpneaaAvPx25
import Derived.Deep.RegionHeld3
import Derived.Test.YtikhkcnbabpneaaAvPx16
namespace Go.Proofs.Ytikhkcnbabpneaa.P
open Go.RowKit Go.Proofs.YtikhkcnbabpneaaW.PrintWords Go.Proofs.YtikhkcnbabpneaaW.PrintLast Go.Proofs.YtikhkcnbabpneaaW.PrintMore
set_option linter.unusedVariables false
set_option linter.unusedSimpArgs false
def headOf? (r : List S25) : Option S25 := match r with | [] => none | p :: _ => if looseB p then none else some p
def tailOf? (r : List S25) : Option (List S25) := match r with | [] => none | p :: t => if looseB p then some t else none
def columnL (rows : List (List S25)) : List S25 := rows.filterMap headOf?
def othersL (rows : List (List S25)) : List (List S25) := rows.filterMap tailOf?
theorem wrap_succ {i : Nat} (h : i ≤ 1000000) : wrap64 ((i : Int) + 1) = ((i + 1 : Nat) : Int) := by
 unfold wrap64
 omega
theorem rdL_at (rows : List (List S25)) (i : Nat) (h : i < rows.length) : rd_L6 rows (i : Int) = rows[i] := by
 unfold rd_L6; rw [Int.toNat_natCast, List.getD_eq_getElem?_getD, List.getElem?_eq_getElem h, Option.getD_some]
theorem rdT_zero (p : S25) (t : List S25) : rd_T25 (p :: t) 0 = p := rfl
theorem column_l (rows : List (List S25)) (hn : rows.length ≤ 1000000) (hne : ∀ r ∈ rows, 0 < r.length) : ∀ (d i : Nat) (acc : List S25), i + d = rows.length → acc.length ≤ i →
 cover_column.l0 (d + 1) acc rows (rows.length : Int) (i : Int) = some (acc ++ columnL (rows.drop i)) := by
 intro d
 induction d with
 | zero =>
  intro i acc hi ha
  simp only [cover_column.l0]
  rw [if_neg (by omega), List.drop_of_length_le (by omega)]
  simp [columnL]
 | succ d ih =>
  intro i acc hi ha
  have hlt : i < rows.length := by omega
  have hr := hne rows[i] (List.getElem_mem _)
  have hL := rdL_at rows i hlt
  have hd : rows.drop i = rows[i] :: rows.drop (i + 1) := List.drop_eq_getElem_cons hlt
  rw [cover_column.l0]
  rw [hL, hd]
  cases hri : rows[i] with
  | nil => rw [hri] at hr; simp at hr
  | cons p t =>
   rw [if_pos (by omega), if_pos (by omega), if_pos (by omega), if_pos (by simp), rdT_zero, loose_f]
   simp only [Option.bind_some]
   rw [wrap_succ (by omega)]
   cases hl : looseB p with
   | true =>
    rw [if_pos rfl, ih (i + 1) acc (by omega) (by omega)]
    simp [columnL, headOf?, hl]
   | false =>
    rw [if_neg (by decide), if_pos (by omega), ih (i + 1) _ (by omega) (by simp; omega)]
    simp [columnL, headOf?, hl]
    cases p; rfl
theorem column_f (rows : List (List S25)) (hn : rows.length ≤ 1000000) (hne : ∀ r ∈ rows, 0 < r.length) : cover_column.f (rows.length + 1) rows = some (columnL rows) := by
 unfold cover_column.f
 have := column_l rows hn hne rows.length 0 [] (by omega) (by simp)
 simpa using this
theorem others_l (rows : List (List S25)) (hn : rows.length ≤ 1000000) (hne : ∀ r ∈ rows, 0 < r.length) : ∀ (d i : Nat) (acc : List (List S25)), i + d = rows.length → acc.length ≤ i →
 cover_others.l0 (d + 1) acc rows (rows.length : Int) (i : Int) = some (acc ++ othersL (rows.drop i)) := by
 intro d
 induction d with
 | zero =>
  intro i acc hi ha
  simp only [cover_others.l0]
  rw [if_neg (by omega), List.drop_of_length_le (by omega)]
  simp [othersL]
 | succ d ih =>
  intro i acc hi ha
  have hlt : i < rows.length := by omega
  have hr := hne rows[i] (List.getElem_mem _)
  have hL := rdL_at rows i hlt
  have hd : rows.drop i = rows[i] :: rows.drop (i + 1) := List.drop_eq_getElem_cons hlt
  rw [cover_others.l0]
  rw [hL, hd]
  cases hri : rows[i] with
  | nil => rw [hri] at hr; simp at hr
  | cons p t =>
   rw [if_pos (by omega), if_pos (by omega), if_pos (by omega), if_pos (by simp), rdT_zero, loose_f]
   simp only [Option.bind_some]
   rw [wrap_succ (by omega)]
   cases hl : looseB p with
   | true =>
    rw [if_pos rfl, if_pos (by simp; omega), if_pos (by omega), ih (i + 1) _ (by omega) (by simp; omega)]
    simp [othersL, tailOf?, hl]
   | false =>
    rw [if_neg (by decide), ih (i + 1) _ (by omega) (by omega)]
    simp [othersL, tailOf?, hl]
theorem others_f (rows : List (List S25)) (hn : rows.length ≤ 1000000) (hne : ∀ r ∈ rows, 0 < r.length) : cover_others.f (rows.length + 1) rows = some (othersL rows) := by
 unfold cover_others.f
 have := others_l rows hn hne rows.length 0 [] (by omega) (by simp)
 simpa using this
theorem column_calls (A0 : Option Addr) (c0 : Nat) (rows : List (List S25)) (w : World) (hr : Kd.C (Kd.slice 25 k25) w A0 rows.length rows) (hc : rows.length ≤ c0) (hfit : Fit rows) :
 Calls Try.prog 53 #[.slice A0 rows.length c0] w fun e w' => ∃ v, e = .returned v ∧ Kd.N k25 25 w' w.heap.size (fun _ => True) v (columnL rows) ∧ Below w.heap.size w w' :=
 (cover_column.calls (rows.length + 1) (fun k => k < w.heap.size) A0 c0 rows _ w (Kd.V_mk hc (Kd.C_F (Kd.heap_slice 25 k25_heap) hr)) (column_f rows hfit.len (fun r h => (hfit.row r h).1))).mono
  fun e w' ⟨v, he, hN, hB⟩ => ⟨v, he, Kd.N_mono hN (fun _ _ => trivial), hB⟩
theorem others_calls (A0 : Option Addr) (c0 : Nat) (rows : List (List S25)) (w : World) (hr : Kd.C (Kd.slice 25 k25) w A0 rows.length rows) (hc : rows.length ≤ c0) (hfit : Fit rows) :
 Calls Try.prog 58 #[.slice A0 rows.length c0] w fun e w' => ∃ v, e = .returned v ∧ Kd.N (Kd.slice 25 k25) 22 w' w.heap.size (fun _ => True) v (othersL rows) ∧ Below w.heap.size w w' :=
 (cover_others.calls (rows.length + 1) (fun k => k < w.heap.size) A0 c0 rows _ w (Kd.V_mk hc (Kd.C_F (Kd.heap_slice 25 k25_heap) hr)) (others_f rows hfit.len (fun r h => (hfit.row r h).1))).mono
  fun e w' ⟨v, he, hN, hB⟩ => ⟨v, he, Kd.N_mono hN (fun _ _ => trivial), hB⟩
def textIs (c : S61) (h : S25) : Bool := h.f1.toList == c.f0.toList
theorem means11_calls (c : S61) (B : Nat) (W : World) (x : S25) (cs : List Value) (hK : k25.K W x cs) (hb : W.heap[B]? = some (.cells #[.string c.f0, .string c.f1, .int .i64 c.f2, .int .i64 c.f3, .int .i64 c.f4] 61)) :
 Calls Try.prog 56 (#[.agg cs.toArray] ++ #[.pointer (some ⟨B, 0, none⟩)]) W fun e w' => e = .returned (.bool (textIs c x)) ∧ Below W.heap.size W w' := by
 obtain ⟨A4, c4, A5, c5, rfl, l4, g4, l5, g5⟩ := k25_open hK
 show Calls Try.prog 56 #[.agg #[.int .i64 x.f0, .string x.f1, .int .i64 x.f2, .int .i64 x.f3, .slice A4 x.f4.length c4, .slice A5 x.f5.length c5], .pointer (some ⟨B, 0, none⟩)] W _
 have hB := blk_lt hb
 have hne : B ≠ W.heap.size := by omega
 have c0 := blk_cell hb 0
 clear hb g4 g5 hK
 unfold textIs
 go_enter Try.func56, Try.ntmps56
 go_wp2
 go_ret
 exact ⟨rfl, (Below.refl _ _).alloc (Nat.le_refl _) _⟩
def lacks (heads : List S25) (c : S61) : Bool := !heads.any (textIs c)
set_option maxHeartbeats 2000000 in
theorem means1_calls (heads : List S25) (A : Option Addr) (cc : Nat) (B : Nat) (W : World) (x : S61) (cs : List Value) (hK : k61.K W x cs) (hb : W.cell? ⟨B, 0, none⟩ = some (.slice A heads.length cc)) (hC : Kd.C k25 W A heads.length heads) :
 Calls Try.prog 55 (#[.agg cs.toArray] ++ #[.pointer (some ⟨B, 0, none⟩)]) W fun e w' => e = .returned (.bool (lacks heads x)) ∧ Below W.heap.size W w' := by
 obtain rfl := k61_open hK
 show Calls Try.prog 55 #[.agg #[.string x.f0, .string x.f1, .int .i64 x.f2, .int .i64 x.f3, .int .i64 x.f4], .pointer (some ⟨B, 0, none⟩)] W _
 have hB := cell_lt hb
 have hne : B ≠ W.heap.size := by omega
 have hw1 := below_1 W (.cells #[.string x.f0, .string x.f1, .int .i64 x.f2, .int .i64 x.f3, .int .i64 x.f4] 61)
 have hbl := blk_new W (.cells #[.string x.f0, .string x.f1, .int .i64 x.f2, .int .i64 x.f3, .int .i64 x.f4] 61)
 have hct := ContainsFunc47_calls 56 #[.pointer (some ⟨W.heap.size, 0, none⟩)] (textIs x) (enters_of Try.func56 (by kernel_rfl) rfl) A cc heads (W.alloc (.cells #[.string x.f0, .string x.f1, .int .i64 x.f2, .int .i64 x.f3, .int .i64 x.f4] 61)) (Kd.C_below hC hw1)
  (fun W' y ds hbW hy hKy => means11_calls x W.heap.size W' y ds hKy (blk_below hbl hbW))
 have HW1 := Aside0.mk hw1
 have hmf : ∀ (fn : Fn) (first cap : Array Value) (w : World), (Instr.makeFunc fn first cap).run Try.prog w = .ok (.func fn first cap) w := fun _ _ _ _ => rfl
 clear hw1 hbl hC hK
 unfold lacks
 generalize heads.any (textIs x) = t at hct ⊢
 go_enter Try.func55, Try.ntmps55
 go_wp2_with fail
 refine hct.mono ?_; rintro e w2 ⟨rfl, hb2⟩
 clear hct
 have HB2 := Aside0.mk (HW1.out.trans (hb2.mono HW1.out.size))
 clear hb2
 go_wp2
 go_ret
 exact ⟨rfl, HB2.out⟩
def headOf (c : S61) : S25 := ⟨5, c.f0, 0, 0, [], List.replicate c.f3.toNat wildS⟩
def fitB (rows : List (List S25)) (q : List S25) : Bool :=
 decide (rows.length ≤ 1000000) && rows.all (fun r => decide (0 < r.length) && decide (r.length ≤ 1000000) && r.all fun p => decide (p.f5.length ≤ 2)) &&
 decide (0 < q.length) && decide (q.length ≤ 1000000) && q.all fun p => decide (p.f5.length ≤ 2)
theorem fitB_rows {rows : List (List S25)} {q : List S25} (h : fitB rows q = true) : Fit rows := by
 unfold fitB at h
 simp only [Bool.and_eq_true, decide_eq_true_eq, List.all_eq_true] at h
 exact ⟨h.1.1.1.1, fun r hr => ⟨(h.1.1.1.2 r hr).1.1, (h.1.1.1.2 r hr).1.2, fun p hp => by have := (h.1.1.1.2 r hr).2 p hp; omega⟩⟩
theorem fitB_q {rows : List (List S25)} {q : List S25} (h : fitB rows q = true) : 0 < q.length ∧ q.length ≤ 1000000 ∧ ∀ p ∈ q, p.f5.length ≤ 2 := by
 unfold fitB at h
 simp only [Bool.and_eq_true, decide_eq_true_eq, List.all_eq_true] at h
 exact ⟨h.1.1.2, h.1.2, h.2⟩
def findC (l : List S61) (a : ByteArray) : S61 := (l.find? (isName a)).getD z61
def meansF (cons : List S61) : Nat → List (List S25) → List S25 → Option Bool
 | 0, _, _ => none
 | k + 1, rows, q =>
  if rows.isEmpty then some true else if q.isEmpty then some false else
  if fitB rows q then
   match q with
   | [] => none
   | p :: t =>
    if looseB p then
     match columnL rows with
     | [] => meansF cons k (othersL rows) t
     | h :: hs =>
      if h.f0 == 5 then
       let all := cons.filter (ofType (findC cons h.f1).f1)
       if all.any (lacks (h :: hs)) then meansF cons k (othersL rows) t
       else if all.all (fun c => decide (0 ≤ c.f3) && decide (c.f3 ≤ 2) && (meansF cons k (underL rows (headOf c)) ((belowO (p :: t) (headOf c)).getD [])).isSome) then
        some (all.any fun c => (meansF cons k (underL rows (headOf c)) ((belowO (p :: t) (headOf c)).getD [])).getD false)
       else none
      else meansF cons k (othersL rows) t
    else meansF cons k (underL rows p) ((belowO (p :: t) p).getD [])
  else none
def MeansAt (cons : List S61) (k : Nat) : Prop :=
 ∀ (A0 : Option Addr) (c0 : Nat) (A1 : Option Addr) (c1 : Nat) (rows : List (List S25)) (A2 : Option Addr) (c2 : Nat) (q : List S25) (r : Bool) (w : World),
  Kd.C k61 w A0 cons.length cons → cons.length ≤ c0 → Kd.C (Kd.slice 25 k25) w A1 rows.length rows → rows.length ≤ c1 → Kd.C k25 w A2 q.length q → q.length ≤ c2 → meansF cons k rows q = some r →
  Calls Try.prog 24 #[.slice A0 cons.length c0, .slice A1 rows.length c1, .slice A2 q.length c2] w fun e w' => e = .returned (.bool r) ∧ Below w.heap.size w w'
theorem headOf_K {w : World} {base cv n : Nat} {ok : Nat → Prop} {Av : Option Addr} (x : S61) (hn : x.f3.toNat = n) (hR : k25.R 25 w base ok (.slice Av n cv) (List.replicate n wildS)) : k25.K w (headOf x) [.int .i64 5, .string x.f0, .int .i64 0, .int .i64 0, .slice none 0 0, .slice Av n cv] := by
 have h := Kd.R_reads' hR
 rw [List.length_replicate] at h
 have hk := k25_mk w (headOf x) (A4 := none) (c4 := 0) (Nat.le_refl _) (Kd.C_nil _ _) (A5 := Av) (c5 := cv) (by show (List.replicate x.f3.toNat wildS).length ≤ cv; rw [List.length_replicate, hn]; exact h.2.1) (by show k25.C w Av (List.replicate x.f3.toNat wildS).length (List.replicate x.f3.toNat wildS); rw [hn, List.length_replicate]; exact h.2.2)
 have he : (headOf x).f5.length = n := by show (List.replicate x.f3.toNat wildS).length = n; rw [List.length_replicate, hn]
 rw [he] at hk
 exact hk
theorem headOf_len (x : S61) (h : x.f3.toNat ≤ 2) : (headOf x).f5.length ≤ 2 := by
 show (List.replicate x.f3.toNat wildS).length ≤ 2
 rw [List.length_replicate]; exact h
theorem blk_six {w : World} {g : Nat} {t : TypeId} {a b c d e f : Value} (h : w.heap[g]? = some (.cells #[a, b, c, d, e, f] t (0, 0))) (a' b' c' d' e' f' : Value) :
 ((((((w.setCell ⟨g, 0, none⟩ a').setCell ⟨g, 1, none⟩ b').setCell ⟨g, 2, none⟩ c').setCell ⟨g, 3, none⟩ d').setCell ⟨g, 4, none⟩ e').setCell ⟨g, 5, none⟩ f').heap[g]? = some (.cells #[a', b', c', d', e', f'] t (0, 0)) :=
 blk_set (blk_set (blk_set (blk_set (blk_set (blk_set h 0 a') 1 b') 2 c') 3 d') 4 e') 5 f'
theorem below_six {w0 w : World} {B g : Nat} (h : Below B w0 w) (hg : B ≤ g) (a' b' c' d' e' f' : Value) :
 Below B w0 ((((((w.setCell ⟨g, 0, none⟩ a').setCell ⟨g, 1, none⟩ b').setCell ⟨g, 2, none⟩ c').setCell ⟨g, 3, none⟩ d').setCell ⟨g, 4, none⟩ e').setCell ⟨g, 5, none⟩ f') :=
 (((((h.setCell (p := ⟨g, 0, none⟩) hg _).setCell (p := ⟨g, 1, none⟩) hg _).setCell (p := ⟨g, 2, none⟩) hg _).setCell (p := ⟨g, 3, none⟩) hg _).setCell (p := ⟨g, 4, none⟩) hg _).setCell (p := ⟨g, 5, none⟩) hg _
theorem R_six {w : World} {e base g : Nat} {v : Value} {xs : List S25} (h : k25.R e w base (fun _ => True) v xs) (hg : g < base) (a' b' c' d' e' f' : Value) :
 k25.R e ((((((w.setCell ⟨g, 0, none⟩ a').setCell ⟨g, 1, none⟩ b').setCell ⟨g, 2, none⟩ c').setCell ⟨g, 3, none⟩ d').setCell ⟨g, 4, none⟩ e').setCell ⟨g, 5, none⟩ f') base (fun k => base ≤ k) v xs := by
 have h0 : k25.R e w base (fun k => base ≤ k) v xs := Kd.R_mono (Kd.R_bound h) (fun k hk => hk.2.1)
 have hf : ∀ j k, base ≤ k → k ≠ (Addr.block ⟨g, j, none⟩) := fun j k hk => by show k ≠ g; omega
 exact Kd.R_far (Kd.R_far (Kd.R_far (Kd.R_far (Kd.R_far (Kd.R_far h0 (hf 0) _) (hf 1) _) (hf 2) _) (hf 3) _) (hf 4) _) (hf 5) _
set_option maxHeartbeats 8000000 in
set_option maxRecDepth 100000 in
theorem means2_calls (cons : List S61) (k : Nat) (IH : MeansAt cons k) (A0 : Option Addr) (c0 : Nat) (A1 : Option Addr) (c1 : Nat) (rows : List (List S25)) (A2 : Option Addr) (c2 : Nat) (q : List S25) (r : Bool) (W : World)
 (h0 : Kd.C k61 W A0 cons.length cons) (hc0 : cons.length ≤ c0) (h1 : Kd.C (Kd.slice 25 k25) W A1 rows.length rows) (hc1 : rows.length ≤ c1) (h2 : Kd.C k25 W A2 q.length q) (hc2 : q.length ≤ c2) (hf : fitB rows q = true)
 (Bq Bb Br : Nat) (hbq : W.cell? ⟨Bq, 0, none⟩ = some (.slice A2 q.length c2)) (hbb : W.cell? ⟨Bb, 0, none⟩ = some (.slice A0 cons.length c0)) (hbr : W.cell? ⟨Br, 0, none⟩ = some (.slice A1 rows.length c1))
 (x : S61) (cs : List Value) (hK : k61.K W x cs) (hx0 : 0 ≤ x.f3) (hx2 : x.f3 ≤ 2) (h : meansF cons k (underL rows (headOf x)) ((belowO q (headOf x)).getD []) = some r) :
 Calls Try.prog 57 (#[.agg cs.toArray] ++ #[.pointer (some ⟨Bq, 0, none⟩), .pointer (some ⟨Bb, 0, none⟩), .pointer (some ⟨Br, 0, none⟩)]) W fun e w' => e = .returned (.bool r) ∧ Below W.heap.size W w' := by
 obtain rfl := k61_open hK
 show Calls Try.prog 57 #[.agg #[.string x.f0, .string x.f1, .int .i64 x.f2, .int .i64 x.f3, .int .i64 x.f4], .pointer (some ⟨Bq, 0, none⟩), .pointer (some ⟨Bb, 0, none⟩), .pointer (some ⟨Br, 0, none⟩)] W _
 have H := Aside0.mk h
 have H0 := Aside0.mk h0
 have H1 := Aside0.mk h1
 have H2 := Aside0.mk h2
 have HF := Aside0.mk hf
 have HBQ := Aside0.mk hbq
 have HBB := Aside0.mk hbb
 have HBR := Aside0.mk hbr
 clear h h0 h1 h2 hf hK hbq hbb hbr
 obtain ⟨n, hn⟩ : ∃ n : Nat, (n : Int) = x.f3 := ⟨x.f3.toNat, by omega⟩
 have hn2 : n ≤ 2 := by omega
 have HN := Aside0.mk (show x.f3.toNat = n by omega)
 rw [← hn]
 have hwild := wild_calls n hn2
 clear hn hx0 hx2
 have HB1 := Aside0.mk (below_1 W (.cells #[.string x.f0, .string x.f1, .int .i64 x.f2, .int .i64 (n : Int), .int .i64 x.f4] 61))
 go_enter Try.func57, Try.ntmps57
 go_wp2_with fail
 have HBL := blk_new W (.cells #[.string x.f0, .string x.f1, .int .i64 x.f2, .int .i64 (n : Int), .int .i64 x.f4] 61)
 have hsz1 : W.heap.size < (W.alloc (.cells #[.string x.f0, .string x.f1, .int .i64 x.f2, .int .i64 (n : Int), .int .i64 x.f4] 61)).heap.size := by rw [World.size_alloc]; omega
 generalize W.alloc (.cells #[.string x.f0, .string x.f1, .int .i64 x.f2, .int .i64 (n : Int), .int .i64 x.f4] 61) = W1 at HB1 HBL hsz1 ⊢
 have k0 : W1.cell? ⟨W.heap.size, 0, none⟩ = some (.string x.f0) := blk_cell HBL 0
 have k3 : W1.cell? ⟨W.heap.size, 3, none⟩ = some (.int .i64 (n : Int)) := blk_cell HBL 3
 clear HBL
 have hne0 : W.heap.size ≠ W1.heap.size := by omega
 have hwB : Calls Try.prog 25 #[.int .i64 (n : Int)] (W1.alloc (.cells #[.int .i64 0, .string ⟨#[]⟩, .int .i64 0, .int .i64 0, .slice none 0 0, .slice none 0 0] 25)).drew fun e w' => ∃ A c, e = .returned (.slice A n c) ∧ Kd.R k25 25 w' (W1.alloc (.cells #[.int .i64 0, .string ⟨#[]⟩, .int .i64 0, .int .i64 0, .slice none 0 0, .slice none 0 0] 25)).drew.heap.size (fun _ => True) (.slice A n c) (List.replicate n wildS) ∧ Below (W1.alloc (.cells #[.int .i64 0, .string ⟨#[]⟩, .int .i64 0, .int .i64 0, .slice none 0 0, .slice none 0 0] 25)).drew.heap.size (W1.alloc (.cells #[.int .i64 0, .string ⟨#[]⟩, .int .i64 0, .int .i64 0, .slice none 0 0, .slice none 0 0] 25)).drew w' ∧ w'.cell? ⟨W1.heap.size, 0, none⟩ = some (.int .i64 0) ∧ w'.cell? ⟨W1.heap.size, 1, none⟩ = some (.string ⟨#[]⟩) ∧ w'.cell? ⟨W1.heap.size, 2, none⟩ = some (.int .i64 0) ∧ w'.cell? ⟨W1.heap.size, 3, none⟩ = some (.int .i64 0) ∧ w'.cell? ⟨W1.heap.size, 4, none⟩ = some (.slice none 0 0) ∧ w'.cell? ⟨W1.heap.size, 5, none⟩ = some (.slice none 0 0) ∧ (∀ j, w'.frozen? ⟨W1.heap.size, j, none⟩ = false) ∧ w'.heap[W1.heap.size]? = some (.cells #[.int .i64 0, .string ⟨#[]⟩, .int .i64 0, .int .i64 0, .slice none 0 0, .slice none 0 0] 25 (0, 0)) := (hwild _).mono fun e w' ⟨v, he, hR, hB⟩ => by
  obtain ⟨A, c, rfl⟩ := Kd.R_slice hR
  rw [List.length_replicate] at he hR
  exact ⟨A, c, he, hR, hB, let hbk : w'.heap[W1.heap.size]? = some (.cells #[.int .i64 0, .string ⟨#[]⟩, .int .i64 0, .int .i64 0, .slice none 0 0, .slice none 0 0] 25 (0, 0)) := blk_below (blk_drew (blk_new W1 _)) hB; ⟨blk_cell hbk 0, blk_cell hbk 1, blk_cell hbk 2, blk_cell hbk 3, blk_cell hbk 4, blk_cell hbk 5, blk_frozen hbk, hbk⟩⟩
 go_region_held3 (fun w' => w'.cell? ⟨W.heap.size, 0, none⟩ = some (.string x.f0) ∧ w'.cell? ⟨W.heap.size, 3, none⟩ = some (.int .i64 (n : Int)))
  (first | go_keep | (refine ⟨?_, ?_⟩ <;> (repeat (rw [cell_far (by show W.heap.size ≠ W1.heap.size; exact hne0)])) <;> first | assumption | (go_simp; done) | ((with_reducible refine cell_below hB3 ?_); first | assumption | (go_simp; done)) | ((with_reducible refine pw_cell_below (below_1 _ _) (cell_below hB3 ?_)); first | assumption | (go_simp; done))))
  (first | (refine goes_ Try.func25 (by kernel_rfl) rfl #[.int .i64 (n : Int)] (by rfl) rfl rfl (by simp [Act.eval, Act.put]) ?_; (with_reducible refine hwB.mono ?_); rintro e w3 ⟨Av, cv, rfl, hR, hB3, b0, b1, b2, b3, b4, b5, bf, hbk⟩; refine ⟨_, rfl, ?_⟩) | (refine goes_ Try.func25 (by kernel_rfl) rfl #[.int .i64 (n : Int)] (by rfl) rfl rfl (by simp [Act.eval, Act.put]) ?_; (with_reducible refine (hwild _).mono ?_); rintro e w3 ⟨v, rfl, hR, hB3⟩; obtain ⟨Av, cv, rfl⟩ := Kd.R_slice hR; refine ⟨_, rfl, ?_⟩))
 ·
  rw [List.length_replicate] at hR
  have hB13 : Below W1.heap.size W1 w3 := below_of_drew hB3
  have hs3 : W1.heap.size ≤ w3.heap.size := hB13.size
  have hhb := blk_new w3 (.cells #[.int .i64 5, .string x.f0, .int .i64 0, .int .i64 0, .slice none 0 0, .slice Av n cv] 25)
  have HB5 := (HB1.out.trans (hB13.mono HB1.out.size)).alloc (Nat.le_trans HB1.out.size hs3) (.cells #[.int .i64 5, .string x.f0, .int .i64 0, .int .i64 0, .slice none 0 0, .slice Av n cv] 25)
  have hKh := headOf_K x HN.out (Kd.R_alloc hR (.cells #[.int .i64 5, .string x.f0, .int .i64 0, .int .i64 0, .slice none 0 0, .slice Av n cv] 25))
  have hHL := headOf_len x (by rw [HN.out]; exact hn2)
  generalize w3.alloc (.cells #[.int .i64 5, .string x.f0, .int .i64 0, .int .i64 0, .slice none 0 0, .slice Av n cv] 25) = W5 at hhb HB5 hKh ⊢
  generalize w3.heap.size = Bh at hhb ⊢
  clear hwild hwB hne0 hsz1 k0 k3 hB3 hR hB13 hs3
  have q0 := blk_cell hhb 0
  have q1 := blk_cell hhb 1
  have q2 := blk_cell hhb 2
  have q3 := blk_cell hhb 3
  have q4 := blk_cell hhb 4
  have q5 := blk_cell hhb 5
  have HB5' := Aside0.mk HB5
  have hbq5 : W5.cell? ⟨Bq, 0, none⟩ = some (.slice A2 q.length c2) := cell_below HB5 HBQ.out
  have HBB5 := Aside0.mk (cell_below HB5 HBB.out)
  have HBR5 := Aside0.mk (cell_below HB5 HBR.out)
  have HC1 := Aside0.mk (Kd.C_below H1.out HB5)
  have HC0 := Aside0.mk (Kd.C_below H0.out HB5)
  have HK5 := Aside0.mk hKh
  have hq := fitB_q HF.out
  have hbel := below_calls _ A2 c2 q (headOf x) _ W5 (Kd.F_below (Kd.C_F k25_heap H2.out) HB5) hc2 hKh hHL hq.1 hq.2.1 (fun p hp => by have := hq.2.2 p hp; omega)
  have HFR := Aside0.mk (fitB_rows HF.out)
  generalize (belowO q (headOf x)) = bo at hbel H
  clear hhb HB5 hKh hq
  go_wp2_with fail
  refine hbel.mono ?_; rintro e w6 ⟨v, rfl, hV, hB6⟩
  obtain ⟨A6, c6, rfl⟩ := Kd.V_slice hV
  have HV := Aside0.mk (Kd.V_reads' hV)
  have HBW6 := Aside0.mk (HB5'.out.trans (hB6.mono HB5'.out.size))
  replace q0 := cell_below hB6 q0
  replace q1 := cell_below hB6 q1
  replace q2 := cell_below hB6 q2
  replace q3 := cell_below hB6 q3
  replace q4 := cell_below hB6 q4
  replace q5 := cell_below hB6 q5
  have hbb6 := cell_below hB6 HBB5.out
  have hbr6 := cell_below hB6 HBR5.out
  have hund := under_calls A1 c1 rows (headOf x) _ w6.drew (Kd.C_drew (Kd.C_below HC1.out hB6)) (k25.K_below (below_drew (Below.refl _ _)) (k25.K_below hB6 HK5.out)) hHL HFR.out
  have HC06 := Aside0.mk (Kd.C_drew (Kd.C_below HC0.out hB6))
  clear hbel hV hB6 HBB5 HBR5 HC0 HC1 HK5 hbq5
  go_wp2_with fail
  go_region_held3 (fun w' => w'.cell? ⟨Bb, 0, none⟩ = some (.slice A0 cons.length c0) ∧ w'.cell? ⟨Br, 0, none⟩ = some (.slice A1 rows.length c1) ∧ w'.cell? ⟨Bh, 0, none⟩ = some (.int .i64 5) ∧ w'.cell? ⟨Bh, 1, none⟩ = some (.string x.f0) ∧ w'.cell? ⟨Bh, 2, none⟩ = some (.int .i64 0) ∧ w'.cell? ⟨Bh, 3, none⟩ = some (.int .i64 0) ∧ w'.cell? ⟨Bh, 4, none⟩ = some (.slice none 0 0) ∧ w'.cell? ⟨Bh, 5, none⟩ = some (.slice Av n cv))
   (first | exact ⟨hbb6, hbr6, q0, q1, q2, q3, q4, q5⟩ | exact ⟨cell_below hB7 hbb6, cell_below hB7 hbr6, cell_below hB7 q0, cell_below hB7 q1, cell_below hB7 q2, cell_below hB7 q3, cell_below hB7 q4, cell_below hB7 q5⟩ | exact ⟨cell_below hB8 (cell_below hB7 hbb6), cell_below hB8 (cell_below hB7 hbr6), cell_below hB8 (cell_below hB7 q0), cell_below hB8 (cell_below hB7 q1), cell_below hB8 (cell_below hB7 q2), cell_below hB8 (cell_below hB7 q3), cell_below hB8 (cell_below hB7 q4), cell_below hB8 (cell_below hB7 q5)⟩)
   (first
    | (refine goes_ Try.func52 (by kernel_rfl) rfl #[.slice A1 rows.length c1, .agg #[.int .i64 5, .string x.f0, .int .i64 0, .int .i64 0, .slice none 0 0, .slice Av n cv]] (by rfl) rfl rfl (by simp [Act.eval, Act.put]) ?_; (with_reducible refine hund.mono ?_); rintro e w7 ⟨v7, rfl, hN7, hB7⟩; obtain ⟨A7, c7, rfl⟩ := Kd.N_slice hN7; have hN7' := Kd.N_reads' hN7; have hIH := IH A0 c0 A7 c7 _ A6 c6 _ r w7 (Kd.C_below HC06.out hB7) hc0 hN7'.2.2 hN7'.2.1 (Kd.C_below (Kd.C_drew HV.out.2.2) hB7) HV.out.2.1 H.out; have HB7 := Aside0.mk hB7; refine ⟨_, rfl, ?_⟩)
    | (refine goes_ Try.func24 (by kernel_rfl) rfl #[.slice A0 cons.length c0, .slice A7 (underL rows (headOf x)).length c7, .slice A6 (bo.getD []).length c6] (by rfl) rfl rfl (by simp [Act.eval, Act.put]) ?_; (with_reducible refine hIH.mono ?_); rintro e w8 ⟨rfl, hB8⟩; refine ⟨_, rfl, ?_⟩))
  go_wp2
  go_ret
  exact ⟨rfl, HBW6.out.trans (((below_of_drew HB7.out).trans (hB8.mono HB7.out.size)).mono HBW6.out.size)⟩
 ·
  have hB13 : Below W1.heap.size W1 w3 := (below_1 W1 _).trans ((below_of_drew hB3).mono (by rw [World.size_alloc]; omega))
  have hsz5 : W1.heap.size < (W1.alloc (.cells #[.int .i64 0, .string ⟨#[]⟩, .int .i64 0, .int .i64 0, .slice none 0 0, .slice none 0 0] 25)).drew.heap.size := by rw [World.size_drew, World.size_alloc]; omega
  have hhb := blk_six hbk (.int .i64 5) (.string x.f0) (.int .i64 0) (.int .i64 0) (.slice none 0 0) (.slice Av n cv)
  have HB5 := below_six (HB1.out.trans (hB13.mono HB1.out.size)) HB1.out.size (.int .i64 5) (.string x.f0) (.int .i64 0) (.int .i64 0) (.slice none 0 0) (.slice Av n cv)
  have hKh := headOf_K x HN.out (R_six hR hsz5 (.int .i64 5) (.string x.f0) (.int .i64 0) (.int .i64 0) (.slice none 0 0) (.slice Av n cv))
  have hHL := headOf_len x (by rw [HN.out]; exact hn2)
  generalize (((((w3.setCell ⟨W1.heap.size, 0, none⟩ (.int .i64 5)).setCell ⟨W1.heap.size, 1, none⟩ (.string x.f0)).setCell ⟨W1.heap.size, 2, none⟩ (.int .i64 0)).setCell ⟨W1.heap.size, 3, none⟩ (.int .i64 0)).setCell ⟨W1.heap.size, 4, none⟩ (.slice none 0 0)).setCell ⟨W1.heap.size, 5, none⟩ (.slice Av n cv) = W5 at hhb HB5 hKh ⊢
  clear hwild hwB hne0 k0 k3 hB3 hR hB13 hbk hsz5 hsz1 b0 b1 b2 b3 b4 b5 bf
  generalize W1.heap.size = Bh at hhb ⊢
  have q0 := blk_cell hhb 0
  have q1 := blk_cell hhb 1
  have q2 := blk_cell hhb 2
  have q3 := blk_cell hhb 3
  have q4 := blk_cell hhb 4
  have q5 := blk_cell hhb 5
  have HB5' := Aside0.mk HB5
  have hbq5 : W5.cell? ⟨Bq, 0, none⟩ = some (.slice A2 q.length c2) := cell_below HB5 HBQ.out
  have HBB5 := Aside0.mk (cell_below HB5 HBB.out)
  have HBR5 := Aside0.mk (cell_below HB5 HBR.out)
  have HC1 := Aside0.mk (Kd.C_below H1.out HB5)
  have HC0 := Aside0.mk (Kd.C_below H0.out HB5)
  have HK5 := Aside0.mk hKh
  have hq := fitB_q HF.out
  have hbel := below_calls _ A2 c2 q (headOf x) _ W5 (Kd.F_below (Kd.C_F k25_heap H2.out) HB5) hc2 hKh hHL hq.1 hq.2.1 (fun p hp => by have := hq.2.2 p hp; omega)
  have HFR := Aside0.mk (fitB_rows HF.out)
  generalize (belowO q (headOf x)) = bo at hbel H
  clear hhb HB5 hKh hq
  go_wp2_with fail
  refine hbel.mono ?_; rintro e w6 ⟨v, rfl, hV, hB6⟩
  obtain ⟨A6, c6, rfl⟩ := Kd.V_slice hV
  have HV := Aside0.mk (Kd.V_reads' hV)
  have HBW6 := Aside0.mk (HB5'.out.trans (hB6.mono HB5'.out.size))
  replace q0 := cell_below hB6 q0
  replace q1 := cell_below hB6 q1
  replace q2 := cell_below hB6 q2
  replace q3 := cell_below hB6 q3
  replace q4 := cell_below hB6 q4
  replace q5 := cell_below hB6 q5
  have hbb6 := cell_below hB6 HBB5.out
  have hbr6 := cell_below hB6 HBR5.out
  have hund := under_calls A1 c1 rows (headOf x) _ w6.drew (Kd.C_drew (Kd.C_below HC1.out hB6)) (k25.K_below (below_drew (Below.refl _ _)) (k25.K_below hB6 HK5.out)) hHL HFR.out
  have HC06 := Aside0.mk (Kd.C_drew (Kd.C_below HC0.out hB6))
  clear hbel hV hB6 HBB5 HBR5 HC0 HC1 HK5 hbq5
  go_wp2_with fail
  go_region_held3 (fun w' => w'.cell? ⟨Bb, 0, none⟩ = some (.slice A0 cons.length c0) ∧ w'.cell? ⟨Br, 0, none⟩ = some (.slice A1 rows.length c1) ∧ w'.cell? ⟨Bh, 0, none⟩ = some (.int .i64 5) ∧ w'.cell? ⟨Bh, 1, none⟩ = some (.string x.f0) ∧ w'.cell? ⟨Bh, 2, none⟩ = some (.int .i64 0) ∧ w'.cell? ⟨Bh, 3, none⟩ = some (.int .i64 0) ∧ w'.cell? ⟨Bh, 4, none⟩ = some (.slice none 0 0) ∧ w'.cell? ⟨Bh, 5, none⟩ = some (.slice Av n cv))
   (first | exact ⟨hbb6, hbr6, q0, q1, q2, q3, q4, q5⟩ | exact ⟨cell_below hB7 hbb6, cell_below hB7 hbr6, cell_below hB7 q0, cell_below hB7 q1, cell_below hB7 q2, cell_below hB7 q3, cell_below hB7 q4, cell_below hB7 q5⟩ | exact ⟨cell_below hB8 (cell_below hB7 hbb6), cell_below hB8 (cell_below hB7 hbr6), cell_below hB8 (cell_below hB7 q0), cell_below hB8 (cell_below hB7 q1), cell_below hB8 (cell_below hB7 q2), cell_below hB8 (cell_below hB7 q3), cell_below hB8 (cell_below hB7 q4), cell_below hB8 (cell_below hB7 q5)⟩)
   (first
    | (refine goes_ Try.func52 (by kernel_rfl) rfl #[.slice A1 rows.length c1, .agg #[.int .i64 5, .string x.f0, .int .i64 0, .int .i64 0, .slice none 0 0, .slice Av n cv]] (by rfl) rfl rfl (by simp [Act.eval, Act.put]) ?_; (with_reducible refine hund.mono ?_); rintro e w7 ⟨v7, rfl, hN7, hB7⟩; obtain ⟨A7, c7, rfl⟩ := Kd.N_slice hN7; have hN7' := Kd.N_reads' hN7; have hIH := IH A0 c0 A7 c7 _ A6 c6 _ r w7 (Kd.C_below HC06.out hB7) hc0 hN7'.2.2 hN7'.2.1 (Kd.C_below (Kd.C_drew HV.out.2.2) hB7) HV.out.2.1 H.out; have HB7 := Aside0.mk hB7; refine ⟨_, rfl, ?_⟩)
    | (refine goes_ Try.func24 (by kernel_rfl) rfl #[.slice A0 cons.length c0, .slice A7 (underL rows (headOf x)).length c7, .slice A6 (bo.getD []).length c6] (by rfl) rfl rfl (by simp [Act.eval, Act.put]) ?_; (with_reducible refine hIH.mono ?_); rintro e w8 ⟨rfl, hB8⟩; refine ⟨_, rfl, ?_⟩))
  go_wp2
  go_ret
  exact ⟨rfl, HBW6.out.trans (((below_of_drew HB7.out).trans (hB8.mono HB7.out.size)).mono HBW6.out.size)⟩
theorem meansF_rows (cons : List S61) (k : Nat) (q : List S25) : meansF cons (k + 1) [] q = some true := by simp [meansF]
theorem meansF_q (cons : List S61) (k : Nat) (rows : List (List S25)) (h : 0 < rows.length) : meansF cons (k + 1) rows [] = some false := by
 cases rows with
 | nil => simp at h
 | cons r rs => simp [meansF]
theorem cons_open {w : World} {A : Option Addr} {p : S25} {t : List S25} (h : Kd.C k25 w A (p :: t).length (p :: t)) : ∃ ad A4 c4 A5 c5, A = some ad ∧ k25.K w p [.int .i64 p.f0, .string p.f1, .int .i64 p.f2, .int .i64 p.f3, .slice A4 p.f4.length c4, .slice A5 p.f5.length c5] ∧
 w.cell? ad = some (.int .i64 p.f0) ∧ w.cell? ⟨ad.block, ad.off + 1, none⟩ = some (.string p.f1) ∧ w.cell? ⟨ad.block, ad.off + 2, none⟩ = some (.int .i64 p.f2) ∧ w.cell? ⟨ad.block, ad.off + 3, none⟩ = some (.int .i64 p.f3) ∧ w.cell? ⟨ad.block, ad.off + 4, none⟩ = some (.slice A4 p.f4.length c4) ∧ w.cell? ⟨ad.block, ad.off + 5, none⟩ = some (.slice A5 p.f5.length c5) := by
 obtain ⟨ad, c, e', hcl, hKp, hcz, hcj⟩ := elem_at h 0 (by simp)
 subst e'
 simp only [Nat.zero_mul, Addr_add_zero] at hcz hcj
 simp only [List.getElem_cons_zero] at hKp
 have hKp0 := hKp
 obtain ⟨A4, c4, A5, c5, rfl, l4, g4, l5, g5⟩ := k25_open hKp
 exact ⟨ad, A4, c4, A5, c5, rfl, hKp0, hcz _ rfl, hcj 1 _ (by decide) rfl, hcj 2 _ (by decide) rfl, hcj 3 _ (by decide) rfl, hcj 4 _ (by decide) rfl, hcj 5 _ (by decide) rfl⟩
theorem drew_cell {w w1 : World} (hb : Below w.drew.heap.size w.drew w1) {a : Addr} {v : Value} (h : w.cell? a = some v) : w1.cell? a = some v := pw_cell_below hb (show w.drew.cell? a = some v from h)
theorem drew_C {α : Type} {d : Kd α} {w w1 : World} {A : Option Addr} {n : Nat} {xs : List α} (hb : Below w.drew.heap.size w.drew w1) (h : Kd.C d w A n xs) : Kd.C d w1 A n xs := Kd.C_below (Kd.C_drew h) hb
theorem drew_K {α : Type} {d : Kd α} {w w1 : World} {x : α} {cs : List Value} (hb : Below w.drew.heap.size w.drew w1) (h : d.K w x cs) : d.K w1 x cs := d.K_below hb (d.K_below (below_drew (Below.refl _ _)) h)
theorem drew_B {w0 w w1 : World} (h : Below w0.heap.size w0 w) (hb : Below w.drew.heap.size w.drew w1) : Below w0.heap.size w0 w1 := h.trans ((below_of_drew hb).mono h.size)
set_option maxHeartbeats 8000000 in
set_option maxRecDepth 100000 in
theorem means_a (cons : List S61) (A0 : Option Addr) (c0 : Nat) (A1 : Option Addr) (c1 : Nat) (n1 : Nat) (A2 : Option Addr) (c2 : Nat) (n2 : Nat) (w : World) (h : n1 = 0 ∨ n2 = 0) :
 Calls Try.prog 24 #[.slice A0 cons.length c0, .slice A1 n1 c1, .slice A2 n2 c2] w fun e w' => e = .returned (.bool (n1 == 0)) ∧ Below w.heap.size w w' := by
 have HB := Aside0.mk (below_3 w (.cells #[.slice A0 cons.length c0] 52) (.cells #[.slice A1 n1 c1] 53) (.cells #[.slice A2 n2 c2] 22))
 by_cases h1 : n1 = 0
 ·
  subst h1
  have hz : ((0 : Nat) : Int) = 0 := rfl
  have hb : ((0 : Nat) == 0) = true := rfl
  rw [hb]
  clear h hb
  go_enter Try.func24, Try.ntmps24
  go_wp2
  go_ret
  exact ⟨rfl, HB.out⟩
 ·
  have h2 : n2 = 0 := by omega
  subst h2
  have hz : ¬ ((n1 : Nat) : Int) = 0 := by omega
  have hb : (n1 == 0) = false := by simpa using h1
  have hc := Aside0.mk (show ((n1 : Int) == 0) = false by simpa using h1)
  rw [hb]
  clear h hb h1
  go_enter Try.func24, Try.ntmps24
  go_wp2
  go_ret
  exact ⟨congrArg (fun b => Ending.returned (.bool b)) hc.out, HB.out⟩
set_option maxHeartbeats 8000000 in
set_option maxRecDepth 100000 in
theorem means_c (cons : List S61) (k : Nat) (IH : MeansAt cons k) (A0 : Option Addr) (c0 : Nat) (A1 : Option Addr) (c1 : Nat) (rows : List (List S25)) (A2 : Option Addr) (c2 : Nat) (p : S25) (t : List S25) (r : Bool) (w : World)
 (h0 : Kd.C k61 w A0 cons.length cons) (hc0 : cons.length ≤ c0) (h1 : Kd.C (Kd.slice 25 k25) w A1 rows.length rows) (hc1 : rows.length ≤ c1) (h2 : Kd.C k25 w A2 (p :: t).length (p :: t)) (hc2 : (p :: t).length ≤ c2) (hrp : 0 < rows.length) (hf : fitB rows (p :: t) = true) (hl : looseB p = false) (h : meansF cons k (underL rows p) ((belowO (p :: t) p).getD []) = some r) :
 Calls Try.prog 24 #[.slice A0 cons.length c0, .slice A1 rows.length c1, .slice A2 (p :: t).length c2] w fun e w' => e = .returned (.bool r) ∧ Below w.heap.size w w' := by
 have hfq := fitB_q hf
 obtain ⟨ad, A4, c4, A5, c5, rfl, hKp, e0, e1, e2, e3, e4, e5⟩ := cons_open h2
 generalize hn1 : rows.length = n1 at hc1 h1 ⊢
 generalize hn2 : (p :: t).length = n2 at hc2 h2 ⊢
 have hn1p : 0 < n1 := by omega
 have hn2p : 0 < n2 := by simp at hn2; omega
 have hz1 : ¬ (n1 : Int) = 0 := by omega
 have hz2 : ¬ (n2 : Int) = 0 := by omega
 have hz3 : (0 : Int) < (n2 : Int) := by omega
 have hz4 : ((n1 : Int) == 0) = false := by simpa using hz1
 have hz5 : ((n2 : Int) == 0) = false := by simpa using hz2
 have hHB := below_3 w (.cells #[.slice A0 cons.length c0] 52) (.cells #[.slice A1 n1 c1] 53) (.cells #[.slice (some ad) n2 c2] 22)
 have hb2 := blk_new ((w.alloc (.cells #[.slice A0 cons.length c0] 52)).alloc (.cells #[.slice A1 n1 c1] 53)) (.cells #[.slice (some ad) n2 c2] 22)
 have hb1 := blk_below (blk_new (w.alloc (.cells #[.slice A0 cons.length c0] 52)) (.cells #[.slice A1 n1 c1] 53)) (below_1 _ (.cells #[.slice (some ad) n2 c2] 22))
 have hb0 := blk_below (blk_new w (.cells #[.slice A0 cons.length c0] 52)) (below_2 _ (.cells #[.slice A1 n1 c1] 53) (.cells #[.slice (some ad) n2 c2] 22))
 simp only [World.size_alloc] at hb0 hb1 hb2
 have H0 := Aside0.mk (Kd.C_below h0 hHB)
 have H1 := Aside0.mk (Kd.C_below h1 hHB)
 have H2 := Aside0.mk (Kd.C_below h2 hHB)
 have HKP := Aside0.mk (k25.K_below hHB hKp)
 have hlo := loose_calls p _ _ (HKP.out)
 rw [hl] at hlo
 replace e0 := pw_cell_below hHB e0
 replace e1 := pw_cell_below hHB e1
 replace e2 := pw_cell_below hHB e2
 replace e3 := pw_cell_below hHB e3
 replace e4 := pw_cell_below hHB e4
 replace e5 := pw_cell_below hHB e5
 have HN1 := Aside0.mk hn1
 have HN2 := Aside0.mk hn2
 have HF := Aside0.mk hf
 have HH := Aside0.mk h
 have HL := Aside0.mk hl
 have HHB := Aside0.mk hHB
 have HFQ := Aside0.mk hfq
 clear hn1 hn2 hf h hl h0 h1 h2 hrp hKp hHB hfq
 generalize p.f4.length = n4 at hlo e4 HKP
 generalize p.f5.length = n5 at hlo e5 HKP
 go_enter Try.func24, Try.ntmps24
 go_wp2_with fail
 generalize (((w.alloc (.cells #[.slice A0 cons.length c0] 52)).alloc (.cells #[.slice A1 n1 c1] 53)).alloc (.cells #[.slice (some ad) n2 c2] 22)) = W3 at hlo e0 e1 e2 e3 e4 e5 hb0 hb1 hb2 H0 H1 H2 HKP HHB ⊢
 have k0 := blk_cell hb0 0
 have k1 := blk_cell hb1 0
 have k2 := blk_cell hb2 0
 clear hb0 hb1 hb2
 refine hlo.mono ?_; rintro e W4 ⟨rfl, hB4⟩
 replace e0 := pw_cell_below hB4 e0
 replace e1 := pw_cell_below hB4 e1
 replace e2 := pw_cell_below hB4 e2
 replace e3 := pw_cell_below hB4 e3
 replace e4 := pw_cell_below hB4 e4
 replace e5 := pw_cell_below hB4 e5
 replace k0 := pw_cell_below hB4 k0
 replace k1 := pw_cell_below hB4 k1
 replace k2 := pw_cell_below hB4 k2
 replace H0 := Aside0.mk (Kd.C_below H0.out hB4)
 replace H1 := Aside0.mk (Kd.C_below H1.out hB4)
 replace H2 := Aside0.mk (Kd.C_below H2.out hB4)
 replace HKP := Aside0.mk (k25.K_below hB4 HKP.out)
 replace HHB := Aside0.mk (HHB.out.trans (hB4.mono HHB.out.size))
 clear hB4 hlo
 have hbel := below_calls _ (some ad) c2 (p :: t) p _ W4.drew (Kd.C_F k25_heap (by rw [HN2.out]; exact Kd.C_drew H2.out)) (by rw [HN2.out]; exact hc2) (k25.K_below (below_drew (Below.refl _ _)) HKP.out) (HFQ.out.2.2 p (List.mem_cons_self ..)) HFQ.out.1 HFQ.out.2.1 (fun x hx => by have := HFQ.out.2.2 x hx; omega)
 rw [HN2.out] at hbel
 generalize belowO (p :: t) p = bo at hbel HH
 have hsp := HFQ.out.2.2 p (List.mem_cons_self ..)
 go_wp2_with fail
 go_region_held3 (fun w' => w'.cell? ⟨w.heap.size, 0, none⟩ = some (.slice A0 cons.length c0) ∧ w'.cell? ⟨w.heap.size + 1, 0, none⟩ = some (.slice A1 n1 c1) ∧ w'.cell? ⟨w.heap.size + 1 + 1, 0, none⟩ = some (.slice (some ad) n2 c2) ∧ w'.cell? ad = some (.int .i64 p.f0) ∧ w'.cell? ⟨ad.block, ad.off + 1, none⟩ = some (.string p.f1) ∧ w'.cell? ⟨ad.block, ad.off + 2, none⟩ = some (.int .i64 p.f2) ∧ w'.cell? ⟨ad.block, ad.off + 3, none⟩ = some (.int .i64 p.f3) ∧ w'.cell? ⟨ad.block, ad.off + 4, none⟩ = some (.slice A4 n4 c4) ∧ w'.cell? ⟨ad.block, ad.off + 5, none⟩ = some (.slice A5 n5 c5))
  (first | exact ⟨k0, k1, k2, e0, e1, e2, e3, e4, e5⟩ | exact ⟨pw_cell_below hB5 k0, pw_cell_below hB5 k1, pw_cell_below hB5 k2, pw_cell_below hB5 e0, pw_cell_below hB5 e1, pw_cell_below hB5 e2, pw_cell_below hB5 e3, pw_cell_below hB5 e4, pw_cell_below hB5 e5⟩)
  ((refine goes_ Try.func51 (by kernel_rfl) rfl #[.slice (some ad) n2 c2, .agg #[.int .i64 p.f0, .string p.f1, .int .i64 p.f2, .int .i64 p.f3, .slice A4 n4 c4, .slice A5 n5 c5]] (by rfl) rfl rfl (by simp [Act.eval, Act.put]) ?_; (with_reducible refine hbel.mono ?_); rintro e W5 ⟨v, rfl, hV, hB5⟩; obtain ⟨A6, c6, rfl⟩ := Kd.V_slice hV; refine ⟨_, rfl, ?_⟩))
 have HV := Aside0.mk (Kd.V_reads' hV)
 replace e0 := drew_cell hB5 e0
 replace e1 := drew_cell hB5 e1
 replace e2 := drew_cell hB5 e2
 replace e3 := drew_cell hB5 e3
 replace e4 := drew_cell hB5 e4
 replace e5 := drew_cell hB5 e5
 replace k0 := drew_cell hB5 k0
 replace k1 := drew_cell hB5 k1
 replace k2 := drew_cell hB5 k2
 replace H0 := Aside0.mk (drew_C hB5 H0.out)
 replace H1 := Aside0.mk (drew_C hB5 H1.out)
 replace H2 := Aside0.mk (drew_C hB5 H2.out)
 replace HKP := Aside0.mk (drew_K hB5 HKP.out)
 replace HHB := Aside0.mk (drew_B HHB.out hB5)
 have hund := under_calls A1 c1 rows p _ W5.drew (by rw [HN1.out]; exact Kd.C_drew H1.out) (k25.K_below (below_drew (Below.refl _ _)) HKP.out) hsp (fitB_rows HF.out)
 rw [HN1.out] at hund
 clear hbel hV hB5
 go_wp2_with fail
 go_region_held3 (fun w' => w'.cell? ⟨w.heap.size, 0, none⟩ = some (.slice A0 cons.length c0) ∧ w'.cell? ⟨w.heap.size + 1, 0, none⟩ = some (.slice A1 n1 c1) ∧ w'.cell? ⟨w.heap.size + 1 + 1, 0, none⟩ = some (.slice (some ad) n2 c2) ∧ w'.cell? ad = some (.int .i64 p.f0) ∧ w'.cell? ⟨ad.block, ad.off + 1, none⟩ = some (.string p.f1) ∧ w'.cell? ⟨ad.block, ad.off + 2, none⟩ = some (.int .i64 p.f2) ∧ w'.cell? ⟨ad.block, ad.off + 3, none⟩ = some (.int .i64 p.f3) ∧ w'.cell? ⟨ad.block, ad.off + 4, none⟩ = some (.slice A4 n4 c4) ∧ w'.cell? ⟨ad.block, ad.off + 5, none⟩ = some (.slice A5 n5 c5))
  (first | exact ⟨k0, k1, k2, e0, e1, e2, e3, e4, e5⟩ | exact ⟨drew_cell hB7 k0, drew_cell hB7 k1, drew_cell hB7 k2, drew_cell hB7 e0, drew_cell hB7 e1, drew_cell hB7 e2, drew_cell hB7 e3, drew_cell hB7 e4, drew_cell hB7 e5⟩ | exact ⟨pw_cell_below hB8 (drew_cell hB7 k0), pw_cell_below hB8 (drew_cell hB7 k1), pw_cell_below hB8 (drew_cell hB7 k2), pw_cell_below hB8 (drew_cell hB7 e0), pw_cell_below hB8 (drew_cell hB7 e1), pw_cell_below hB8 (drew_cell hB7 e2), pw_cell_below hB8 (drew_cell hB7 e3), pw_cell_below hB8 (drew_cell hB7 e4), pw_cell_below hB8 (drew_cell hB7 e5)⟩)
  (first
   | (refine goes_ Try.func52 (by kernel_rfl) rfl #[.slice A1 n1 c1, .agg #[.int .i64 p.f0, .string p.f1, .int .i64 p.f2, .int .i64 p.f3, .slice A4 n4 c4, .slice A5 n5 c5]] (by rfl) rfl rfl (by simp [Act.eval, Act.put]) ?_; (with_reducible refine hund.mono ?_); rintro e W7 ⟨v7, rfl, hN7, hB7⟩; obtain ⟨A7, c7, rfl⟩ := Kd.N_slice hN7; have hN7' := Kd.N_reads' hN7; have hIH := IH A0 c0 A7 c7 _ A6 c6 _ r W7 (drew_C hB7 H0.out) hc0 hN7'.2.2 hN7'.2.1 (drew_C hB7 HV.out.2.2) HV.out.2.1 HH.out; have HB7 := Aside0.mk hB7; refine ⟨_, rfl, ?_⟩)
   | (refine goes_ Try.func24 (by kernel_rfl) rfl #[.slice A0 cons.length c0, .slice A7 (underL rows p).length c7, .slice A6 (bo.getD []).length c6] (by rfl) rfl rfl (by simp [Act.eval, Act.put]) ?_; (with_reducible refine hIH.mono ?_); rintro e W8 ⟨rfl, hB8⟩; refine ⟨_, rfl, ?_⟩))
 go_wp2
 go_ret
 exact ⟨rfl, (drew_B HHB.out HB7.out).trans (hB8.mono (drew_B HHB.out HB7.out).size)⟩
set_option maxHeartbeats 8000000 in
set_option maxRecDepth 100000 in
theorem means_d1 (cons : List S61) (k : Nat) (IH : MeansAt cons k) (A0 : Option Addr) (c0 : Nat) (A1 : Option Addr) (c1 : Nat) (rows : List (List S25)) (A2 : Option Addr) (c2 : Nat) (p : S25) (t : List S25) (r : Bool) (w : World)
 (h0 : Kd.C k61 w A0 cons.length cons) (hc0 : cons.length ≤ c0) (h1 : Kd.C (Kd.slice 25 k25) w A1 rows.length rows) (hc1 : rows.length ≤ c1) (h2 : Kd.C k25 w A2 (p :: t).length (p :: t)) (hc2 : (p :: t).length ≤ c2) (hrp : 0 < rows.length) (hf : fitB rows (p :: t) = true) (hl : looseB p = true) (hcol0 : columnL rows = []) (h : meansF cons k (othersL rows) t = some r) :
 Calls Try.prog 24 #[.slice A0 cons.length c0, .slice A1 rows.length c1, .slice A2 (p :: t).length c2] w fun e w' => e = .returned (.bool r) ∧ Below w.heap.size w w' := by
 have hfq := fitB_q hf
 obtain ⟨ad, A4, c4, A5, c5, rfl, hKp, e0, e1, e2, e3, e4, e5⟩ := cons_open h2
 generalize hn1 : rows.length = n1 at hc1 h1 ⊢
 generalize hn2 : (p :: t).length = n2 at hc2 h2 ⊢
 have hn1p : 0 < n1 := by omega
 have hn2p : 0 < n2 := by simp at hn2; omega
 have hz1 : ¬ (n1 : Int) = 0 := by omega
 have hz2 : ¬ (n2 : Int) = 0 := by omega
 have hz3 : (0 : Int) < (n2 : Int) := by omega
 have hz4 : ((n1 : Int) == 0) = false := by simpa using hz1
 have hz5 : ((n2 : Int) == 0) = false := by simpa using hz2
 have hHB := below_3 w (.cells #[.slice A0 cons.length c0] 52) (.cells #[.slice A1 n1 c1] 53) (.cells #[.slice (some ad) n2 c2] 22)
 have hb2 := blk_new ((w.alloc (.cells #[.slice A0 cons.length c0] 52)).alloc (.cells #[.slice A1 n1 c1] 53)) (.cells #[.slice (some ad) n2 c2] 22)
 have hb1 := blk_below (blk_new (w.alloc (.cells #[.slice A0 cons.length c0] 52)) (.cells #[.slice A1 n1 c1] 53)) (below_1 _ (.cells #[.slice (some ad) n2 c2] 22))
 have hb0 := blk_below (blk_new w (.cells #[.slice A0 cons.length c0] 52)) (below_2 _ (.cells #[.slice A1 n1 c1] 53) (.cells #[.slice (some ad) n2 c2] 22))
 simp only [World.size_alloc] at hb0 hb1 hb2
 have H0 := Aside0.mk (Kd.C_below h0 hHB)
 have H1 := Aside0.mk (Kd.C_below h1 hHB)
 have H2 := Aside0.mk (Kd.C_below h2 hHB)
 have HKP := Aside0.mk (k25.K_below hHB hKp)
 have hlo := loose_calls p _ _ (HKP.out)
 rw [hl] at hlo
 replace e0 := pw_cell_below hHB e0
 replace e1 := pw_cell_below hHB e1
 replace e2 := pw_cell_below hHB e2
 replace e3 := pw_cell_below hHB e3
 replace e4 := pw_cell_below hHB e4
 replace e5 := pw_cell_below hHB e5
 have HN1 := Aside0.mk hn1
 have HN2 := Aside0.mk hn2
 have HF := Aside0.mk hf
 have HH := Aside0.mk h
 have HL := Aside0.mk hl
 have HHB := Aside0.mk hHB
 have HFQ := Aside0.mk hfq
 clear hn1 hn2 hf h hl h0 h1 h2 hrp hKp hHB hfq
 generalize p.f4.length = n4 at hlo e4 HKP
 generalize p.f5.length = n5 at hlo e5 HKP
 go_enter Try.func24, Try.ntmps24
 go_wp2_with fail
 generalize (((w.alloc (.cells #[.slice A0 cons.length c0] 52)).alloc (.cells #[.slice A1 n1 c1] 53)).alloc (.cells #[.slice (some ad) n2 c2] 22)) = W3 at hlo e0 e1 e2 e3 e4 e5 hb0 hb1 hb2 H0 H1 H2 HKP HHB ⊢
 have k0 := blk_cell hb0 0
 have k1 := blk_cell hb1 0
 have k2 := blk_cell hb2 0
 clear hb0 hb1 hb2
 refine hlo.mono ?_; rintro e W4 ⟨rfl, hB4⟩
 replace k0 := pw_cell_below hB4 k0
 replace k1 := pw_cell_below hB4 k1
 replace k2 := pw_cell_below hB4 k2
 replace H0 := Aside0.mk (Kd.C_below H0.out hB4)
 replace H1 := Aside0.mk (Kd.C_below H1.out hB4)
 replace H2 := Aside0.mk (Kd.C_below H2.out hB4)
 replace HHB := Aside0.mk (HHB.out.trans (hB4.mono HHB.out.size))
 clear hB4 hlo e0 e1 e2 e3 e4 e5 HKP HL
 have hcol := column_calls A1 c1 rows W4 (by rw [HN1.out]; exact H1.out) (by rw [HN1.out]; exact hc1) (fitB_rows HF.out)
 rw [HN1.out] at hcol
 go_wp2_with fail
 refine hcol.mono ?_; rintro e W5 ⟨v, rfl, hN, hB5⟩
 clear hcol
 obtain ⟨A8, c8, rfl⟩ := Kd.N_slice hN
 have hN' := Kd.N_reads' hN
 replace k0 := pw_cell_below hB5 k0
 replace k1 := pw_cell_below hB5 k1
 replace k2 := pw_cell_below hB5 k2
 replace H0 := Aside0.mk (Kd.C_below H0.out hB5)
 replace H1 := Aside0.mk (Kd.C_below H1.out hB5)
 replace H2 := Aside0.mk (Kd.C_below H2.out hB5)
 replace HHB := Aside0.mk (HHB.out.trans (hB5.mono HHB.out.size))
 clear hN hB5
 rw [hcol0] at hN'
 simp only [hcol0, List.length_nil] at hN' ⊢
 clear hN'
 have hB6 := below_1 W5 (.cells #[.slice A8 0 c8] 22)
 have k9 := new_cell W5 (.slice A8 0 c8) 22
 replace k0 := pw_cell_below hB6 k0
 replace k1 := pw_cell_below hB6 k1
 replace k2 := pw_cell_below hB6 k2
 replace H0 := Aside0.mk (Kd.C_below H0.out hB6)
 replace H1 := Aside0.mk (Kd.C_below H1.out hB6)
 replace H2 := Aside0.mk (Kd.C_below H2.out hB6)
 replace HHB := Aside0.mk (HHB.out.trans (hB6.mono HHB.out.size))
 clear hB6
 go_wp2_with fail
 generalize W5.alloc (.cells #[.slice A8 0 c8] 22) = W6 at k0 k1 k2 H0 H1 H2 HHB ⊢
 clear k9
 have hoth := others_calls A1 c1 rows W6.drew (by rw [HN1.out]; exact Kd.C_drew H1.out) (by rw [HN1.out]; exact hc1) (fitB_rows HF.out)
 rw [HN1.out] at hoth
 obtain ⟨i0, hi0, _, hsz0, _⟩ := info_parts info25
 have hcut := cut_from (P := Try.prog) 22 25 .i64 Try.underlying22 hi0 6 hsz0 (some ad) n2 c2 1 (by decide) (by omega)
 have hF2 := Kd.C_drop (m := 1) (c := c2) (k := k25) (xs := p :: t) (by rw [HN2.out]; exact H2.out) (by simp) (by rw [HN2.out]; exact hc2)
 simp only [show (1 : Int).toNat = 1 from rfl] at hcut
 simp only [show k25.sz = 6 from rfl, List.drop_succ_cons, List.drop_zero] at hF2
 have hn3 : n2 - 1 = t.length := by rw [← HN2.out]; simp
 have hc3 : t.length ≤ c2 - 1 := by omega
 rw [hn3] at hcut
 generalize (if c2 = 1 then some ad else (some ad).map fun x => x.add (1 * 6)) = AC at hcut hF2
 have HF2 := Aside0.mk hF2
 clear hF2 hi0 hsz0 hn3
 go_region_held3 (fun w' => w'.cell? ⟨w.heap.size, 0, none⟩ = some (.slice A0 cons.length c0) ∧ w'.cell? ⟨w.heap.size + 1, 0, none⟩ = some (.slice A1 n1 c1) ∧ w'.cell? ⟨w.heap.size + 1 + 1, 0, none⟩ = some (.slice (some ad) n2 c2))
  (first | exact ⟨k0, k1, k2⟩ | exact ⟨drew_cell hB7 k0, drew_cell hB7 k1, drew_cell hB7 k2⟩ | exact ⟨pw_cell_below hB8 (drew_cell hB7 k0), pw_cell_below hB8 (drew_cell hB7 k1), pw_cell_below hB8 (drew_cell hB7 k2)⟩)
  (first
   | (refine goes_ Try.func58 (by kernel_rfl) rfl #[.slice A1 n1 c1] (by rfl) rfl rfl (by simp [Act.eval, Act.put]) ?_; (with_reducible refine hoth.mono ?_); rintro e W7 ⟨v7, rfl, hN7, hB7⟩; obtain ⟨A7, c7, rfl⟩ := Kd.N_slice hN7; have hN7' := Kd.N_reads' hN7; have hIH := IH A0 c0 A7 c7 _ AC (c2 - 1) t r W7 (drew_C hB7 H0.out) hc0 hN7'.2.2 hN7'.2.1 (drew_C hB7 HF2.out) hc3 HH.out; have HB7 := Aside0.mk hB7; refine ⟨_, rfl, ?_⟩)
   | (refine goes_ Try.func24 (by kernel_rfl) rfl #[.slice A0 cons.length c0, .slice A7 (othersL rows).length c7, .slice AC t.length (c2 - 1)] (by rfl) rfl rfl (by simp [Act.eval, Act.put]) ?_; (with_reducible refine hIH.mono ?_); rintro e W8 ⟨rfl, hB8⟩; refine ⟨_, rfl, ?_⟩))
 go_wp2
 go_ret
 exact ⟨rfl, (drew_B HHB.out HB7.out).trans (hB8.mono (drew_B HHB.out HB7.out).size)⟩
theorem heads_open {w : World} {A : Option Addr} {h : S25} {hs : List S25} (hC : Kd.C k25 w A (h :: hs).length (h :: hs)) : ∃ ad, A = some ad ∧ w.cell? ad = some (.int .i64 h.f0) ∧ w.cell? ⟨ad.block, ad.off + 1, none⟩ = some (.string h.f1) := by
 obtain ⟨ad, A4, c4, A5, c5, e, _, e0, e1, _⟩ := cons_open hC
 exact ⟨ad, e, e0, e1⟩
set_option maxHeartbeats 8000000 in
set_option maxRecDepth 100000 in
theorem means_d2 (cons : List S61) (k : Nat) (IH : MeansAt cons k) (A0 : Option Addr) (c0 : Nat) (A1 : Option Addr) (c1 : Nat) (rows : List (List S25)) (A2 : Option Addr) (c2 : Nat) (p : S25) (t : List S25) (r : Bool) (w : World)
 (h0 : Kd.C k61 w A0 cons.length cons) (hc0 : cons.length ≤ c0) (h1 : Kd.C (Kd.slice 25 k25) w A1 rows.length rows) (hc1 : rows.length ≤ c1) (h2 : Kd.C k25 w A2 (p :: t).length (p :: t)) (hc2 : (p :: t).length ≤ c2) (hrp : 0 < rows.length) (hf : fitB rows (p :: t) = true) (hl : looseB p = true) (g : S25) (gs : List S25) (hcol0 : columnL rows = g :: gs) (hg5 : (g.f0 == 5) = false) (h : meansF cons k (othersL rows) t = some r) :
 Calls Try.prog 24 #[.slice A0 cons.length c0, .slice A1 rows.length c1, .slice A2 (p :: t).length c2] w fun e w' => e = .returned (.bool r) ∧ Below w.heap.size w w' := by
 have hfq := fitB_q hf
 obtain ⟨ad, A4, c4, A5, c5, rfl, hKp, e0, e1, e2, e3, e4, e5⟩ := cons_open h2
 generalize hn1 : rows.length = n1 at hc1 h1 ⊢
 generalize hn2 : (p :: t).length = n2 at hc2 h2 ⊢
 have hn1p : 0 < n1 := by omega
 have hn2p : 0 < n2 := by simp at hn2; omega
 have hz1 : ¬ (n1 : Int) = 0 := by omega
 have hz2 : ¬ (n2 : Int) = 0 := by omega
 have hz3 : (0 : Int) < (n2 : Int) := by omega
 have hz4 : ((n1 : Int) == 0) = false := by simpa using hz1
 have hz5 : ((n2 : Int) == 0) = false := by simpa using hz2
 have hHB := below_3 w (.cells #[.slice A0 cons.length c0] 52) (.cells #[.slice A1 n1 c1] 53) (.cells #[.slice (some ad) n2 c2] 22)
 have hb2 := blk_new ((w.alloc (.cells #[.slice A0 cons.length c0] 52)).alloc (.cells #[.slice A1 n1 c1] 53)) (.cells #[.slice (some ad) n2 c2] 22)
 have hb1 := blk_below (blk_new (w.alloc (.cells #[.slice A0 cons.length c0] 52)) (.cells #[.slice A1 n1 c1] 53)) (below_1 _ (.cells #[.slice (some ad) n2 c2] 22))
 have hb0 := blk_below (blk_new w (.cells #[.slice A0 cons.length c0] 52)) (below_2 _ (.cells #[.slice A1 n1 c1] 53) (.cells #[.slice (some ad) n2 c2] 22))
 simp only [World.size_alloc] at hb0 hb1 hb2
 have H0 := Aside0.mk (Kd.C_below h0 hHB)
 have H1 := Aside0.mk (Kd.C_below h1 hHB)
 have H2 := Aside0.mk (Kd.C_below h2 hHB)
 have HKP := Aside0.mk (k25.K_below hHB hKp)
 have hlo := loose_calls p _ _ (HKP.out)
 rw [hl] at hlo
 replace e0 := pw_cell_below hHB e0
 replace e1 := pw_cell_below hHB e1
 replace e2 := pw_cell_below hHB e2
 replace e3 := pw_cell_below hHB e3
 replace e4 := pw_cell_below hHB e4
 replace e5 := pw_cell_below hHB e5
 have HN1 := Aside0.mk hn1
 have HN2 := Aside0.mk hn2
 have HF := Aside0.mk hf
 have HH := Aside0.mk h
 have HL := Aside0.mk hl
 have HHB := Aside0.mk hHB
 have HFQ := Aside0.mk hfq
 clear hn1 hn2 hf h hl h0 h1 h2 hrp hKp hHB hfq
 generalize p.f4.length = n4 at hlo e4 HKP
 generalize p.f5.length = n5 at hlo e5 HKP
 go_enter Try.func24, Try.ntmps24
 go_wp2_with fail
 generalize (((w.alloc (.cells #[.slice A0 cons.length c0] 52)).alloc (.cells #[.slice A1 n1 c1] 53)).alloc (.cells #[.slice (some ad) n2 c2] 22)) = W3 at hlo e0 e1 e2 e3 e4 e5 hb0 hb1 hb2 H0 H1 H2 HKP HHB ⊢
 have k0 := blk_cell hb0 0
 have k1 := blk_cell hb1 0
 have k2 := blk_cell hb2 0
 clear hb0 hb1 hb2
 refine hlo.mono ?_; rintro e W4 ⟨rfl, hB4⟩
 replace k0 := pw_cell_below hB4 k0
 replace k1 := pw_cell_below hB4 k1
 replace k2 := pw_cell_below hB4 k2
 replace H0 := Aside0.mk (Kd.C_below H0.out hB4)
 replace H1 := Aside0.mk (Kd.C_below H1.out hB4)
 replace H2 := Aside0.mk (Kd.C_below H2.out hB4)
 replace HHB := Aside0.mk (HHB.out.trans (hB4.mono HHB.out.size))
 clear hB4 hlo e0 e1 e2 e3 e4 e5 HKP HL
 have hcol := column_calls A1 c1 rows W4 (by rw [HN1.out]; exact H1.out) (by rw [HN1.out]; exact hc1) (fitB_rows HF.out)
 rw [HN1.out] at hcol
 go_wp2_with fail
 refine hcol.mono ?_; rintro e W5 ⟨v, rfl, hN, hB5⟩
 clear hcol
 obtain ⟨A8, c8, rfl⟩ := Kd.N_slice hN
 have hN' := Kd.N_reads' hN
 replace k0 := pw_cell_below hB5 k0
 replace k1 := pw_cell_below hB5 k1
 replace k2 := pw_cell_below hB5 k2
 replace H0 := Aside0.mk (Kd.C_below H0.out hB5)
 replace H1 := Aside0.mk (Kd.C_below H1.out hB5)
 replace H2 := Aside0.mk (Kd.C_below H2.out hB5)
 replace HHB := Aside0.mk (HHB.out.trans (hB5.mono HHB.out.size))
 clear hN hB5
 rw [hcol0] at hN'
 simp only [hcol0] at hN' ⊢
 obtain ⟨ag, rfl, x0, x1⟩ := heads_open hN'.2.2
 have hg6 : ¬ g.f0 = 5 := by simpa using hg5
 generalize hn8 : (g :: gs).length = n8 at hN' ⊢
 have hz6 : (0 : Int) < (n8 : Int) := by simp at hn8; omega
 clear hN' hn8
 have hB6 := below_1 W5 (.cells #[.slice (some ag) n8 c8] 22)
 have k9 := new_cell W5 (.slice (some ag) n8 c8) 22
 replace k0 := pw_cell_below hB6 k0
 replace k1 := pw_cell_below hB6 k1
 replace k2 := pw_cell_below hB6 k2
 replace x0 := pw_cell_below hB6 x0
 replace H0 := Aside0.mk (Kd.C_below H0.out hB6)
 replace H1 := Aside0.mk (Kd.C_below H1.out hB6)
 replace H2 := Aside0.mk (Kd.C_below H2.out hB6)
 replace HHB := Aside0.mk (HHB.out.trans (hB6.mono HHB.out.size))
 clear hB6 x1
 go_wp2_with fail
 generalize W5.alloc (.cells #[.slice (some ag) n8 c8] 22) = W6 at k0 k1 k2 H0 H1 H2 HHB x0 ⊢
 clear k9 x0 hg5 hg6 hz6
 have hoth := others_calls A1 c1 rows W6.drew (by rw [HN1.out]; exact Kd.C_drew H1.out) (by rw [HN1.out]; exact hc1) (fitB_rows HF.out)
 rw [HN1.out] at hoth
 obtain ⟨i0, hi0, _, hsz0, _⟩ := info_parts info25
 have hcut := cut_from (P := Try.prog) 22 25 .i64 Try.underlying22 hi0 6 hsz0 (some ad) n2 c2 1 (by decide) (by omega)
 have hF2 := Kd.C_drop (m := 1) (c := c2) (k := k25) (xs := p :: t) (by rw [HN2.out]; exact H2.out) (by simp) (by rw [HN2.out]; exact hc2)
 simp only [show (1 : Int).toNat = 1 from rfl] at hcut
 simp only [show k25.sz = 6 from rfl, List.drop_succ_cons, List.drop_zero] at hF2
 have hn3 : n2 - 1 = t.length := by rw [← HN2.out]; simp
 have hc3 : t.length ≤ c2 - 1 := by omega
 rw [hn3] at hcut
 generalize (if c2 = 1 then some ad else (some ad).map fun x => x.add (1 * 6)) = AC at hcut hF2
 have HF2 := Aside0.mk hF2
 clear hF2 hi0 hsz0 hn3
 go_region_held3 (fun w' => w'.cell? ⟨w.heap.size, 0, none⟩ = some (.slice A0 cons.length c0) ∧ w'.cell? ⟨w.heap.size + 1, 0, none⟩ = some (.slice A1 n1 c1) ∧ w'.cell? ⟨w.heap.size + 1 + 1, 0, none⟩ = some (.slice (some ad) n2 c2))
  (first | exact ⟨k0, k1, k2⟩ | exact ⟨drew_cell hB7 k0, drew_cell hB7 k1, drew_cell hB7 k2⟩ | exact ⟨pw_cell_below hB8 (drew_cell hB7 k0), pw_cell_below hB8 (drew_cell hB7 k1), pw_cell_below hB8 (drew_cell hB7 k2)⟩)
  (first
   | (refine goes_ Try.func58 (by kernel_rfl) rfl #[.slice A1 n1 c1] (by rfl) rfl rfl (by simp [Act.eval, Act.put]) ?_; (with_reducible refine hoth.mono ?_); rintro e W7 ⟨v7, rfl, hN7, hB7⟩; obtain ⟨A7, c7, rfl⟩ := Kd.N_slice hN7; have hN7' := Kd.N_reads' hN7; have hIH := IH A0 c0 A7 c7 _ AC (c2 - 1) t r W7 (drew_C hB7 H0.out) hc0 hN7'.2.2 hN7'.2.1 (drew_C hB7 HF2.out) hc3 HH.out; have HB7 := Aside0.mk hB7; refine ⟨_, rfl, ?_⟩)
   | (refine goes_ Try.func24 (by kernel_rfl) rfl #[.slice A0 cons.length c0, .slice A7 (othersL rows).length c7, .slice AC t.length (c2 - 1)] (by rfl) rfl rfl (by simp [Act.eval, Act.put]) ?_; (with_reducible refine hIH.mono ?_); rintro e W8 ⟨rfl, hB8⟩; refine ⟨_, rfl, ?_⟩))
 go_wp2
 go_ret
 exact ⟨rfl, (drew_B HHB.out HB7.out).trans (hB8.mono (drew_B HHB.out HB7.out).size)⟩
theorem blk_five {w : World} {g : Nat} {t : TypeId} {a b c d e : Value} (h : w.heap[g]? = some (.cells #[a, b, c, d, e] t (0, 0))) (a' b' c' d' e' : Value) :
 (((((w.setCell ⟨g, 0, none⟩ a').setCell ⟨g, 1, none⟩ b').setCell ⟨g, 2, none⟩ c').setCell ⟨g, 3, none⟩ d').setCell ⟨g, 4, none⟩ e').heap[g]? = some (.cells #[a', b', c', d', e'] t (0, 0)) :=
 blk_set (blk_set (blk_set (blk_set (blk_set h 0 a') 1 b') 2 c') 3 d') 4 e'
theorem below_five {w0 w : World} {B g : Nat} (h : Below B w0 w) (hg : B ≤ g) (a' b' c' d' e' : Value) :
 Below B w0 (((((w.setCell ⟨g, 0, none⟩ a').setCell ⟨g, 1, none⟩ b').setCell ⟨g, 2, none⟩ c').setCell ⟨g, 3, none⟩ d').setCell ⟨g, 4, none⟩ e') :=
 ((((h.setCell (p := ⟨g, 0, none⟩) hg _).setCell (p := ⟨g, 1, none⟩) hg _).setCell (p := ⟨g, 2, none⟩) hg _).setCell (p := ⟨g, 3, none⟩) hg _).setCell (p := ⟨g, 4, none⟩) hg _
theorem drew_same {w : World} {a : Addr} {v : Value} (h : w.cell? a = some v) : w.drew.cell? a = some v := h
theorem find_calls (A0 : Option Addr) (c0 : Nat) (l0 : List S61) (a1 : ByteArray) (w : World) (hr0 : Kd.C k61 w A0 l0.length l0) (hc0 : l0.length ≤ c0) :
 Calls Try.prog 43 #[.slice A0 l0.length c0, .string a1] w fun e w' => e = .returned (.tuple #[.agg #[.string (findC l0 a1).f0, .string (findC l0 a1).f1, .int .i64 (findC l0 a1).f2, .int .i64 (findC l0 a1).f3, .int .i64 (findC l0 a1).f4], .bool (l0.any (isName a1))]) ∧ Below w.heap.size w w' :=
 cover_book_find.calls A0 c0 l0 a1 _ _ _ _ _ _ w hr0 hc0 rfl
set_option maxHeartbeats 8000000 in
set_option maxRecDepth 100000 in
theorem means_d3 (cons : List S61) (k : Nat) (IH : MeansAt cons k) (A0 : Option Addr) (c0 : Nat) (A1 : Option Addr) (c1 : Nat) (rows : List (List S25)) (A2 : Option Addr) (c2 : Nat) (p : S25) (t : List S25) (r : Bool) (w : World)
 (h0 : Kd.C k61 w A0 cons.length cons) (hc0 : cons.length ≤ c0) (h1 : Kd.C (Kd.slice 25 k25) w A1 rows.length rows) (hc1 : rows.length ≤ c1) (h2 : Kd.C k25 w A2 (p :: t).length (p :: t)) (hc2 : (p :: t).length ≤ c2) (hrp : 0 < rows.length) (hf : fitB rows (p :: t) = true) (hl : looseB p = true) (g : S25) (gs : List S25) (hcl : cons.length ≤ 1000000) (hcol0 : columnL rows = g :: gs) (hg5 : (g.f0 == 5) = true) (hlk : (cons.filter (ofType (findC cons g.f1).f1)).any (lacks (g :: gs)) = true) (h : meansF cons k (othersL rows) t = some r) :
 Calls Try.prog 24 #[.slice A0 cons.length c0, .slice A1 rows.length c1, .slice A2 (p :: t).length c2] w fun e w' => e = .returned (.bool r) ∧ Below w.heap.size w w' := by
 have HLK := Aside0.mk hlk
 clear hlk
 have hfq := fitB_q hf
 obtain ⟨ad, A4, c4, A5, c5, rfl, hKp, e0, e1, e2, e3, e4, e5⟩ := cons_open h2
 generalize hn1 : rows.length = n1 at hc1 h1 ⊢
 generalize hn2 : (p :: t).length = n2 at hc2 h2 ⊢
 have hn1p : 0 < n1 := by omega
 have hn2p : 0 < n2 := by simp at hn2; omega
 have hz1 : ¬ (n1 : Int) = 0 := by omega
 have hz2 : ¬ (n2 : Int) = 0 := by omega
 have hz3 : (0 : Int) < (n2 : Int) := by omega
 have hz4 : ((n1 : Int) == 0) = false := by simpa using hz1
 have hz5 : ((n2 : Int) == 0) = false := by simpa using hz2
 have hHB := below_3 w (.cells #[.slice A0 cons.length c0] 52) (.cells #[.slice A1 n1 c1] 53) (.cells #[.slice (some ad) n2 c2] 22)
 have hb2 := blk_new ((w.alloc (.cells #[.slice A0 cons.length c0] 52)).alloc (.cells #[.slice A1 n1 c1] 53)) (.cells #[.slice (some ad) n2 c2] 22)
 have hb1 := blk_below (blk_new (w.alloc (.cells #[.slice A0 cons.length c0] 52)) (.cells #[.slice A1 n1 c1] 53)) (below_1 _ (.cells #[.slice (some ad) n2 c2] 22))
 have hb0 := blk_below (blk_new w (.cells #[.slice A0 cons.length c0] 52)) (below_2 _ (.cells #[.slice A1 n1 c1] 53) (.cells #[.slice (some ad) n2 c2] 22))
 simp only [World.size_alloc] at hb0 hb1 hb2
 have H0 := Aside0.mk (Kd.C_below h0 hHB)
 have H1 := Aside0.mk (Kd.C_below h1 hHB)
 have H2 := Aside0.mk (Kd.C_below h2 hHB)
 have HKP := Aside0.mk (k25.K_below hHB hKp)
 have hlo := loose_calls p _ _ (HKP.out)
 rw [hl] at hlo
 replace e0 := pw_cell_below hHB e0
 replace e1 := pw_cell_below hHB e1
 replace e2 := pw_cell_below hHB e2
 replace e3 := pw_cell_below hHB e3
 replace e4 := pw_cell_below hHB e4
 replace e5 := pw_cell_below hHB e5
 have HN1 := Aside0.mk hn1
 have HN2 := Aside0.mk hn2
 have HF := Aside0.mk hf
 have HH := Aside0.mk h
 have HL := Aside0.mk hl
 have HHB := Aside0.mk hHB
 have HFQ := Aside0.mk hfq
 clear hn1 hn2 hf h hl h0 h1 h2 hrp hKp hHB hfq
 generalize p.f4.length = n4 at hlo e4 HKP
 generalize p.f5.length = n5 at hlo e5 HKP
 go_enter Try.func24, Try.ntmps24
 go_wp2_with fail
 generalize (((w.alloc (.cells #[.slice A0 cons.length c0] 52)).alloc (.cells #[.slice A1 n1 c1] 53)).alloc (.cells #[.slice (some ad) n2 c2] 22)) = W3 at hlo e0 e1 e2 e3 e4 e5 hb0 hb1 hb2 H0 H1 H2 HKP HHB ⊢
 have k0 := blk_cell hb0 0
 have k1 := blk_cell hb1 0
 have k2 := blk_cell hb2 0
 clear hb0 hb1 hb2
 refine hlo.mono ?_; rintro e W4 ⟨rfl, hB4⟩
 replace k0 := pw_cell_below hB4 k0
 replace k1 := pw_cell_below hB4 k1
 replace k2 := pw_cell_below hB4 k2
 replace H0 := Aside0.mk (Kd.C_below H0.out hB4)
 replace H1 := Aside0.mk (Kd.C_below H1.out hB4)
 replace H2 := Aside0.mk (Kd.C_below H2.out hB4)
 replace HHB := Aside0.mk (HHB.out.trans (hB4.mono HHB.out.size))
 clear hB4 hlo e0 e1 e2 e3 e4 e5 HKP HL
 have hcol := column_calls A1 c1 rows W4 (by rw [HN1.out]; exact H1.out) (by rw [HN1.out]; exact hc1) (fitB_rows HF.out)
 rw [HN1.out] at hcol
 go_wp2_with fail
 refine hcol.mono ?_; rintro e W5 ⟨v, rfl, hN, hB5⟩
 clear hcol
 obtain ⟨A8, c8, rfl⟩ := Kd.N_slice hN
 have hN' := Kd.N_reads' hN
 replace k0 := pw_cell_below hB5 k0
 replace k1 := pw_cell_below hB5 k1
 replace k2 := pw_cell_below hB5 k2
 replace H0 := Aside0.mk (Kd.C_below H0.out hB5)
 replace H1 := Aside0.mk (Kd.C_below H1.out hB5)
 replace H2 := Aside0.mk (Kd.C_below H2.out hB5)
 replace HHB := Aside0.mk (HHB.out.trans (hB5.mono HHB.out.size))
 clear hN hB5
 rw [hcol0] at hN'
 simp only [hcol0] at hN' ⊢
 obtain ⟨ag, rfl, x0, x1⟩ := heads_open hN'.2.2
 have hg6 : g.f0 = 5 := by simpa using hg5
 rw [hg6] at x0
 have HC8 := Aside0.mk hN'.2.2
 generalize hn8 : (g :: gs).length = n8 at hN' HC8 ⊢
 have hz6 : (0 : Int) < (n8 : Int) := by simp at hn8; omega
 have HN8 := Aside0.mk hn8
 clear hN' hn8
 have hB6 := below_1 W5 (.cells #[.slice (some ag) n8 c8] 22)
 have k9 := new_cell W5 (.slice (some ag) n8 c8) 22
 replace k0 := pw_cell_below hB6 k0
 replace k1 := pw_cell_below hB6 k1
 replace k2 := pw_cell_below hB6 k2
 replace x0 := pw_cell_below hB6 x0
 replace x1 := pw_cell_below hB6 x1
 replace H0 := Aside0.mk (Kd.C_below H0.out hB6)
 replace H1 := Aside0.mk (Kd.C_below H1.out hB6)
 replace H2 := Aside0.mk (Kd.C_below H2.out hB6)
 replace HC8 := Aside0.mk (Kd.C_below HC8.out hB6)
 replace HHB := Aside0.mk (HHB.out.trans (hB6.mono HHB.out.size))
 clear hB6
 go_wp2_with fail
 have k9l := cell_lt k9
 have hz7 : W5.heap.size < (W5.alloc (.cells #[.slice (some ag) n8 c8] 22)).heap.size := by rw [World.size_alloc]; omega
 generalize W5.alloc (.cells #[.slice (some ag) n8 c8] 22) = W6 at k0 k1 k2 k9 H0 H1 H2 HC8 HHB x0 x1 k9l hz7 ⊢
 generalize W5.heap.size = Bg at k9 k9l hz7 ⊢
 clear x0 k9l
 have HK2 := Aside0.mk k2
 have HK1 := Aside0.mk k1
 have hne0 : w.heap.size ≠ W6.heap.size := Nat.ne_of_lt (cell_lt k0)
 have hne1 : Bg ≠ W6.heap.size := Nat.ne_of_lt hz7
 have hne2 : ag.block ≠ W6.heap.size := Nat.ne_of_lt (cell_lt x1)
 have hfA := find_calls A0 c0 cons g.f1 W6.drew (Kd.C_drew H0.out) hc0
 have hfZ := find_calls A0 c0 cons g.f1 (W6.alloc (.cells #[.string ⟨#[]⟩, .string ⟨#[]⟩, .int .i64 0, .int .i64 0, .int .i64 0] 61)).drew (Kd.C_drew (Kd.C_alloc H0.out _)) hc0
 generalize findC cons g.f1 = c at hfA hfZ HLK
 have hfB : Calls Try.prog 43 #[.slice A0 cons.length c0, .string g.f1] (W6.alloc (.cells #[.string ⟨#[]⟩, .string ⟨#[]⟩, .int .i64 0, .int .i64 0, .int .i64 0] 61)).drew fun e w' => e = .returned (.tuple #[.agg #[.string c.f0, .string c.f1, .int .i64 c.f2, .int .i64 c.f3, .int .i64 c.f4], .bool (cons.any (isName g.f1))]) ∧ Below (W6.alloc (.cells #[.string ⟨#[]⟩, .string ⟨#[]⟩, .int .i64 0, .int .i64 0, .int .i64 0] 61)).drew.heap.size (W6.alloc (.cells #[.string ⟨#[]⟩, .string ⟨#[]⟩, .int .i64 0, .int .i64 0, .int .i64 0] 61)).drew w' ∧
  w'.cell? ⟨W6.heap.size, 0, none⟩ = some (.string ⟨#[]⟩) ∧ w'.cell? ⟨W6.heap.size, 1, none⟩ = some (.string ⟨#[]⟩) ∧ w'.cell? ⟨W6.heap.size, 2, none⟩ = some (.int .i64 0) ∧ w'.cell? ⟨W6.heap.size, 3, none⟩ = some (.int .i64 0) ∧ w'.cell? ⟨W6.heap.size, 4, none⟩ = some (.int .i64 0) ∧ (∀ j, w'.frozen? ⟨W6.heap.size, j, none⟩ = false) ∧
  w'.heap[W6.heap.size]? = some (.cells #[.string ⟨#[]⟩, .string ⟨#[]⟩, .int .i64 0, .int .i64 0, .int .i64 0] 61 (0, 0)) := hfZ.mono fun e w' ⟨he, hB⟩ =>
  let hbk : w'.heap[W6.heap.size]? = some (.cells #[.string ⟨#[]⟩, .string ⟨#[]⟩, .int .i64 0, .int .i64 0, .int .i64 0] 61 (0, 0)) := blk_below (blk_drew (blk_new W6 _)) hB
  ⟨he, hB, blk_cell hbk 0, blk_cell hbk 1, blk_cell hbk 2, blk_cell hbk 3, blk_cell hbk 4, blk_frozen hbk, hbk⟩
 generalize cons.any (isName g.f1) = isb at hfA hfB
 clear hfZ k1 k2
 replace k0 : W6.cell? ⟨w.heap.size, 0, none⟩ = some (.slice A0 cons.length c0) := k0
 have k0d := drew_same k0
 have k9d := drew_same k9
 have x1d := drew_same x1
 go_region_held3 (fun w' => w'.cell? ⟨w.heap.size, 0, none⟩ = some (.slice A0 cons.length c0) ∧ w'.cell? ⟨Bg, 0, none⟩ = some (.slice (some ag) n8 c8) ∧ w'.cell? ⟨ag.block, ag.off + 1, none⟩ = some (.string g.f1))
  (first | with_reducible exact ⟨k0, k9, x1⟩ | (refine ⟨?_, ?_, ?_⟩ <;> (repeat (first | rw [cell_far (by show w.heap.size ≠ W6.heap.size; exact hne0)] | rw [cell_far (by show Bg ≠ W6.heap.size; exact hne1)] | rw [cell_far (by show ag.block ≠ W6.heap.size; exact hne2)])) <;> (with_reducible first | exact k0 | exact k9 | exact x1 | exact k0d | exact k9d | exact x1d | exact pw_cell_below (below_1 _ _) k0 | exact pw_cell_below (below_1 _ _) k9 | exact pw_cell_below (below_1 _ _) x1 | exact pw_cell_below (below_1 _ _) k0d | exact pw_cell_below (below_1 _ _) k9d | exact pw_cell_below (below_1 _ _) x1d | exact drew_same (pw_cell_below (below_1 _ _) k0) | exact drew_same (pw_cell_below (below_1 _ _) k9) | exact drew_same (pw_cell_below (below_1 _ _) x1) | exact drew_cell hB7 k0 | exact drew_cell hB7 k9 | exact drew_cell hB7 x1 | exact drew_cell hB7 (pw_cell_below (below_1 _ _) k0) | exact drew_cell hB7 (pw_cell_below (below_1 _ _) k9) | exact drew_cell hB7 (pw_cell_below (below_1 _ _) x1) | exact pw_cell_below (below_1 _ _) (drew_cell hB7 k0) | exact pw_cell_below (below_1 _ _) (drew_cell hB7 k9) | exact pw_cell_below (below_1 _ _) (drew_cell hB7 x1))))
  (first
   | (refine goes_ Try.func43 (by kernel_rfl) rfl #[.slice A0 cons.length c0, .string g.f1] (by rfl) rfl rfl (by simp [Act.eval, Act.put]) ?_; (with_reducible refine hfB.mono ?_); rintro e W7 ⟨rfl, hB7, b0, b1, b2, b3, b4, bf, hbk⟩; refine ⟨_, rfl, ?_⟩)
   | (refine goes_ Try.func43 (by kernel_rfl) rfl #[.slice A0 cons.length c0, .string g.f1] (by rfl) rfl rfl (by simp [Act.eval, Act.put]) ?_; (with_reducible refine hfA.mono ?_); rintro e W7 ⟨rfl, hB7⟩; refine ⟨_, rfl, ?_⟩))
 ·
  have hB8 : Below W6.heap.size W6 W7 := below_of_drew hB7
  replace hB8 := hB8.alloc hB8.size (.cells #[.string c.f0, .string c.f1, .int .i64 c.f2, .int .i64 c.f3, .int .i64 c.f4] 61)
  have hblk := blk_new W7 (.cells #[.string c.f0, .string c.f1, .int .i64 c.f2, .int .i64 c.f3, .int .i64 c.f4] 61)
  generalize W7.alloc (.cells #[.string c.f0, .string c.f1, .int .i64 c.f2, .int .i64 c.f3, .int .i64 c.f4] 61) = W8 at hB8 hblk ⊢
  generalize W7.heap.size = Bc at hblk ⊢
  clear hB7
  replace k0 := pw_cell_below hB8 k0
  replace k9 := pw_cell_below hB8 k9
  have k1 := pw_cell_below hB8 HK1.out
  have k2 := pw_cell_below hB8 HK2.out
  replace H0 := Aside0.mk (Kd.C_below H0.out hB8)
  replace H1 := Aside0.mk (Kd.C_below H1.out hB8)
  replace H2 := Aside0.mk (Kd.C_below H2.out hB8)
  replace HC8 := Aside0.mk (Kd.C_below HC8.out hB8)
  replace HHB := Aside0.mk (HHB.out.trans (hB8.mono HHB.out.size))
  have y1 := blk_cell hblk 1
  clear hfA hfB hB8 hblk k0d k9d x1d x1 HK1 HK2 hne0 hne1 hne2 hz7
  have hof := cover_book_of_calls A0 c0 cons c.f1 W8 H0.out (by omega)
  go_wp2_with fail
  refine hof.mono ?_; rintro e W9 ⟨v, rfl, hN9, hB9⟩
  clear hof y1
  obtain ⟨A9, c9, rfl⟩ := Kd.N_slice hN9
  have HC9 := Aside0.mk (Kd.N_reads' hN9).2.2
  have HBY := Aside0.mk hB9
  clear hN9
  replace k0 := pw_cell_below hB9 k0
  replace k1 := pw_cell_below hB9 k1
  replace k2 := pw_cell_below hB9 k2
  replace k9 := pw_cell_below hB9 k9
  replace H0 := Aside0.mk (Kd.C_below H0.out hB9)
  replace H1 := Aside0.mk (Kd.C_below H1.out hB9)
  replace H2 := Aside0.mk (Kd.C_below H2.out hB9)
  replace HC8 := Aside0.mk (Kd.C_below HC8.out hB9)
  replace HHB := Aside0.mk (HHB.out.trans (hB9.mono HHB.out.size))
  clear hB9 HBY
  generalize hall : cons.filter (ofType c.f1) = all at HC9 HLK ⊢
  have HK9 := Aside0.mk k9
  have hct := ContainsFunc54_calls 55 #[.pointer (some ⟨Bg, 0, none⟩)] (lacks (g :: gs)) (enters_of Try.func55 (by kernel_rfl) rfl) A9 c9 all W9 HC9.out
   (fun W' x ds hW _ hKx => means1_calls (g :: gs) (some ag) c8 Bg W' x ds hKx (by rw [HN8.out]; exact pw_cell_below hW HK9.out) (by rw [HN8.out]; exact Kd.C_below HC8.out hW))
  have hmf : ∀ (fn : Fn) (first cap : Array Value) (w : World), (Instr.makeFunc fn first cap).run Try.prog w = .ok (.func fn first cap) w := fun _ _ _ _ => rfl
  rw [HLK.out] at hct
  generalize hn9 : all.length = n9 at hct HC9 ⊢
  go_wp2_with fail
  refine hct.mono ?_; rintro e W6 ⟨rfl, hBx⟩
  clear hct
  replace k0 := pw_cell_below hBx k0
  replace k1 := pw_cell_below hBx k1
  replace k2 := pw_cell_below hBx k2
  replace H0 := Aside0.mk (Kd.C_below H0.out hBx)
  replace H1 := Aside0.mk (Kd.C_below H1.out hBx)
  replace H2 := Aside0.mk (Kd.C_below H2.out hBx)
  replace HC9 := Aside0.mk (Kd.C_below HC9.out hBx)
  replace HHB := Aside0.mk (HHB.out.trans (hBx.mono HHB.out.size))
  clear hBx
  go_wp2_with fail
  clear hmf k9
  have hoth := others_calls A1 c1 rows W6.drew (by rw [HN1.out]; exact Kd.C_drew H1.out) (by rw [HN1.out]; exact hc1) (fitB_rows HF.out)
  rw [HN1.out] at hoth
  obtain ⟨i0, hi0, _, hsz0, _⟩ := info_parts info25
  have hcut := cut_from (P := Try.prog) 22 25 .i64 Try.underlying22 hi0 6 hsz0 (some ad) n2 c2 1 (by decide) (by omega)
  have hF2 := Kd.C_drop (m := 1) (c := c2) (k := k25) (xs := p :: t) (by rw [HN2.out]; exact H2.out) (by simp) (by rw [HN2.out]; exact hc2)
  simp only [show (1 : Int).toNat = 1 from rfl] at hcut
  simp only [show k25.sz = 6 from rfl, List.drop_succ_cons, List.drop_zero] at hF2
  have hn3 : n2 - 1 = t.length := by rw [← HN2.out]; simp
  have hc3 : t.length ≤ c2 - 1 := by omega
  rw [hn3] at hcut
  generalize (if c2 = 1 then some ad else (some ad).map fun x => x.add (1 * 6)) = AC at hcut hF2
  have HF2 := Aside0.mk hF2
  clear hF2 hi0 hsz0 hn3
  go_region_held3 (fun w' => w'.cell? ⟨w.heap.size, 0, none⟩ = some (.slice A0 cons.length c0) ∧ w'.cell? ⟨w.heap.size + 1, 0, none⟩ = some (.slice A1 n1 c1) ∧ w'.cell? ⟨w.heap.size + 1 + 1, 0, none⟩ = some (.slice (some ad) n2 c2))
   (first | exact ⟨k0, k1, k2⟩ | exact ⟨drew_cell hB7 k0, drew_cell hB7 k1, drew_cell hB7 k2⟩ | exact ⟨pw_cell_below hB8 (drew_cell hB7 k0), pw_cell_below hB8 (drew_cell hB7 k1), pw_cell_below hB8 (drew_cell hB7 k2)⟩)
   (first
    | (refine goes_ Try.func58 (by kernel_rfl) rfl #[.slice A1 n1 c1] (by rfl) rfl rfl (by simp [Act.eval, Act.put]) ?_; (with_reducible refine hoth.mono ?_); rintro e W7 ⟨v7, rfl, hN7, hB7⟩; obtain ⟨A7, c7, rfl⟩ := Kd.N_slice hN7; have hN7' := Kd.N_reads' hN7; have hIH := IH A0 c0 A7 c7 _ AC (c2 - 1) t r W7 (drew_C hB7 H0.out) hc0 hN7'.2.2 hN7'.2.1 (drew_C hB7 HF2.out) hc3 HH.out; have HB7 := Aside0.mk hB7; refine ⟨_, rfl, ?_⟩)
    | (refine goes_ Try.func24 (by kernel_rfl) rfl #[.slice A0 cons.length c0, .slice A7 (othersL rows).length c7, .slice AC t.length (c2 - 1)] (by rfl) rfl rfl (by simp [Act.eval, Act.put]) ?_; (with_reducible refine hIH.mono ?_); rintro e W8 ⟨rfl, hB8⟩; refine ⟨_, rfl, ?_⟩))
  go_wp2
  go_ret
  exact ⟨rfl, (drew_B HHB.out HB7.out).trans (hB8.mono (drew_B HHB.out HB7.out).size)⟩
 ·
  have hB8 : Below W6.heap.size W6 W7 := (below_1 W6 _).trans ((below_of_drew hB7).mono (by rw [World.size_alloc]; omega))
  replace hB8 := below_five hB8 (Nat.le_refl _) (.string c.f0) (.string c.f1) (.int .i64 c.f2) (.int .i64 c.f3) (.int .i64 c.f4)
  have hblk := blk_five hbk (.string c.f0) (.string c.f1) (.int .i64 c.f2) (.int .i64 c.f3) (.int .i64 c.f4)
  generalize (((((W7.setCell ⟨W6.heap.size, 0, none⟩ (.string c.f0)).setCell ⟨W6.heap.size, 1, none⟩ (.string c.f1)).setCell ⟨W6.heap.size, 2, none⟩ (.int .i64 c.f2)).setCell ⟨W6.heap.size, 3, none⟩ (.int .i64 c.f3)).setCell ⟨W6.heap.size, 4, none⟩ (.int .i64 c.f4)) = W8 at hB8 hblk ⊢
  clear hB7 hbk b0 b1 b2 b3 b4 bf
  generalize W6.heap.size = Bc at hblk ⊢
  replace k0 := pw_cell_below hB8 k0
  replace k9 := pw_cell_below hB8 k9
  have k1 := pw_cell_below hB8 HK1.out
  have k2 := pw_cell_below hB8 HK2.out
  replace H0 := Aside0.mk (Kd.C_below H0.out hB8)
  replace H1 := Aside0.mk (Kd.C_below H1.out hB8)
  replace H2 := Aside0.mk (Kd.C_below H2.out hB8)
  replace HC8 := Aside0.mk (Kd.C_below HC8.out hB8)
  replace HHB := Aside0.mk (HHB.out.trans (hB8.mono HHB.out.size))
  have y1 := blk_cell hblk 1
  clear hfA hfB hB8 hblk k0d k9d x1d x1 HK1 HK2 hne0 hne1 hne2 hz7
  have hof := cover_book_of_calls A0 c0 cons c.f1 W8 H0.out (by omega)
  go_wp2_with fail
  refine hof.mono ?_; rintro e W9 ⟨v, rfl, hN9, hB9⟩
  clear hof y1
  obtain ⟨A9, c9, rfl⟩ := Kd.N_slice hN9
  have HC9 := Aside0.mk (Kd.N_reads' hN9).2.2
  have HBY := Aside0.mk hB9
  clear hN9
  replace k0 := pw_cell_below hB9 k0
  replace k1 := pw_cell_below hB9 k1
  replace k2 := pw_cell_below hB9 k2
  replace k9 := pw_cell_below hB9 k9
  replace H0 := Aside0.mk (Kd.C_below H0.out hB9)
  replace H1 := Aside0.mk (Kd.C_below H1.out hB9)
  replace H2 := Aside0.mk (Kd.C_below H2.out hB9)
  replace HC8 := Aside0.mk (Kd.C_below HC8.out hB9)
  replace HHB := Aside0.mk (HHB.out.trans (hB9.mono HHB.out.size))
  clear hB9 HBY
  generalize hall : cons.filter (ofType c.f1) = all at HC9 HLK ⊢
  have HK9 := Aside0.mk k9
  have hct := ContainsFunc54_calls 55 #[.pointer (some ⟨Bg, 0, none⟩)] (lacks (g :: gs)) (enters_of Try.func55 (by kernel_rfl) rfl) A9 c9 all W9 HC9.out
   (fun W' x ds hW _ hKx => means1_calls (g :: gs) (some ag) c8 Bg W' x ds hKx (by rw [HN8.out]; exact pw_cell_below hW HK9.out) (by rw [HN8.out]; exact Kd.C_below HC8.out hW))
  have hmf : ∀ (fn : Fn) (first cap : Array Value) (w : World), (Instr.makeFunc fn first cap).run Try.prog w = .ok (.func fn first cap) w := fun _ _ _ _ => rfl
  rw [HLK.out] at hct
  generalize hn9 : all.length = n9 at hct HC9 ⊢
  go_wp2_with fail
  refine hct.mono ?_; rintro e W6 ⟨rfl, hBx⟩
  clear hct
  replace k0 := pw_cell_below hBx k0
  replace k1 := pw_cell_below hBx k1
  replace k2 := pw_cell_below hBx k2
  replace H0 := Aside0.mk (Kd.C_below H0.out hBx)
  replace H1 := Aside0.mk (Kd.C_below H1.out hBx)
  replace H2 := Aside0.mk (Kd.C_below H2.out hBx)
  replace HC9 := Aside0.mk (Kd.C_below HC9.out hBx)
  replace HHB := Aside0.mk (HHB.out.trans (hBx.mono HHB.out.size))
  clear hBx
  go_wp2_with fail
  clear hmf k9
  have hoth := others_calls A1 c1 rows W6.drew (by rw [HN1.out]; exact Kd.C_drew H1.out) (by rw [HN1.out]; exact hc1) (fitB_rows HF.out)
  rw [HN1.out] at hoth
  obtain ⟨i0, hi0, _, hsz0, _⟩ := info_parts info25
  have hcut := cut_from (P := Try.prog) 22 25 .i64 Try.underlying22 hi0 6 hsz0 (some ad) n2 c2 1 (by decide) (by omega)
  have hF2 := Kd.C_drop (m := 1) (c := c2) (k := k25) (xs := p :: t) (by rw [HN2.out]; exact H2.out) (by simp) (by rw [HN2.out]; exact hc2)
  simp only [show (1 : Int).toNat = 1 from rfl] at hcut
  simp only [show k25.sz = 6 from rfl, List.drop_succ_cons, List.drop_zero] at hF2
  have hn3 : n2 - 1 = t.length := by rw [← HN2.out]; simp
  have hc3 : t.length ≤ c2 - 1 := by omega
  rw [hn3] at hcut
  generalize (if c2 = 1 then some ad else (some ad).map fun x => x.add (1 * 6)) = AC at hcut hF2
  have HF2 := Aside0.mk hF2
  clear hF2 hi0 hsz0 hn3
  go_region_held3 (fun w' => w'.cell? ⟨w.heap.size, 0, none⟩ = some (.slice A0 cons.length c0) ∧ w'.cell? ⟨w.heap.size + 1, 0, none⟩ = some (.slice A1 n1 c1) ∧ w'.cell? ⟨w.heap.size + 1 + 1, 0, none⟩ = some (.slice (some ad) n2 c2))
   (first | exact ⟨k0, k1, k2⟩ | exact ⟨drew_cell hB7 k0, drew_cell hB7 k1, drew_cell hB7 k2⟩ | exact ⟨pw_cell_below hB8 (drew_cell hB7 k0), pw_cell_below hB8 (drew_cell hB7 k1), pw_cell_below hB8 (drew_cell hB7 k2)⟩)
   (first
    | (refine goes_ Try.func58 (by kernel_rfl) rfl #[.slice A1 n1 c1] (by rfl) rfl rfl (by simp [Act.eval, Act.put]) ?_; (with_reducible refine hoth.mono ?_); rintro e W7 ⟨v7, rfl, hN7, hB7⟩; obtain ⟨A7, c7, rfl⟩ := Kd.N_slice hN7; have hN7' := Kd.N_reads' hN7; have hIH := IH A0 c0 A7 c7 _ AC (c2 - 1) t r W7 (drew_C hB7 H0.out) hc0 hN7'.2.2 hN7'.2.1 (drew_C hB7 HF2.out) hc3 HH.out; have HB7 := Aside0.mk hB7; refine ⟨_, rfl, ?_⟩)
    | (refine goes_ Try.func24 (by kernel_rfl) rfl #[.slice A0 cons.length c0, .slice A7 (othersL rows).length c7, .slice AC t.length (c2 - 1)] (by rfl) rfl rfl (by simp [Act.eval, Act.put]) ?_; (with_reducible refine hIH.mono ?_); rintro e W8 ⟨rfl, hB8⟩; refine ⟨_, rfl, ?_⟩))
  go_wp2
  go_ret
  exact ⟨rfl, (drew_B HHB.out HB7.out).trans (hB8.mono (drew_B HHB.out HB7.out).size)⟩
def anyM (cons : List S61) (k : Nat) (rows : List (List S25)) (p : S25) (t : List S25) (c : S61) : Bool := (meansF cons k (underL rows (headOf c)) ((belowO (p :: t) (headOf c)).getD [])).getD false
set_option maxHeartbeats 8000000 in
set_option maxRecDepth 100000 in
theorem means_e (cons : List S61) (k : Nat) (IH : MeansAt cons k) (A0 : Option Addr) (c0 : Nat) (A1 : Option Addr) (c1 : Nat) (rows : List (List S25)) (A2 : Option Addr) (c2 : Nat) (p : S25) (t : List S25) (r : Bool) (w : World)
 (h0 : Kd.C k61 w A0 cons.length cons) (hc0 : cons.length ≤ c0) (h1 : Kd.C (Kd.slice 25 k25) w A1 rows.length rows) (hc1 : rows.length ≤ c1) (h2 : Kd.C k25 w A2 (p :: t).length (p :: t)) (hc2 : (p :: t).length ≤ c2) (hrp : 0 < rows.length) (hf : fitB rows (p :: t) = true) (hl : looseB p = true) (g : S25) (gs : List S25) (hcl : cons.length ≤ 1000000) (hcol0 : columnL rows = g :: gs) (hg5 : (g.f0 == 5) = true) (hlk : (cons.filter (ofType (findC cons g.f1).f1)).any (lacks (g :: gs)) = false)
 (hq : (cons.filter (ofType (findC cons g.f1).f1)).all (fun c => decide (0 ≤ c.f3) && decide (c.f3 ≤ 2) && (meansF cons k (underL rows (headOf c)) ((belowO (p :: t) (headOf c)).getD [])).isSome) = true) (h : (cons.filter (ofType (findC cons g.f1).f1)).any (anyM cons k rows p t) = r) :
 Calls Try.prog 24 #[.slice A0 cons.length c0, .slice A1 rows.length c1, .slice A2 (p :: t).length c2] w fun e w' => e = .returned (.bool r) ∧ Below w.heap.size w w' := by
 have HLK := Aside0.mk hlk
 have HQ := Aside0.mk hq
 have HR := Aside0.mk h.symm
 clear hlk hq
 have hfq := fitB_q hf
 obtain ⟨ad, A4, c4, A5, c5, rfl, hKp, e0, e1, e2, e3, e4, e5⟩ := cons_open h2
 generalize hn1 : rows.length = n1 at hc1 h1 ⊢
 generalize hn2 : (p :: t).length = n2 at hc2 h2 ⊢
 have hn1p : 0 < n1 := by omega
 have hn2p : 0 < n2 := by simp at hn2; omega
 have hz1 : ¬ (n1 : Int) = 0 := by omega
 have hz2 : ¬ (n2 : Int) = 0 := by omega
 have hz3 : (0 : Int) < (n2 : Int) := by omega
 have hz4 : ((n1 : Int) == 0) = false := by simpa using hz1
 have hz5 : ((n2 : Int) == 0) = false := by simpa using hz2
 have hHB := below_3 w (.cells #[.slice A0 cons.length c0] 52) (.cells #[.slice A1 n1 c1] 53) (.cells #[.slice (some ad) n2 c2] 22)
 have hb2 := blk_new ((w.alloc (.cells #[.slice A0 cons.length c0] 52)).alloc (.cells #[.slice A1 n1 c1] 53)) (.cells #[.slice (some ad) n2 c2] 22)
 have hb1 := blk_below (blk_new (w.alloc (.cells #[.slice A0 cons.length c0] 52)) (.cells #[.slice A1 n1 c1] 53)) (below_1 _ (.cells #[.slice (some ad) n2 c2] 22))
 have hb0 := blk_below (blk_new w (.cells #[.slice A0 cons.length c0] 52)) (below_2 _ (.cells #[.slice A1 n1 c1] 53) (.cells #[.slice (some ad) n2 c2] 22))
 simp only [World.size_alloc] at hb0 hb1 hb2
 have H0 := Aside0.mk (Kd.C_below h0 hHB)
 have H1 := Aside0.mk (Kd.C_below h1 hHB)
 have H2 := Aside0.mk (Kd.C_below h2 hHB)
 have HKP := Aside0.mk (k25.K_below hHB hKp)
 have hlo := loose_calls p _ _ (HKP.out)
 rw [hl] at hlo
 replace e0 := pw_cell_below hHB e0
 replace e1 := pw_cell_below hHB e1
 replace e2 := pw_cell_below hHB e2
 replace e3 := pw_cell_below hHB e3
 replace e4 := pw_cell_below hHB e4
 replace e5 := pw_cell_below hHB e5
 have HN1 := Aside0.mk hn1
 have HN2 := Aside0.mk hn2
 have HF := Aside0.mk hf
 have HL := Aside0.mk hl
 have HHB := Aside0.mk hHB
 have HFQ := Aside0.mk hfq
 clear hn1 hn2 hf h hl h0 h1 h2 hrp hKp hHB hfq
 generalize p.f4.length = n4 at hlo e4 HKP
 generalize p.f5.length = n5 at hlo e5 HKP
 go_enter Try.func24, Try.ntmps24
 go_wp2_with fail
 generalize (((w.alloc (.cells #[.slice A0 cons.length c0] 52)).alloc (.cells #[.slice A1 n1 c1] 53)).alloc (.cells #[.slice (some ad) n2 c2] 22)) = W3 at hlo e0 e1 e2 e3 e4 e5 hb0 hb1 hb2 H0 H1 H2 HKP HHB ⊢
 have k0 := blk_cell hb0 0
 have k1 := blk_cell hb1 0
 have k2 := blk_cell hb2 0
 clear hb0 hb1 hb2
 refine hlo.mono ?_; rintro e W4 ⟨rfl, hB4⟩
 replace k0 := pw_cell_below hB4 k0
 replace k1 := pw_cell_below hB4 k1
 replace k2 := pw_cell_below hB4 k2
 replace H0 := Aside0.mk (Kd.C_below H0.out hB4)
 replace H1 := Aside0.mk (Kd.C_below H1.out hB4)
 replace H2 := Aside0.mk (Kd.C_below H2.out hB4)
 replace HHB := Aside0.mk (HHB.out.trans (hB4.mono HHB.out.size))
 clear hB4 hlo e0 e1 e2 e3 e4 e5 HKP HL
 have hcol := column_calls A1 c1 rows W4 (by rw [HN1.out]; exact H1.out) (by rw [HN1.out]; exact hc1) (fitB_rows HF.out)
 rw [HN1.out] at hcol
 go_wp2_with fail
 refine hcol.mono ?_; rintro e W5 ⟨v, rfl, hN, hB5⟩
 clear hcol
 obtain ⟨A8, c8, rfl⟩ := Kd.N_slice hN
 have hN' := Kd.N_reads' hN
 replace k0 := pw_cell_below hB5 k0
 replace k1 := pw_cell_below hB5 k1
 replace k2 := pw_cell_below hB5 k2
 replace H0 := Aside0.mk (Kd.C_below H0.out hB5)
 replace H1 := Aside0.mk (Kd.C_below H1.out hB5)
 replace H2 := Aside0.mk (Kd.C_below H2.out hB5)
 replace HHB := Aside0.mk (HHB.out.trans (hB5.mono HHB.out.size))
 clear hN hB5
 rw [hcol0] at hN'
 simp only [hcol0] at hN' ⊢
 obtain ⟨ag, rfl, x0, x1⟩ := heads_open hN'.2.2
 have hg6 : g.f0 = 5 := by simpa using hg5
 rw [hg6] at x0
 have HC8 := Aside0.mk hN'.2.2
 generalize hn8 : (g :: gs).length = n8 at hN' HC8 ⊢
 have hz6 : (0 : Int) < (n8 : Int) := by simp at hn8; omega
 have HN8 := Aside0.mk hn8
 clear hN' hn8
 have hB6 := below_1 W5 (.cells #[.slice (some ag) n8 c8] 22)
 have k9 := new_cell W5 (.slice (some ag) n8 c8) 22
 replace k0 := pw_cell_below hB6 k0
 replace k1 := pw_cell_below hB6 k1
 replace k2 := pw_cell_below hB6 k2
 replace x0 := pw_cell_below hB6 x0
 replace x1 := pw_cell_below hB6 x1
 replace H0 := Aside0.mk (Kd.C_below H0.out hB6)
 replace H1 := Aside0.mk (Kd.C_below H1.out hB6)
 replace H2 := Aside0.mk (Kd.C_below H2.out hB6)
 replace HC8 := Aside0.mk (Kd.C_below HC8.out hB6)
 replace HHB := Aside0.mk (HHB.out.trans (hB6.mono HHB.out.size))
 clear hB6
 go_wp2_with fail
 have k9l := cell_lt k9
 have hz7 : W5.heap.size < (W5.alloc (.cells #[.slice (some ag) n8 c8] 22)).heap.size := by rw [World.size_alloc]; omega
 generalize W5.alloc (.cells #[.slice (some ag) n8 c8] 22) = W6 at k0 k1 k2 k9 H0 H1 H2 HC8 HHB x0 x1 k9l hz7 ⊢
 generalize W5.heap.size = Bg at k9 k9l hz7 ⊢
 clear x0 k9l
 have HK2 := Aside0.mk k2
 have HK1 := Aside0.mk k1
 have hne0 : w.heap.size ≠ W6.heap.size := Nat.ne_of_lt (cell_lt k0)
 have hne1 : Bg ≠ W6.heap.size := Nat.ne_of_lt hz7
 have hne2 : ag.block ≠ W6.heap.size := Nat.ne_of_lt (cell_lt x1)
 have hfA := find_calls A0 c0 cons g.f1 W6.drew (Kd.C_drew H0.out) hc0
 have hfZ := find_calls A0 c0 cons g.f1 (W6.alloc (.cells #[.string ⟨#[]⟩, .string ⟨#[]⟩, .int .i64 0, .int .i64 0, .int .i64 0] 61)).drew (Kd.C_drew (Kd.C_alloc H0.out _)) hc0
 generalize findC cons g.f1 = c at hfA hfZ HLK HQ HR
 have hfB : Calls Try.prog 43 #[.slice A0 cons.length c0, .string g.f1] (W6.alloc (.cells #[.string ⟨#[]⟩, .string ⟨#[]⟩, .int .i64 0, .int .i64 0, .int .i64 0] 61)).drew fun e w' => e = .returned (.tuple #[.agg #[.string c.f0, .string c.f1, .int .i64 c.f2, .int .i64 c.f3, .int .i64 c.f4], .bool (cons.any (isName g.f1))]) ∧ Below (W6.alloc (.cells #[.string ⟨#[]⟩, .string ⟨#[]⟩, .int .i64 0, .int .i64 0, .int .i64 0] 61)).drew.heap.size (W6.alloc (.cells #[.string ⟨#[]⟩, .string ⟨#[]⟩, .int .i64 0, .int .i64 0, .int .i64 0] 61)).drew w' ∧
  w'.cell? ⟨W6.heap.size, 0, none⟩ = some (.string ⟨#[]⟩) ∧ w'.cell? ⟨W6.heap.size, 1, none⟩ = some (.string ⟨#[]⟩) ∧ w'.cell? ⟨W6.heap.size, 2, none⟩ = some (.int .i64 0) ∧ w'.cell? ⟨W6.heap.size, 3, none⟩ = some (.int .i64 0) ∧ w'.cell? ⟨W6.heap.size, 4, none⟩ = some (.int .i64 0) ∧ (∀ j, w'.frozen? ⟨W6.heap.size, j, none⟩ = false) ∧
  w'.heap[W6.heap.size]? = some (.cells #[.string ⟨#[]⟩, .string ⟨#[]⟩, .int .i64 0, .int .i64 0, .int .i64 0] 61 (0, 0)) := hfZ.mono fun e w' ⟨he, hB⟩ =>
  let hbk : w'.heap[W6.heap.size]? = some (.cells #[.string ⟨#[]⟩, .string ⟨#[]⟩, .int .i64 0, .int .i64 0, .int .i64 0] 61 (0, 0)) := blk_below (blk_drew (blk_new W6 _)) hB
  ⟨he, hB, blk_cell hbk 0, blk_cell hbk 1, blk_cell hbk 2, blk_cell hbk 3, blk_cell hbk 4, blk_frozen hbk, hbk⟩
 generalize cons.any (isName g.f1) = isb at hfA hfB
 clear hfZ k1 k2
 replace k0 : W6.cell? ⟨w.heap.size, 0, none⟩ = some (.slice A0 cons.length c0) := k0
 have k0d := drew_same k0
 have k9d := drew_same k9
 have x1d := drew_same x1
 go_region_held3 (fun w' => w'.cell? ⟨w.heap.size, 0, none⟩ = some (.slice A0 cons.length c0) ∧ w'.cell? ⟨Bg, 0, none⟩ = some (.slice (some ag) n8 c8) ∧ w'.cell? ⟨ag.block, ag.off + 1, none⟩ = some (.string g.f1))
  (first | with_reducible exact ⟨k0, k9, x1⟩ | (refine ⟨?_, ?_, ?_⟩ <;> (repeat (first | rw [cell_far (by show w.heap.size ≠ W6.heap.size; exact hne0)] | rw [cell_far (by show Bg ≠ W6.heap.size; exact hne1)] | rw [cell_far (by show ag.block ≠ W6.heap.size; exact hne2)])) <;> (with_reducible first | exact k0 | exact k9 | exact x1 | exact k0d | exact k9d | exact x1d | exact pw_cell_below (below_1 _ _) k0 | exact pw_cell_below (below_1 _ _) k9 | exact pw_cell_below (below_1 _ _) x1 | exact pw_cell_below (below_1 _ _) k0d | exact pw_cell_below (below_1 _ _) k9d | exact pw_cell_below (below_1 _ _) x1d | exact drew_same (pw_cell_below (below_1 _ _) k0) | exact drew_same (pw_cell_below (below_1 _ _) k9) | exact drew_same (pw_cell_below (below_1 _ _) x1) | exact drew_cell hB7 k0 | exact drew_cell hB7 k9 | exact drew_cell hB7 x1 | exact drew_cell hB7 (pw_cell_below (below_1 _ _) k0) | exact drew_cell hB7 (pw_cell_below (below_1 _ _) k9) | exact drew_cell hB7 (pw_cell_below (below_1 _ _) x1) | exact pw_cell_below (below_1 _ _) (drew_cell hB7 k0) | exact pw_cell_below (below_1 _ _) (drew_cell hB7 k9) | exact pw_cell_below (below_1 _ _) (drew_cell hB7 x1))))
  (first
   | (refine goes_ Try.func43 (by kernel_rfl) rfl #[.slice A0 cons.length c0, .string g.f1] (by rfl) rfl rfl (by simp [Act.eval, Act.put]) ?_; (with_reducible refine hfB.mono ?_); rintro e W7 ⟨rfl, hB7, b0, b1, b2, b3, b4, bf, hbk⟩; refine ⟨_, rfl, ?_⟩)
   | (refine goes_ Try.func43 (by kernel_rfl) rfl #[.slice A0 cons.length c0, .string g.f1] (by rfl) rfl rfl (by simp [Act.eval, Act.put]) ?_; (with_reducible refine hfA.mono ?_); rintro e W7 ⟨rfl, hB7⟩; refine ⟨_, rfl, ?_⟩))
 ·
  have hB8 : Below W6.heap.size W6 W7 := below_of_drew hB7
  replace hB8 := hB8.alloc hB8.size (.cells #[.string c.f0, .string c.f1, .int .i64 c.f2, .int .i64 c.f3, .int .i64 c.f4] 61)
  have hblk := blk_new W7 (.cells #[.string c.f0, .string c.f1, .int .i64 c.f2, .int .i64 c.f3, .int .i64 c.f4] 61)
  generalize W7.alloc (.cells #[.string c.f0, .string c.f1, .int .i64 c.f2, .int .i64 c.f3, .int .i64 c.f4] 61) = W8 at hB8 hblk ⊢
  generalize W7.heap.size = Bc at hblk ⊢
  clear hB7
  replace k0 := pw_cell_below hB8 k0
  replace k9 := pw_cell_below hB8 k9
  have k1 := pw_cell_below hB8 HK1.out
  have k2 := pw_cell_below hB8 HK2.out
  replace H0 := Aside0.mk (Kd.C_below H0.out hB8)
  replace H1 := Aside0.mk (Kd.C_below H1.out hB8)
  replace H2 := Aside0.mk (Kd.C_below H2.out hB8)
  replace HC8 := Aside0.mk (Kd.C_below HC8.out hB8)
  replace HHB := Aside0.mk (HHB.out.trans (hB8.mono HHB.out.size))
  have y1 := blk_cell hblk 1
  clear hfA hfB hB8 hblk k0d k9d x1d x1 HK1 HK2 hne0 hne1 hne2 hz7
  have hof := cover_book_of_calls A0 c0 cons c.f1 W8 H0.out (by omega)
  go_wp2_with fail
  refine hof.mono ?_; rintro e W9 ⟨v, rfl, hN9, hB9⟩
  clear hof y1
  obtain ⟨A9, c9, rfl⟩ := Kd.N_slice hN9
  have HC9 := Aside0.mk (Kd.N_reads' hN9).2.2
  have HBY := Aside0.mk hB9
  clear hN9
  replace k0 := pw_cell_below hB9 k0
  replace k1 := pw_cell_below hB9 k1
  replace k2 := pw_cell_below hB9 k2
  replace k9 := pw_cell_below hB9 k9
  replace H0 := Aside0.mk (Kd.C_below H0.out hB9)
  replace H1 := Aside0.mk (Kd.C_below H1.out hB9)
  replace H2 := Aside0.mk (Kd.C_below H2.out hB9)
  replace HC8 := Aside0.mk (Kd.C_below HC8.out hB9)
  replace HHB := Aside0.mk (HHB.out.trans (hB9.mono HHB.out.size))
  clear hB9 HBY
  generalize hall : cons.filter (ofType c.f1) = all at HC9 HLK ⊢
  have HK9 := Aside0.mk k9
  have hct := ContainsFunc54_calls 55 #[.pointer (some ⟨Bg, 0, none⟩)] (lacks (g :: gs)) (enters_of Try.func55 (by kernel_rfl) rfl) A9 c9 all W9 HC9.out
   (fun W' x ds hW _ hKx => means1_calls (g :: gs) (some ag) c8 Bg W' x ds hKx (by rw [HN8.out]; exact pw_cell_below hW HK9.out) (by rw [HN8.out]; exact Kd.C_below HC8.out hW))
  have hmf : ∀ (fn : Fn) (first cap : Array Value) (w : World), (Instr.makeFunc fn first cap).run Try.prog w = .ok (.func fn first cap) w := fun _ _ _ _ => rfl
  rw [HLK.out] at hct
  generalize hn9 : all.length = n9 at hct HC9 ⊢
  go_wp2_with fail
  refine hct.mono ?_; rintro e W6 ⟨rfl, hBx⟩
  clear hct
  replace k0 := pw_cell_below hBx k0
  replace k1 := pw_cell_below hBx k1
  replace k2 := pw_cell_below hBx k2
  replace H0 := Aside0.mk (Kd.C_below H0.out hBx)
  replace H1 := Aside0.mk (Kd.C_below H1.out hBx)
  replace H2 := Aside0.mk (Kd.C_below H2.out hBx)
  replace HC9 := Aside0.mk (Kd.C_below HC9.out hBx)
  replace HHB := Aside0.mk (HHB.out.trans (hBx.mono HHB.out.size))
  clear hBx
  rw [HN1.out.symm] at H1
  rw [HN2.out.symm] at H2
  have k0' : W6.cell? ⟨w.heap.size, 0, none⟩ = some (.slice A0 cons.length c0) := k0
  have k1' : W6.cell? ⟨w.heap.size + 1, 0, none⟩ = some (.slice A1 rows.length c1) := by rw [HN1.out]; exact k1
  have k2' : W6.cell? ⟨w.heap.size + 1 + 1, 0, none⟩ = some (.slice (some ad) (p :: t).length c2) := by rw [HN2.out]; exact k2
  have hq1 : rows.length ≤ c1 := by rw [HN1.out]; exact hc1
  have hq2 : (p :: t).length ≤ c2 := by rw [HN2.out]; exact hc2
  rw [hall] at HQ
  have hct2 := ContainsFunc54_calls 57 #[.pointer (some ⟨w.heap.size + 1 + 1, 0, none⟩), .pointer (some ⟨w.heap.size, 0, none⟩), .pointer (some ⟨w.heap.size + 1, 0, none⟩)] (anyM cons k rows p t) (enters_of Try.func57 (by kernel_rfl) rfl) A9 c9 all W6 (by rw [hn9]; exact HC9.out)
   (fun W' x ds hW hx hKx => by
    have hqx := (List.all_eq_true.1 HQ.out) x hx
    simp only [Bool.and_eq_true, decide_eq_true_eq] at hqx
    obtain ⟨y, hy⟩ := Option.isSome_iff_exists.1 hqx.2
    have hyy : anyM cons k rows p t x = y := by unfold anyM; rw [hy]; rfl
    rw [hyy]
    exact means2_calls cons k IH A0 c0 A1 c1 rows (some ad) c2 (p :: t) y W' (Kd.C_below H0.out hW) hc0 (Kd.C_below H1.out hW) hq1 (Kd.C_below H2.out hW) hq2 HF.out _ _ _ (pw_cell_below hW k2') (pw_cell_below hW k0') (pw_cell_below hW k1') x ds hKx hqx.1.1 hqx.1.2 hy)
  rw [hn9] at hct2
  rw [hall] at HR
  rw [HR.out.symm] at hct2
  go_wp2_with fail
  refine hct2.mono ?_; rintro e W10 ⟨rfl, hBz⟩
  clear hct2
  go_wp2
  go_ret
  exact ⟨rfl, HHB.out.trans (hBz.mono HHB.out.size)⟩
 ·
  have hB8 : Below W6.heap.size W6 W7 := (below_1 W6 _).trans ((below_of_drew hB7).mono (by rw [World.size_alloc]; omega))
  replace hB8 := below_five hB8 (Nat.le_refl _) (.string c.f0) (.string c.f1) (.int .i64 c.f2) (.int .i64 c.f3) (.int .i64 c.f4)
  have hblk := blk_five hbk (.string c.f0) (.string c.f1) (.int .i64 c.f2) (.int .i64 c.f3) (.int .i64 c.f4)
  generalize (((((W7.setCell ⟨W6.heap.size, 0, none⟩ (.string c.f0)).setCell ⟨W6.heap.size, 1, none⟩ (.string c.f1)).setCell ⟨W6.heap.size, 2, none⟩ (.int .i64 c.f2)).setCell ⟨W6.heap.size, 3, none⟩ (.int .i64 c.f3)).setCell ⟨W6.heap.size, 4, none⟩ (.int .i64 c.f4)) = W8 at hB8 hblk ⊢
  clear hB7 hbk b0 b1 b2 b3 b4 bf
  generalize W6.heap.size = Bc at hblk ⊢
  replace k0 := pw_cell_below hB8 k0
  replace k9 := pw_cell_below hB8 k9
  have k1 := pw_cell_below hB8 HK1.out
  have k2 := pw_cell_below hB8 HK2.out
  replace H0 := Aside0.mk (Kd.C_below H0.out hB8)
  replace H1 := Aside0.mk (Kd.C_below H1.out hB8)
  replace H2 := Aside0.mk (Kd.C_below H2.out hB8)
  replace HC8 := Aside0.mk (Kd.C_below HC8.out hB8)
  replace HHB := Aside0.mk (HHB.out.trans (hB8.mono HHB.out.size))
  have y1 := blk_cell hblk 1
  clear hfA hfB hB8 hblk k0d k9d x1d x1 HK1 HK2 hne0 hne1 hne2 hz7
  have hof := cover_book_of_calls A0 c0 cons c.f1 W8 H0.out (by omega)
  go_wp2_with fail
  refine hof.mono ?_; rintro e W9 ⟨v, rfl, hN9, hB9⟩
  clear hof y1
  obtain ⟨A9, c9, rfl⟩ := Kd.N_slice hN9
  have HC9 := Aside0.mk (Kd.N_reads' hN9).2.2
  have HBY := Aside0.mk hB9
  clear hN9
  replace k0 := pw_cell_below hB9 k0
  replace k1 := pw_cell_below hB9 k1
  replace k2 := pw_cell_below hB9 k2
  replace k9 := pw_cell_below hB9 k9
  replace H0 := Aside0.mk (Kd.C_below H0.out hB9)
  replace H1 := Aside0.mk (Kd.C_below H1.out hB9)
  replace H2 := Aside0.mk (Kd.C_below H2.out hB9)
  replace HC8 := Aside0.mk (Kd.C_below HC8.out hB9)
  replace HHB := Aside0.mk (HHB.out.trans (hB9.mono HHB.out.size))
  clear hB9 HBY
  generalize hall : cons.filter (ofType c.f1) = all at HC9 HLK ⊢
  have HK9 := Aside0.mk k9
  have hct := ContainsFunc54_calls 55 #[.pointer (some ⟨Bg, 0, none⟩)] (lacks (g :: gs)) (enters_of Try.func55 (by kernel_rfl) rfl) A9 c9 all W9 HC9.out
   (fun W' x ds hW _ hKx => means1_calls (g :: gs) (some ag) c8 Bg W' x ds hKx (by rw [HN8.out]; exact pw_cell_below hW HK9.out) (by rw [HN8.out]; exact Kd.C_below HC8.out hW))
  have hmf : ∀ (fn : Fn) (first cap : Array Value) (w : World), (Instr.makeFunc fn first cap).run Try.prog w = .ok (.func fn first cap) w := fun _ _ _ _ => rfl
  rw [HLK.out] at hct
  generalize hn9 : all.length = n9 at hct HC9 ⊢
  go_wp2_with fail
  refine hct.mono ?_; rintro e W6 ⟨rfl, hBx⟩
  clear hct
  replace k0 := pw_cell_below hBx k0
  replace k1 := pw_cell_below hBx k1
  replace k2 := pw_cell_below hBx k2
  replace H0 := Aside0.mk (Kd.C_below H0.out hBx)
  replace H1 := Aside0.mk (Kd.C_below H1.out hBx)
  replace H2 := Aside0.mk (Kd.C_below H2.out hBx)
  replace HC9 := Aside0.mk (Kd.C_below HC9.out hBx)
  replace HHB := Aside0.mk (HHB.out.trans (hBx.mono HHB.out.size))
  clear hBx
  rw [HN1.out.symm] at H1
  rw [HN2.out.symm] at H2
  have k0' : W6.cell? ⟨w.heap.size, 0, none⟩ = some (.slice A0 cons.length c0) := k0
  have k1' : W6.cell? ⟨w.heap.size + 1, 0, none⟩ = some (.slice A1 rows.length c1) := by rw [HN1.out]; exact k1
  have k2' : W6.cell? ⟨w.heap.size + 1 + 1, 0, none⟩ = some (.slice (some ad) (p :: t).length c2) := by rw [HN2.out]; exact k2
  have hq1 : rows.length ≤ c1 := by rw [HN1.out]; exact hc1
  have hq2 : (p :: t).length ≤ c2 := by rw [HN2.out]; exact hc2
  rw [hall] at HQ
  have hct2 := ContainsFunc54_calls 57 #[.pointer (some ⟨w.heap.size + 1 + 1, 0, none⟩), .pointer (some ⟨w.heap.size, 0, none⟩), .pointer (some ⟨w.heap.size + 1, 0, none⟩)] (anyM cons k rows p t) (enters_of Try.func57 (by kernel_rfl) rfl) A9 c9 all W6 (by rw [hn9]; exact HC9.out)
   (fun W' x ds hW hx hKx => by
    have hqx := (List.all_eq_true.1 HQ.out) x hx
    simp only [Bool.and_eq_true, decide_eq_true_eq] at hqx
    obtain ⟨y, hy⟩ := Option.isSome_iff_exists.1 hqx.2
    have hyy : anyM cons k rows p t x = y := by unfold anyM; rw [hy]; rfl
    rw [hyy]
    exact means2_calls cons k IH A0 c0 A1 c1 rows (some ad) c2 (p :: t) y W' (Kd.C_below H0.out hW) hc0 (Kd.C_below H1.out hW) hq1 (Kd.C_below H2.out hW) hq2 HF.out _ _ _ (pw_cell_below hW k2') (pw_cell_below hW k0') (pw_cell_below hW k1') x ds hKx hqx.1.1 hqx.1.2 hy)
  rw [hn9] at hct2
  rw [hall] at HR
  rw [HR.out.symm] at hct2
  go_wp2_with fail
  refine hct2.mono ?_; rintro e W10 ⟨rfl, hBz⟩
  clear hct2
  go_wp2
  go_ret
  exact ⟨rfl, HHB.out.trans (hBz.mono HHB.out.size)⟩
theorem means_calls (cons : List S61) (hcl : cons.length ≤ 1000000) : ∀ k, MeansAt cons k := by
 intro k
 induction k with
 | zero => intro A0 c0 A1 c1 rows A2 c2 q r w _ _ _ _ _ _ h; simp [meansF] at h
 | succ k IH =>
  intro A0 c0 A1 c1 rows A2 c2 q r w h0 hc0 h1 hc1 h2 hc2 h
  unfold meansF at h
  split at h
  ·
   next hr =>
   obtain rfl := Option.some.inj h
   have hr' : rows.length = 0 := by simpa using hr
   exact (means_a cons A0 c0 A1 c1 rows.length A2 c2 q.length w (.inl hr')).mono fun e w' he => ⟨by rw [he.1, hr']; rfl, he.2⟩
  ·
   next hr =>
   have hrp : 0 < rows.length := by
    cases rows with
    | nil => simp at hr
    | cons _ _ => simp
   split at h
   ·
    next hq =>
    obtain rfl := Option.some.inj h
    have hq' : q.length = 0 := by simpa using hq
    refine (means_a cons A0 c0 A1 c1 rows.length A2 c2 q.length w (.inr hq')).mono fun e w' he => ⟨?_, he.2⟩
    rw [he.1]
    have : (rows.length == 0) = false := by rw [beq_eq_false_iff_ne]; omega
    rw [this]
   ·
    split at h
    ·
     next hf =>
     cases q with
     | nil => simp at h
     | cons p t =>
      simp only at h
      cases hl : looseB p with
      | false =>
       rw [hl] at h
       exact means_c cons k IH A0 c0 A1 c1 rows A2 c2 p t r w h0 hc0 h1 hc1 h2 hc2 hrp hf hl (by simpa using h)
      | true =>
       rw [hl] at h
       simp only [if_true] at h
       cases hc : columnL rows with
       | nil =>
        rw [hc] at h
        exact means_d1 cons k IH A0 c0 A1 c1 rows A2 c2 p t r w h0 hc0 h1 hc1 h2 hc2 hrp hf hl hc h
       | cons g gs =>
        rw [hc] at h
        simp only at h
        cases h5 : (g.f0 == 5) with
        | false =>
         rw [h5] at h
         exact means_d2 cons k IH A0 c0 A1 c1 rows A2 c2 p t r w h0 hc0 h1 hc1 h2 hc2 hrp hf hl g gs hc h5 (by simpa using h)
        | true =>
         rw [h5] at h
         simp only [if_true] at h
         cases hlk : (cons.filter (ofType (findC cons g.f1).f1)).any (lacks (g :: gs)) with
         | true =>
          rw [hlk] at h
          exact means_d3 cons k IH A0 c0 A1 c1 rows A2 c2 p t r w h0 hc0 h1 hc1 h2 hc2 hrp hf hl g gs hcl hc h5 hlk (by simpa using h)
         | false =>
          rw [hlk] at h
          simp only [Bool.false_eq_true, if_false] at h
          split at h
          ·
           next hq => exact means_e cons k IH A0 c0 A1 c1 rows A2 c2 p t r w h0 hc0 h1 hc1 h2 hc2 hrp hf hl g gs hcl hc h5 hlk hq (Option.some.inj h)
          ·
           simp at h
    ·
     simp at h
theorem rdT_at (l : List S25) (i : Nat) (h : i < l.length) : rd_T25 l (i : Int) = l[i] := by
 unfold rd_T25; rw [Int.toNat_natCast, List.getD_eq_getElem?_getD, List.getElem?_eq_getElem h, Option.getD_some]
def partsOk (l : List S25) (p : S25) (k : Nat) : Bool := l.all fun x => !sameB x p || decide (k < x.f5.length)
def partsL (l : List S25) (p : S25) (k : Nat) : List S25 := l.filterMap fun x => if sameB x p then x.f5[k]? else none
theorem parts_l (l : List S25) (p : S25) (k : Nat) (hn : l.length ≤ 1000000) (hok : partsOk l p k = true) : ∀ (d i : Nat) (acc : List S25), i + d = l.length → acc.length ≤ i →
 cover_parts.l0 (d + 1) (k : Int) acc l (l.length : Int) (i : Int) p.f0 p.f1 p.f2 p.f3 p.f4 p.f5 = some (acc ++ partsL (l.drop i) p k) := by
 intro d
 induction d with
 | zero =>
  intro i acc hi ha
  simp only [cover_parts.l0]
  rw [if_neg (by omega), List.drop_of_length_le (by omega)]
  simp [partsL]
 | succ d ih =>
  intro i acc hi ha
  have hlt : i < l.length := by omega
  have hd : l.drop i = l[i] :: l.drop (i + 1) := List.drop_eq_getElem_cons hlt
  have hki := (List.all_eq_true.1 hok) l[i] (List.getElem_mem _)
  rw [cover_parts.l0]
  rw [rdT_at l i hlt, hd]
  generalize l[i] = x at hki ⊢
  rw [if_pos (by omega), if_pos (by omega), if_pos (by omega), same_f]
  simp only [Option.bind_some]
  rw [wrap_succ (by omega)]
  cases hs : sameB x p with
  | false =>
   rw [if_neg (by decide), ih (i + 1) acc (by omega) (by omega)]
   simp [partsL, hs]
  | true =>
   have hk : k < x.f5.length := by simpa [hs] using hki
   rw [if_pos rfl, if_pos (by omega), if_pos (by omega), if_pos (by omega), rdT_at x.f5 k hk, ih (i + 1) _ (by omega) (by simp; omega)]
   simp [partsL, hs, List.getElem?_eq_getElem hk]
   generalize x.f5[k] = y
   cases y
   rfl
theorem parts_calls (A0 : Option Addr) (c0 : Nat) (l : List S25) (p : S25) (ps : List Value) (k : Nat) (w : World) (hr : Kd.C k25 w A0 l.length l) (hc : l.length ≤ c0) (hK : k25.K w p ps) (hn : l.length ≤ 1000000) (hok : partsOk l p k = true) :
 Calls Try.prog 50 #[.slice A0 l.length c0, .agg ps.toArray, .int .i64 k] w fun e w' => ∃ v, e = .returned v ∧ Kd.N k25 25 w' w.heap.size (fun _ => True) v (partsL l p k) ∧ Below w.heap.size w w' := by
 obtain ⟨A4, c4, A5, c5, rfl, l4, g4, l5, g5⟩ := k25_open hK
 have hp : cover_parts.f (l.length + 1) l p.f0 p.f1 p.f2 p.f3 p.f4 p.f5 k = some (partsL l p k) := by
  unfold cover_parts.f
  have := parts_l l p k hn hok l.length 0 [] (by omega) (by simp)
  simpa using this
 exact (cover_parts.calls (l.length + 1) (fun k => k < w.heap.size) A0 c0 l p.f0 p.f1 p.f2 p.f3 A4 c4 p.f4 A5 c5 p.f5 k _ w (Kd.V_mk hc (Kd.C_F k25_heap hr)) g4 l4 g5 l5 hp).mono
  fun e w' ⟨v, he, hN, hB⟩ => ⟨v, he, Kd.N_mono hN (fun _ _ => trivial), hB⟩
set_option maxHeartbeats 2000000 in
theorem tog1_calls (p : S25) (ps : List Value) (B : Nat) (W : World) (x : S25) (cs : List Value) (hK : k25.K W x cs) (hKp : k25.K W p ps) (hb : W.heap[B]? = some (.cells ps.toArray 25 (0, 0))) :
 Calls Try.prog 48 (#[.agg cs.toArray] ++ #[.pointer (some ⟨B, 0, none⟩)]) W fun e w' => e = .returned (.bool (sameB x p)) ∧ Below W.heap.size W w' := by
 have hsm := fun (W' : World) (hW : Below W.heap.size W W') => same_calls x p cs ps W' (k25.K_below hW hK) (k25.K_below hW hKp)
 obtain ⟨A4, c4, A5, c5, rfl, l4, g4, l5, g5⟩ := k25_open hK
 obtain ⟨B4, d4, B5, d5, rfl, m4, h4, m5, h5⟩ := k25_open hKp
 show Calls Try.prog 48 #[.agg #[.int .i64 x.f0, .string x.f1, .int .i64 x.f2, .int .i64 x.f3, .slice A4 x.f4.length c4, .slice A5 x.f5.length c5], .pointer (some ⟨B, 0, none⟩)] W _
 have hw1 := below_1 W (.cells #[.int .i64 x.f0, .string x.f1, .int .i64 x.f2, .int .i64 x.f3, .slice A4 x.f4.length c4, .slice A5 x.f5.length c5] 25)
 have hb1 := blk_below hb hw1
 replace hsm := hsm _ hw1
 have q0 := blk_cell hb1 0
 have q1 := blk_cell hb1 1
 have q2 := blk_cell hb1 2
 have q3 := blk_cell hb1 3
 have q4 := blk_cell hb1 4
 have q5 := blk_cell hb1 5
 have HW1 := Aside0.mk hw1
 clear hb hb1 g4 g5 h4 h5 l4 l5 m4 m5 hw1 hK hKp
 generalize sameB x p = t at hsm ⊢
 generalize x.f4.length = n4 at *
 generalize x.f5.length = n5 at *
 generalize p.f4.length = m4 at *
 generalize p.f5.length = m5 at *
 go_enter Try.func48, Try.ntmps48
 go_wp2_with fail
 refine hsm.mono ?_; rintro e w2 ⟨rfl, hb2⟩
 have HB2 := Aside0.mk (HW1.out.trans (hb2.mono HW1.out.size))
 clear hb2 hsm q0 q1 q2 q3 q4 q5
 go_wp2
 go_ret
 exact ⟨rfl, HB2.out⟩
def kidsF (rec_ : List S25 → Option Bool) (l : List S25) (p : S25) : Nat → Nat → Option Bool
 | 0, _ => some true
 | d + 1, k => if partsOk l p k then (match rec_ (partsL l p k) with | none => none | some false => some false | some true => kidsF rec_ l p d (k + 1)) else none
def rowsF (rec_ : List S25 → Option Bool) (l : List S25) : List S25 → Nat → Option Bool
 | [], _ => some true
 | p :: t, i => if (l.take i).any (fun o => sameB o p) then rowsF rec_ l t (i + 1) else
  if p.f5.length ≤ 1000000 then (match kidsF rec_ l p p.f5.length 0 with | none => none | some false => some false | some true => rowsF rec_ l t (i + 1)) else none
def unlike (cons : List S61) (h p : S25) : Bool := p.f0 != h.f0 || (findC cons p.f1).f1.toList != (findC cons h.f1).f1.toList
def togF (cons : List S61) : Nat → List S25 → Option Bool
 | 0, _ => none
 | k + 1, l0 => if l0.length ≤ 1000000 then
     (match l0.filter (fun x => !looseB x) with
     | [] => some true
     | h :: t => if (h :: t).any (unlike cons h) then some false else rowsF (togF cons k) (h :: t) (h :: t) 0)
  else none
def TogAt (cons : List S61) (k : Nat) : Prop :=
 ∀ (A0 : Option Addr) (c0 : Nat) (A1 : Option Addr) (c1 : Nat) (l : List S25) (r : Bool) (w : World),
  Kd.C k61 w A0 cons.length cons → cons.length ≤ c0 → Kd.C k25 w A1 l.length l → l.length ≤ c1 → togF cons k l = some r →
  Calls Try.prog 23 #[.slice A0 cons.length c0, .slice A1 l.length c1] w fun e w' => e = .returned (.bool r) ∧ Below w.heap.size w w'
theorem below_of_drew' {B : Nat} {w0 w : World} (h : Below B w0 w) : Below B w0 w.drew := below_drew h
set_option maxHeartbeats 8000000 in
set_option maxRecDepth 100000 in
theorem together_step (cons : List S61) (hcl : cons.length ≤ 1000000) (k : Nat) (IH : TogAt cons k) (A0 : Option Addr) (c0 : Nat) (A1 : Option Addr) (c1 : Nat) (l0 : List S25) (r : Bool) (w : World)
 (h0 : Kd.C k61 w A0 cons.length cons) (hc0 : cons.length ≤ c0) (h1 : Kd.C k25 w A1 l0.length l0) (hc1 : l0.length ≤ c1) (hlen : l0.length ≤ 1000000) (h : (match l0.filter (fun x => !looseB x) with
  | [] => some true
  | h :: t => if (h :: t).any (unlike cons h) then some false else rowsF (togF cons k) (h :: t) (h :: t) 0) = some r) :
 Calls Try.prog 23 #[.slice A0 cons.length c0, .slice A1 l0.length c1] w fun e w' => e = .returned (.bool r) ∧ Below w.heap.size w w' := by
 have hcn := Clone45_calls A1 c1 l0 w h1 (by omega)
 have H0 := Aside0.mk h0
 have HH := Aside0.mk h
 clear h h0 h1
 go_enter Try.func23, Try.ntmps23
 go_wp2_with fail
 refine hcn.mono ?_; rintro e w1 ⟨v, rfl, hN1, hB1⟩
 have hdf := DeleteFunc44_calls 46 #[] looseB (enters_of Try.func46 (by kernel_rfl) rfl) v l0 w w1 hN1 hB1 (fun W x cs _ _ hK => by simpa using loose_calls x cs W hK)
 obtain ⟨A2, c2, rfl⟩ := Kd.N_slice hN1
 clear hcn hN1 hB1
 go_wp2_with fail
 refine hdf.mono ?_; rintro e w2 ⟨v', rfl, hN2, hB2⟩
 clear hdf
 obtain ⟨A3, c3, rfl⟩ := Kd.N_slice hN2
 have hN2' := Kd.N_reads' hN2
 have HC0 := Aside0.mk (Kd.C_below H0.out hB2)
 have HB2 := Aside0.mk hB2
 have hll : (l0.filter (fun x => !looseB x)).length ≤ 1000000 := Nat.le_trans (List.length_filter_le _ _) hlen
 clear hN2 hB2 H0
 generalize l0.filter (fun x => !looseB x) = l at hN2' HH hll ⊢
 cases l with
 | nil =>
  have HR := Aside0.mk (Option.some.inj (show some true = some r from HH.out))
  clear hN2' HH
  simp only [List.length_nil]
  go_wp2
  go_ret
  exact ⟨congrArg (fun b => Ending.returned (.bool b)) HR.out, HB2.out⟩
 | cons h t =>
  have HH2 := Aside0.mk (show (if (h :: t).any (unlike cons h) then some false else rowsF (togF cons k) (h :: t) (h :: t) 0) = some r from HH.out)
  clear HH
  obtain ⟨ah, A4, c4, A5, c5, rfl, hKh, e0, e1, -, -, -, -⟩ := cons_open hN2'.2.2
  have HL := Aside0.mk hN2'.2.2
  have hcl3 := hN2'.2.1
  clear hN2' hKh
  have HD := Aside0.mk (show h :: t = h :: t from rfl)
  generalize hl : h :: t = l at HL HH2 hcl3 hll ⊢
  have hlp : 0 < l.length := by rw [← hl]; simp
  have hlz : (0 : Int) < (l.length : Int) := by omega
  have hln : ¬ (l.length : Int) = 0 := by omega
  have hlb : ((l.length : Int) == 0) = false := by simpa using hln
  clear HD
  have hfd := find_calls A0 c0 cons h.f1 w2 HC0.out hc0
  go_wp2_with fail
  refine hfd.mono ?_; rintro e w3 ⟨rfl, hB3⟩
  clear hfd
  have hB4 := hB3.alloc hB3.size (.cells #[.string (findC cons h.f1).f0, .string (findC cons h.f1).f1, .int .i64 (findC cons h.f1).f2, .int .i64 (findC cons h.f1).f3, .int .i64 (findC cons h.f1).f4] 61)
  have hf := blk_new w3 (.cells #[.string (findC cons h.f1).f0, .string (findC cons h.f1).f1, .int .i64 (findC cons h.f1).f2, .int .i64 (findC cons h.f1).f3, .int .i64 (findC cons h.f1).f4] 61)
  have HU := Aside0.mk (show ∀ p, unlike cons h p = (p.f0 != h.f0 || (findC cons p.f1).f1.toList != (findC cons h.f1).f1.toList) from fun _ => rfl)
  generalize hch : findC cons h.f1 = ch at hB4 hf HU ⊢
  replace HC0 := Aside0.mk (Kd.C_below HC0.out hB4)
  replace HL := Aside0.mk (Kd.C_below HL.out hB4)
  replace HB2 := Aside0.mk (HB2.out.trans (hB4.mono HB2.out.size))
  replace e0 := pw_cell_below hB4 e0
  have x1 := blk_cell hf 1
  clear hB3 hB4 hf e1
  go_wp2_with fail
  generalize w3.alloc (.cells #[.string ch.f0, .string ch.f1, .int .i64 ch.f2, .int .i64 ch.f3, .int .i64 ch.f4] 61) = W3 at HC0 HL HB2 e0 x1 ⊢
  generalize w3.heap.size = Bf at x1 ⊢
  have HE0 := Aside0.mk e0
  have HX1 := Aside0.mk (show W3.cell? ⟨Bf, 1, none⟩ = some (.string ch.f1) from x1)
  clear e0 x1 hl hlz hln hlb
  go_loopg [31] l.length (fun gg s31 wr => ∃ kk : Nat, kk ≤ l.length ∧ l.length - kk ≤ gg ∧ s31 = .int .i64 kk ∧ Aside0 (Below W3.heap.size W3 wr) ∧ Aside0 (∀ j (hj : j < kk) (hl : j < l.length), unlike cons h l[j] = false))
  case atStart => exact ⟨0, Nat.zero_le _, by omega, rfl, ⟨Below.refl _ _⟩, ⟨fun j hj => absurd hj (Nat.not_lt_zero _)⟩⟩
  case round =>
   obtain ⟨kk, hkk, hg, rfl, BW, AA⟩ := hrel
   by_cases hlt : kk < l.length
   ·
    have hltz : (kk : Int) < (l.length : Int) := by omega
    have hkz : (0 : Int) ≤ (kk : Int) := by omega
    obtain ⟨ad, cs, e', hcl', hK, hcz, hcj⟩ := elem_at (Kd.C_below HL.out BW.out) kk hlt
    injection e' with e'
    subst e'
    obtain ⟨A6, c6, A7, c7, rfl, -, -, -, -⟩ := k25_open hK
    clear hcl' hK
    simp only [show k25.sz = 6 from rfl] at hcz hcj
    have y0 := hcz _ rfl
    have y1 := hcj 1 _ (by decide) rfl
    have y2 := hcj 2 _ (by decide) rfl
    have y3 := hcj 3 _ (by decide) rfl
    have y4 := hcj 4 _ (by decide) rfl
    have y5 := hcj 5 _ (by decide) rfl
    clear hcz hcj
    have hun := HU.out l[kk]
    have HAA := Aside0.mk (show ∀ b, unlike cons h l[kk] = b → unlike cons h l[kk] = b from fun _ e => e)
    generalize hy : l[kk] = y at y0 y1 y2 y3 y4 y5 hun
    have HUN := Aside0.mk hun
    have HY := Aside0.mk hy
    clear hy HAA hun
    have hb5 := below_1 wr (.cells #[.int .i64 y.f0, .string y.f1, .int .i64 y.f2, .int .i64 y.f3, .slice A6 y.f4.length c6, .slice A7 y.f5.length c7] 25)
    have hbk := blk_new wr (.cells #[.int .i64 y.f0, .string y.f1, .int .i64 y.f2, .int .i64 y.f3, .slice A6 y.f4.length c6, .slice A7 y.f5.length c7] 25)
    have HB5 := Aside0.mk (BW.out.trans (hb5.mono BW.out.size))
    have hfd := find_calls A0 c0 cons y.f1 _ (Kd.C_below HC0.out HB5.out) hc0
    clear hb5
    go_wp2_with fail
    refine hfd.mono ?_; rintro e w6 ⟨rfl, hB6⟩
    clear hfd y0 y1 y2 y3 y4 y5
    generalize hcy : findC cons y.f1 = cy at HUN ⊢
    have hB7 := hB6.alloc hB6.size (.cells #[.string cy.f0, .string cy.f1, .int .i64 cy.f2, .int .i64 cy.f3, .int .i64 cy.f4] 61)
    have hf := blk_new w6 (.cells #[.string cy.f0, .string cy.f1, .int .i64 cy.f2, .int .i64 cy.f3, .int .i64 cy.f4] 61)
    have z1 : (w6.alloc (.cells #[.string cy.f0, .string cy.f1, .int .i64 cy.f2, .int .i64 cy.f3, .int .i64 cy.f4] 61)).cell? ⟨w6.heap.size, 1, none⟩ = some (.string cy.f1) := blk_cell hf 1
    have z0 : (w6.alloc (.cells #[.string cy.f0, .string cy.f1, .int .i64 cy.f2, .int .i64 cy.f3, .int .i64 cy.f4] 61)).cell? ⟨wr.heap.size, 0, none⟩ = some (.int .i64 y.f0) := blk_cell (blk_below hbk hB7) 0
    have HBW := Aside0.mk (HB5.out.trans (hB7.mono HB5.out.size))
    have e0 := pw_cell_below HBW.out HE0.out
    have x1 := pw_cell_below HBW.out HX1.out
    clear hbk hB6 hB7 hf
    have hno : ∀ w' : World, Below W3.heap.size W3 w' → unlike cons h l[kk] = true → Ending.returned (.bool false) = .returned (.bool r) ∧ Below w.heap.size w w' := fun w' hb hu => by
     have hany : l.any (unlike cons h) = true := List.any_eq_true.2 ⟨l[kk], List.getElem_mem _, hu⟩
     have := HH2.out
     rw [hany] at this
     obtain rfl := Option.some.inj this
     exact ⟨rfl, HB2.out.trans (hb.mono HB2.out.size)⟩
    have HNO := Aside0.mk hno
    clear hno
    go_wp2_with fail
    generalize w6.alloc (.cells #[.string cy.f0, .string cy.f1, .int .i64 cy.f2, .int .i64 cy.f3, .int .i64 cy.f4] 61) = W7 at z1 z0 HBW e0 x1 ⊢
    generalize w6.heap.size = Bc at z1 ⊢
    generalize wr.heap.size = Bp at z0 ⊢
    have hlp0 : (0 : Int) < (l.length : Int) := by omega
    cases e1 : (y.f0 != h.f0) with
    | true =>
     have HT := Aside0.mk (show unlike cons h l[kk] = true by rw [HY.out, HUN.out, e1]; rfl)
     go_region
     go_wp2
     go_ret
     exact HNO.out _ (below_of_drew' HBW.out) HT.out
    | false =>
     cases e2 : (cy.f1.toList == ch.f1.toList) with
     | false =>
      have HT := Aside0.mk (show unlike cons h l[kk] = true by rw [HY.out, HUN.out, e1]; simp only [bne, e2]; rfl)
      go_region
      go_wp2
      go_ret
      exact HNO.out _ (below_of_drew' HBW.out) HT.out
     | true =>
      have HT := Aside0.mk (show unlike cons h l[kk] = false by rw [HY.out, HUN.out, e1]; simp only [bne, e2]; rfl)
      go_region
      go_wp2
      go_roundg (l.length - (kk + 1))
      case measure => omega
      case rel =>
       refine ⟨kk + 1, by omega, by omega, by go_num, ⟨below_of_drew' HBW.out⟩, ⟨fun j hj hl => ?_⟩⟩
       by_cases e : j = kk
       ·
        subst e
        exact HT.out
       ·
        exact AA.out j (by omega) hl
   ·
    have hltz : ¬ (kk : Int) < (l.length : Int) := by omega
    have hno : l.any (unlike cons h) = false := by
     rw [List.any_eq_false]
     intro x hx
     obtain ⟨j, hj, rfl⟩ := List.mem_iff_getElem.1 hx
     rw [AA.out j (by omega) hj]
     decide
    have HH3 := Aside0.mk (show rowsF (togF cons k) l l 0 = some r by have := HH2.out; rw [hno] at this; simpa using this)
    clear hno
    have HC1 := Aside0.mk (Kd.C_below HC0.out BW.out)
    have HL1 := Aside0.mk (Kd.C_below HL.out BW.out)
    have HB9 := Aside0.mk (HB2.out.trans (BW.out.mono HB2.out.size))
    clear hltz HC0 HL HB2 HE0 HX1 HU HH2 AA BW
    generalize hW : wr = W4 at HC1 HL1 HB9 ⊢
    clear hW
    go_wp2_with fail
    go_loopg [59] l.length (fun gg s59 wr => ∃ i : Nat, i ≤ l.length ∧ l.length - i ≤ gg ∧ s59 = .int .i64 i ∧ Aside0 (Below W4.heap.size W4 wr) ∧ Aside0 (rowsF (togF cons k) l (l.drop i) i = some r))
    case atStart => exact ⟨0, Nat.zero_le _, by omega, rfl, ⟨Below.refl _ _⟩, HH3⟩
    case round =>
     obtain ⟨i, hi, hg, rfl, BW, AA⟩ := hrel
     clear HH3
     by_cases hlt : i < l.length
     ·
      have hltz : (i : Int) < (l.length : Int) := by omega
      have hiz : (0 : Int) ≤ (i : Int) := by omega
      have hic : (i : Int) ≤ (l.length : Int) := by omega
      have HLr := Aside0.mk (Kd.C_below HL1.out BW.out)
      obtain ⟨ad, cs, e', hcl', hK, hcz, hcj⟩ := elem_at HLr.out i hlt
      injection e' with e'
      subst e'
      have hK0 := hK
      obtain ⟨A6, c6, A7, c7, rfl, -, -, -, -⟩ := k25_open hK
      simp only [show k25.sz = 6 from rfl] at hcz hcj
      have y0 := hcz _ rfl
      have y1 := hcj 1 _ (by decide) rfl
      have y2 := hcj 2 _ (by decide) rfl
      have y3 := hcj 3 _ (by decide) rfl
      have y4 := hcj 4 _ (by decide) rfl
      have y5 := hcj 5 _ (by decide) rfl
      have hd : l.drop i = l[i] :: l.drop (i + 1) := List.drop_eq_getElem_cons hlt
      have hAA := AA.out
      rw [hd] at hAA
      clear hcl' hK hcz hcj hd AA
      generalize l[i] = y at y0 y1 y2 y3 y4 y5 hAA hK0
      have HAA := Aside0.mk hAA
      have hb5 := below_1 wr (.cells #[.int .i64 y.f0, .string y.f1, .int .i64 y.f2, .int .i64 y.f3, .slice A6 y.f4.length c6, .slice A7 y.f5.length c7] 25)
      have hbk := blk_new wr (.cells #[.int .i64 y.f0, .string y.f1, .int .i64 y.f2, .int .i64 y.f3, .slice A6 y.f4.length c6, .slice A7 y.f5.length c7] 25)
      have HK5 := Aside0.mk (k25.K_below hb5 hK0)
      have HB5 := Aside0.mk (BW.out.trans (hb5.mono BW.out.size))
      have hct := ContainsFunc47_calls 48 #[.pointer (some ⟨wr.heap.size, 0, none⟩)] (fun o => sameB o y) (enters_of Try.func48 (by kernel_rfl) rfl) (some ah) c3 (l.take i) (wr.alloc (.cells #[.int .i64 y.f0, .string y.f1, .int .i64 y.f2, .int .i64 y.f3, .slice A6 y.f4.length c6, .slice A7 y.f5.length c7] 25))
       (Kd.C_take (Kd.C_below HL1.out HB5.out) (by omega)) (fun W x ds hbW hx hK => tog1_calls y _ wr.heap.size W x ds hK (k25.K_below hbW HK5.out) (blk_below hbk hbW))
      rw [List.length_take, Nat.min_eq_left (Nat.le_of_lt hlt)] at hct
      have HBK := Aside0.mk hbk
      clear hb5 hbk hK0 hAA
      have hmf : ∀ (fn : Fn) (first cap : Array Value) (w : World), (Instr.makeFunc fn first cap).run Try.prog w = .ok (.func fn first cap) w := fun _ _ _ _ => rfl
      unfold rowsF at HAA
      generalize (l.take i).any (fun o => sameB o y) = dup at hct HAA
      go_wp2_with fail
      refine hct.mono ?_; rintro e w6 ⟨rfl, hB6⟩
      clear hct y0 y1 y2 y3 y4 y5 HLr
      have HBW := Aside0.mk (HB5.out.trans (hB6.mono HB5.out.size))
      have HBK6 := Aside0.mk (blk_below HBK.out hB6)
      have HK6 := Aside0.mk (k25.K_below hB6 HK5.out)
      clear hB6 HBK HK5 HB5
      cases dup with
      | true =>
       go_wp2
       go_roundg (l.length - (i + 1))
       case measure => omega
       case rel => exact ⟨i + 1, by omega, by omega, by go_num, HBW, ⟨by simpa using HAA.out⟩⟩
      | false =>
       have p5 : w6.cell? ⟨wr.heap.size, 5, none⟩ = some (.slice A7 y.f5.length c7) := blk_cell HBK6.out 5
       generalize wr.heap.size = Bp at p5 HBK6 ⊢
       go_wp2_with fail
       have hn5 : y.f5.length ≤ 1000000 := by
        have := HAA.out
        simp only [Bool.false_eq_true, if_false] at this
        split at this
        ·
         assumption
        ·
         cases this
       have HAB := Aside0.mk (show (match kidsF (togF cons k) l y y.f5.length 0 with
        | none => none
        | some false => some false
        | some true => rowsF (togF cons k) l (l.drop (i + 1)) (i + 1)) = some r by
        have := HAA.out
        simp only [Bool.false_eq_true, if_false, if_pos hn5] at this
        exact this)
       have HLx := Aside0.mk (Kd.C_below HL1.out HBW.out)
       have HCx := Aside0.mk (Kd.C_below HC1.out HBW.out)
       clear HAA hmf p5
       generalize hn : y.f5.length = n at HAB HBK6 HK6 hn5 ⊢
       have HNN := Aside0.mk hn
       clear hn
       go_loopg [72] n (fun gg s72 wr => ∃ d q : Nat, d + q = n ∧ d ≤ gg ∧ s72 = .int .i64 q ∧ Aside0 (Below w6.heap.size w6 wr) ∧ Aside0 ((match kidsF (togF cons k) l y d q with
        | none => none
        | some false => some false
        | some true => rowsF (togF cons k) l (l.drop (i + 1)) (i + 1)) = some r))
       case atStart => exact ⟨n, 0, by omega, by omega, rfl, ⟨Below.refl _ _⟩, HAB⟩
       case round =>
        obtain ⟨d, q, hdq, hg2, rfl, BX, AB⟩ := hrel
        have p0 := blk_cell (blk_below HBK6.out BX.out) 0
        have p1 := blk_cell (blk_below HBK6.out BX.out) 1
        have p2 := blk_cell (blk_below HBK6.out BX.out) 2
        have p3 := blk_cell (blk_below HBK6.out BX.out) 3
        have p4 := blk_cell (blk_below HBK6.out BX.out) 4
        have p5 := blk_cell (blk_below HBK6.out BX.out) 5
        cases d with
        | zero =>
         have hltz : ¬ (q : Int) < (n : Int) := by omega
         clear p0 p1 p2 p3 p4 p5
         go_wp2
         go_roundg (l.length - (i + 1))
         case measure => omega
         case rel => exact ⟨i + 1, by omega, by omega, by go_num, ⟨HBW.out.trans (BX.out.mono HBW.out.size)⟩, ⟨AB.out⟩⟩
        | succ d =>
         have hltz : (q : Int) < (n : Int) := by omega
         have hqz : (0 : Int) ≤ (q : Int) := by omega
         have hok : partsOk l y q = true := by
          have := AB.out
          unfold kidsF at this
          split at this
          ·
           cases this
          ·
           next h3 => split at h3 <;> first | assumption | cases h3
          ·
           next h3 => split at h3 <;> first | assumption | cases h3
         have hAC := AB.out
         unfold kidsF at hAC
         rw [if_pos hok] at hAC
         have hpc := parts_calls (some ah) c3 l y _ q wr (Kd.C_below HLx.out BX.out) hcl3 (k25.K_below BX.out HK6.out) hll hok
         have HAC := Aside0.mk hAC
         clear hAC AB hok
         go_wp2_with fail
         refine hpc.mono ?_; rintro e w7 ⟨v7, rfl, hN7, hB7⟩
         clear hpc p0 p1 p2 p3 p4 p5
         obtain ⟨A8, c8, rfl⟩ := Kd.N_slice hN7
         have hN7' := Kd.N_reads' hN7
         have HB7 := Aside0.mk (BX.out.trans (hB7.mono BX.out.size))
         cases hrec : togF cons k (partsL l y q) with
         | none =>
          have := HAC.out
          rw [hrec] at this
          cases this
         | some b =>
          have hih := IH A0 c0 A8 c8 (partsL l y q) b w7 (Kd.C_below HCx.out HB7.out) hc0 hN7'.2.2 hN7'.2.1 hrec
          have HAD := HAC.out
          rw [hrec] at HAD
          replace HAD := Aside0.mk HAD
          clear hN7 hN7' hB7 hrec HAC
          go_wp2_with fail
          refine hih.mono ?_; rintro e w8 ⟨rfl, hB8⟩
          clear hih
          have HB8 := Aside0.mk (HB7.out.trans (hB8.mono HB7.out.size))
          clear hB8
          cases b with
          | false =>
           have HR := Aside0.mk (Option.some.inj (show some false = some r from HAD.out))
           go_wp2
           go_ret
           exact ⟨congrArg (fun b => Ending.returned (.bool b)) HR.out, HB9.out.trans ((HBW.out.trans (HB8.out.mono HBW.out.size)).mono HB9.out.size)⟩
          | true =>
           go_wp2
           go_roundg d
           case measure => omega
           case rel => exact ⟨d, q + 1, by omega, by omega, by go_num, HB8, ⟨HAD.out⟩⟩
     ·
      have hltz : ¬ (i : Int) < (l.length : Int) := by omega
      have HR := Aside0.mk (show true = r by have := AA.out; rw [List.drop_of_length_le (by omega)] at this; exact Option.some.inj this)
      go_wp2
      go_ret
      exact ⟨congrArg (fun b => Ending.returned (.bool b)) HR.out, HB9.out.trans (BW.out.mono HB9.out.size)⟩
theorem together_calls (cons : List S61) (hcl : cons.length ≤ 1000000) : ∀ k, TogAt cons k := by
 intro k
 induction k with
 | zero => intro A0 c0 A1 c1 l r w _ _ _ _ h; simp [togF] at h
 | succ k IH =>
  intro A0 c0 A1 c1 l r w h0 hc0 h1 hc1 h
  unfold togF at h
  split at h
  ·
   next hl => exact together_step cons hcl k IH A0 c0 A1 c1 l r w h0 hc0 h1 hc1 hl h
  ·
   cases h
def cover_book_together.f (cons : List S61) (l : List S25) : Option Bool := if cons.length ≤ 1000000 then togF cons 100 l else none
theorem cover_book_together.calls (A0 : Option Addr) (c0 : Nat) (cons : List S61) (A1 : Option Addr) (c1 : Nat) (l : List S25) (r : Bool) (w : World) (hr0 : Kd.C k61 w A0 cons.length cons) (hc0 : cons.length ≤ c0) (hr1 : Kd.C k25 w A1 l.length l) (hc1 : l.length ≤ c1) (h : cover_book_together.f cons l = some r) :
 Calls Try.prog 23 #[.slice A0 cons.length c0, .slice A1 l.length c1] w fun e w' => e = .returned (.bool r) ∧ Below w.heap.size w w' := by
 unfold cover_book_together.f at h
 split at h
 ·
  next hl => exact together_calls cons hl 100 A0 c0 A1 c1 l r w hr0 hc0 hr1 hc1 h
 ·
  cases h
def cover_book_means.f (cons : List S61) (rows : List (List S25)) (q : List S25) : Option Bool := if cons.length ≤ 1000000 then meansF cons 1000 rows q else none
theorem cover_book_means.calls (A0 : Option Addr) (c0 : Nat) (cons : List S61) (A1 : Option Addr) (c1 : Nat) (rows : List (List S25)) (A2 : Option Addr) (c2 : Nat) (q : List S25) (r : Bool) (w : World) (hr0 : Kd.C k61 w A0 cons.length cons) (hc0 : cons.length ≤ c0)
 (hr1 : Kd.C (Kd.slice 25 k25) w A1 rows.length rows) (hc1 : rows.length ≤ c1) (hr2 : Kd.C k25 w A2 q.length q) (hc2 : q.length ≤ c2) (h : cover_book_means.f cons rows q = some r) :
 Calls Try.prog 24 #[.slice A0 cons.length c0, .slice A1 rows.length c1, .slice A2 q.length c2] w fun e w' => e = .returned (.bool r) ∧ Below w.heap.size w w' := by
 unfold cover_book_means.f at h
 split at h
 ·
  next hl => exact means_calls cons hl 1000 A0 c0 A1 c1 rows A2 c2 q r w hr0 hc0 hr1 hc1 hr2 hc2 h
 ·
  cases h
def cover_wild.f (n : Int) : Option (List S25) := if 0 ≤ n ∧ n ≤ 2 then some (List.replicate n.toNat wildS) else none
theorem cover_wild.calls (n : Int) (r : List S25) (w : World) (h : cover_wild.f n = some r) :
 Calls Try.prog 25 #[.int .i64 n] w fun e w' => ∃ v0_ : Value, e = .returned v0_ ∧ Kd.N k25 25 w' w.heap.size (fun k_ => (w.heap.size ≤ k_)) v0_ r ∧ Below w.heap.size w w' := by
 unfold cover_wild.f at h
 split at h
 ·
  next hn =>
  obtain rfl := Option.some.inj h
  obtain ⟨m, rfl⟩ : ∃ m : Nat, n = m := ⟨n.toNat, by omega⟩
  exact (wild_calls m (by omega) w).mono fun e w' ⟨v, he, hR, hB⟩ => ⟨v, he, Kd.R_N (Kd.R_mono (Kd.R_bound hR) (fun k hk => hk.2.1)), hB⟩
 ·
  cases h
end Go.Proofs.Ytikhkcnbabpneaa.P