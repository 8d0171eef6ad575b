/- selvagelaw09.lives -/
import Derived.Test.YtikhkcnbabpneaaAvHB
import Derived.Test.YtikhkcnbabpneaaAvPx30
import Derived.Test.YtikhkcnbabpneaaAvPx31
import Derived.Test.YtikhkcnbabpneaaAvHA
import Derived.Test.YtikhkcnbabpneaaAvQ1
namespace Go.Proofs.Ytikhkcnbabpneaa.P
open Go.RowKit Go.Proofs.YtikhkcnbabpneaaW.PrintWords Go.Proofs.YtikhkcnbabpneaaW.PrintLast Go.Proofs.YtikhkcnbabpneaaW.PrintMore
set_option linter.unusedVariables false
set_option linter.unusedSimpArgs false
theorem C_new {α : Type} {d : Kd α} {w : World} {xs : List α} {cells : List Value} (e : Nat) (hr : Reps (fun x c => d.K w x c) d.sz xs cells) (hn : xs.length ≤ 9223372036854775807) : Kd.C d (w.alloc (.cells cells.toArray e)) (some ⟨w.heap.size, 0, none⟩) xs.length xs := by
 refine ⟨rfl, hn, fun _ => ⟨_, rfl, fun j p hp => ⟨(cells.drop (j * d.sz)).take d.sz, d.K_len (hr.2 j p hp), d.K_below (below_1 w _) (hr.2 j p hp), fun i u hu => ?_⟩⟩⟩
 rw [List.getElem?_take] at hu
 split at hu
 ·
  rw [List.getElem?_drop] at hu
  have hadd : ∀ n, (⟨w.heap.size, 0, none⟩ : Addr).add n = ⟨w.heap.size, n, none⟩ := fun n => by unfold Addr.add; split <;> simp_all
  rw [hadd, World.cell?_alloc_at _ _ _ _ rfl]
  simpa using hu
 ·
  cases hu
theorem reps_one {α : Type} {d : Kd α} {w : World} {x : α} {c : List Value} (h : d.K w x c) : Reps (fun x c => d.K w x c) d.sz [x] ([] ++ c) := (Reps.none _ _).snoc h (d.K_len h)
def conS (name : ByteArray) (l : List S25) : S25 := ⟨5, name, 0, 0, [], l⟩
def anyS : S25 := ⟨24, ⟨#[]⟩, 0, 0, [], []⟩
theorem con_calls (name : ByteArray) (A : Option Addr) (c : Nat) (l : List S25) (n : Nat) (hn : l.length = n) (w : World) (hC : Kd.C k25 w A l.length l) (hc : l.length ≤ c) :
 Calls Try.prog 26 #[.string name, .slice A n c] w fun e w' => ∃ A4 c4 A5 c5, e = .returned (.agg #[.int .i64 5, .string name, .int .i64 0, .int .i64 0, .slice A4 0 c4, .slice A5 n c5]) ∧ k25.K w' (conS name l) [.int .i64 5, .string name, .int .i64 0, .int .i64 0, .slice A4 0 c4, .slice A5 n c5] ∧ Below w.heap.size w w' := by
 subst hn
 exact (selvagelaw09_con.calls name (fun k => k < w.heap.size) A c l _ _ _ _ _ _ w (Kd.V_mk hc (Kd.C_F k25_heap hC)) rfl).mono fun e w' ⟨v4, v5, he, h4, h5, hb⟩ => by
  obtain ⟨A4, c4, rfl⟩ := Kd.R_slice h4
  obtain ⟨A5, c5, rfl⟩ := Kd.V_slice h5
  have g4 := Kd.R_reads' h4
  have g5 := Kd.V_reads' h5
  exact ⟨A4, c4, A5, c5, he, k25_mk w' (conS name l) g4.2.1 g4.2.2 g5.2.1 g5.2.2, hb⟩
theorem any_calls (w : World) :
 Calls Try.prog 9 #[] w fun e w' => ∃ A4 c4 A5 c5, e = .returned (.agg #[.int .i64 24, .string ⟨#[]⟩, .int .i64 0, .int .i64 0, .slice A4 0 c4, .slice A5 0 c5]) ∧ k25.K w' anyS [.int .i64 24, .string ⟨#[]⟩, .int .i64 0, .int .i64 0, .slice A4 0 c4, .slice A5 0 c5] ∧ Below w.heap.size w w' :=
 (selvagelaw09_any.calls _ _ _ _ _ _ w rfl).mono fun e w' ⟨v4, v5, he, h4, h5, hb⟩ => by
  obtain ⟨A4, c4, rfl⟩ := Kd.R_slice h4
  obtain ⟨A5, c5, rfl⟩ := Kd.R_slice h5
  have g4 := Kd.R_reads' h4
  have g5 := Kd.R_reads' h5
  exact ⟨A4, c4, A5, c5, he, k25_mk w' anyS g4.2.1 g4.2.2 g5.2.1 g5.2.2, hb⟩
theorem C_two {w : World} {x y : S25} {a0 a1 a2 a3 a4 a5 b0 b1 b2 b3 b4 b5 : Value} (h : k25.K w x [a0, a1, a2, a3, a4, a5]) (k : k25.K w y [b0, b1, b2, b3, b4, b5]) :
 Kd.C k25 (w.alloc (.cells #[a0, a1, a2, a3, a4, a5, b0, b1, b2, b3, b4, b5] 25)) (some ⟨w.heap.size, 0, none⟩) [x, y].length [x, y] :=
 C_new (cells := [a0, a1, a2, a3, a4, a5, b0, b1, b2, b3, b4, b5]) 25 ((reps_one h).snoc k (k25.K_len k)) (by simp)
theorem C_three {w : World} {x y z : S25} {a0 a1 a2 a3 a4 a5 b0 b1 b2 b3 b4 b5 c0 c1 c2 c3 c4 c5 : Value} (h : k25.K w x [a0, a1, a2, a3, a4, a5]) (k : k25.K w y [b0, b1, b2, b3, b4, b5]) (l : k25.K w z [c0, c1, c2, c3, c4, c5]) :
 Kd.C k25 (w.alloc (.cells #[a0, a1, a2, a3, a4, a5, b0, b1, b2, b3, b4, b5, c0, c1, c2, c3, c4, c5] 25)) (some ⟨w.heap.size, 0, none⟩) [x, y, z].length [x, y, z] :=
 C_new (cells := [a0, a1, a2, a3, a4, a5, b0, b1, b2, b3, b4, b5, c0, c1, c2, c3, c4, c5]) 25 (((reps_one h).snoc k (k25.K_len k)).snoc l (k25.K_len l)) (by simp)
def consL : List S61 := (selvageref09_Cons.f).getD []
theorem consL_f : selvageref09_Cons.f = some consL := rfl
def tTrue : ByteArray := ⟨#[84, 114, 117, 101]⟩
def tFalse : ByteArray := ⟨#[70, 97, 108, 115, 101]⟩
def tNil : ByteArray := ⟨#[78, 105, 108]⟩
def tCons : ByteArray := ⟨#[67, 111, 110, 115]⟩
set_option maxRecDepth 100000 in
theorem chk1 : cover_Check.f 40 [conS tTrue [], conS tFalse []] consL = some (0, 0) := by decide +kernel
set_option maxRecDepth 100000 in
theorem chk2 : cover_Check.f 40 [conS tTrue [], anyS, conS tFalse []] consL = some (2, 27) := by decide +kernel
set_option maxRecDepth 100000 in
theorem chk3 : cover_Check.f 40 [conS tNil [], conS tCons [anyS, conS tNil []]] consL = some (0, 26) := by decide +kernel
set_option maxRecDepth 100000 in
theorem chk4 : cover_Check.f 40 [⟨1, ⟨#[]⟩, 0, 0, [], []⟩, ⟨1, ⟨#[]⟩, 1, 0, [], []⟩] consL = some (0, 26) := by decide +kernel
def selvagelaw09_lives.f : Option Bool := some true
set_option maxHeartbeats 8000000 in
set_option maxRecDepth 100000 in
theorem selvagelaw09_lives.calls (r : Bool) (w : World) (h : selvagelaw09_lives.f = some r) : Calls Try.prog 10 #[] w fun e w' => e = .returned (.bool r) ∧ Below w.heap.size w w' := by
 obtain rfl := Option.some.inj h
 clear h
 go_enter Try.func10, Try.ntmps10
 go_wp2_with fail
 refine (selvageref09_Cons.calls consL w consL_f).mono ?_; rintro e w1 ⟨v, rfl, hR, hB1⟩
 obtain ⟨Ac, cc, rfl⟩ := Kd.R_slice hR
 have hR' := Kd.R_reads' hR
 have HC := Aside0.mk hR'.2.2
 have HCC := Aside0.mk hR'.2.1
 have HB := Aside0.mk hB1
 have hcl : consL.length = 8 := rfl
 clear hR hR' hB1
 go_wp2_with fail
 refine (con_calls ⟨#[84, 114, 117, 101]⟩ none 0 [] 0 rfl w1 (Kd.C_nil _ _) (Nat.le_refl _)).mono ?_; rintro e w2 ⟨P2, p2, Q2, q2, rfl, hK2, hB2⟩
 replace HC := Aside0.mk (Kd.C_below HC.out hB2)
 replace HB := Aside0.mk (HB.out.trans (hB2.mono HB.out.size))
 clear hB2
 have K2 := Aside0.mk hK2
 clear hK2
 go_wp2_with fail
 refine (con_calls ⟨#[70, 97, 108, 115, 101]⟩ none 0 [] 0 rfl w2 (Kd.C_nil _ _) (Nat.le_refl _)).mono ?_; rintro e w3 ⟨P3, p3, Q3, q3, rfl, hK3, hB3⟩
 replace K2 := Aside0.mk (k25.K_below hB3 K2.out)
 replace HC := Aside0.mk (Kd.C_below HC.out hB3)
 replace HB := Aside0.mk (HB.out.trans (hB3.mono HB.out.size))
 clear hB3
 have K3 := Aside0.mk hK3
 clear hK3
 go_wp2_with fail
 have hC4 := C_two K2.out K3.out
 have hA4 := below_1 w3 (.cells #[.int .i64 5, .string ⟨#[84, 114, 117, 101]⟩, .int .i64 0, .int .i64 0, .slice P2 0 p2, .slice Q2 0 q2, .int .i64 5, .string ⟨#[70, 97, 108, 115, 101]⟩, .int .i64 0, .int .i64 0, .slice P3 0 p3, .slice Q3 0 q3] 25)
 generalize hW : w3.alloc (.cells #[.int .i64 5, .string ⟨#[84, 114, 117, 101]⟩, .int .i64 0, .int .i64 0, .slice P2 0 p2, .slice Q2 0 q2, .int .i64 5, .string ⟨#[70, 97, 108, 115, 101]⟩, .int .i64 0, .int .i64 0, .slice P3 0 p3, .slice Q3 0 q3] 25) = w4 at hC4 hA4 ⊢
 generalize hG : w3.heap.size = g4 at hC4 ⊢
 clear hW hG
 replace K2 := Aside0.mk (k25.K_below hA4 K2.out)
 replace K3 := Aside0.mk (k25.K_below hA4 K3.out)
 replace HC := Aside0.mk (Kd.C_below HC.out hA4)
 replace HB := Aside0.mk (HB.out.trans (hA4.mono HB.out.size))
 clear hA4
 refine (cover_Check.calls 40 (fun k => k < w4.heap.size) (some ⟨g4, 0, none⟩) 2 [conS tTrue [], conS tFalse []] Ac cc consL 0 0 w4 (Kd.V_mk (Nat.le_refl _) (Kd.C_F k25_heap hC4)) HC.out HCC.out chk1).mono ?_; rintro e w5 ⟨rfl, hB5⟩
 clear hC4
 replace HC := Aside0.mk (Kd.C_below HC.out hB5)
 replace HB := Aside0.mk (HB.out.trans (hB5.mono HB.out.size))
 clear hB5
 go_wp2_with fail
 refine (con_calls ⟨#[84, 114, 117, 101]⟩ none 0 [] 0 rfl w5 (Kd.C_nil _ _) (Nat.le_refl _)).mono ?_; rintro e w6 ⟨P6, p6, Q6, q6, rfl, hK6, hB6⟩
 replace HC := Aside0.mk (Kd.C_below HC.out hB6)
 replace HB := Aside0.mk (HB.out.trans (hB6.mono HB.out.size))
 clear hB6
 have K6 := Aside0.mk hK6
 clear hK6
 go_wp2_with fail
 refine (any_calls w6).mono ?_; rintro e w7 ⟨P7, p7, Q7, q7, rfl, hK7, hB7⟩
 replace K6 := Aside0.mk (k25.K_below hB7 K6.out)
 replace HC := Aside0.mk (Kd.C_below HC.out hB7)
 replace HB := Aside0.mk (HB.out.trans (hB7.mono HB.out.size))
 clear hB7
 have K7 := Aside0.mk hK7
 clear hK7
 go_wp2_with fail
 refine (con_calls ⟨#[70, 97, 108, 115, 101]⟩ none 0 [] 0 rfl w7 (Kd.C_nil _ _) (Nat.le_refl _)).mono ?_; rintro e w8 ⟨P8, p8, Q8, q8, rfl, hK8, hB8⟩
 replace K6 := Aside0.mk (k25.K_below hB8 K6.out)
 replace K7 := Aside0.mk (k25.K_below hB8 K7.out)
 replace HC := Aside0.mk (Kd.C_below HC.out hB8)
 replace HB := Aside0.mk (HB.out.trans (hB8.mono HB.out.size))
 clear hB8
 have K8 := Aside0.mk hK8
 clear hK8
 go_wp2_with fail
 have hC9 := C_three K6.out K7.out K8.out
 have hA9 := below_1 w8 (.cells #[.int .i64 5, .string ⟨#[84, 114, 117, 101]⟩, .int .i64 0, .int .i64 0, .slice P6 0 p6, .slice Q6 0 q6, .int .i64 24, .string ⟨#[]⟩, .int .i64 0, .int .i64 0, .slice P7 0 p7, .slice Q7 0 q7, .int .i64 5, .string ⟨#[70, 97, 108, 115, 101]⟩, .int .i64 0, .int .i64 0, .slice P8 0 p8, .slice Q8 0 q8] 25)
 generalize hW : w8.alloc (.cells #[.int .i64 5, .string ⟨#[84, 114, 117, 101]⟩, .int .i64 0, .int .i64 0, .slice P6 0 p6, .slice Q6 0 q6, .int .i64 24, .string ⟨#[]⟩, .int .i64 0, .int .i64 0, .slice P7 0 p7, .slice Q7 0 q7, .int .i64 5, .string ⟨#[70, 97, 108, 115, 101]⟩, .int .i64 0, .int .i64 0, .slice P8 0 p8, .slice Q8 0 q8] 25) = w9 at hC9 hA9 ⊢
 generalize hG : w8.heap.size = g9 at hC9 ⊢
 clear hW hG
 replace K6 := Aside0.mk (k25.K_below hA9 K6.out)
 replace K7 := Aside0.mk (k25.K_below hA9 K7.out)
 replace K8 := Aside0.mk (k25.K_below hA9 K8.out)
 replace HC := Aside0.mk (Kd.C_below HC.out hA9)
 replace HB := Aside0.mk (HB.out.trans (hA9.mono HB.out.size))
 clear hA9
 refine (cover_Check.calls 40 (fun k => k < w9.heap.size) (some ⟨g9, 0, none⟩) 3 [conS tTrue [], anyS, conS tFalse []] Ac cc consL 2 27 w9 (Kd.V_mk (Nat.le_refl _) (Kd.C_F k25_heap hC9)) HC.out HCC.out chk2).mono ?_; rintro e w10 ⟨rfl, hB10⟩
 clear hC9
 replace HC := Aside0.mk (Kd.C_below HC.out hB10)
 replace HB := Aside0.mk (HB.out.trans (hB10.mono HB.out.size))
 clear hB10
 go_wp2_with fail
 refine (con_calls ⟨#[78, 105, 108]⟩ none 0 [] 0 rfl w10 (Kd.C_nil _ _) (Nat.le_refl _)).mono ?_; rintro e w11 ⟨P11, p11, Q11, q11, rfl, hK11, hB11⟩
 replace HC := Aside0.mk (Kd.C_below HC.out hB11)
 replace HB := Aside0.mk (HB.out.trans (hB11.mono HB.out.size))
 clear hB11
 have K11 := Aside0.mk hK11
 clear hK11
 go_wp2_with fail
 refine (any_calls w11).mono ?_; rintro e w12 ⟨P12, p12, Q12, q12, rfl, hK12, hB12⟩
 replace K11 := Aside0.mk (k25.K_below hB12 K11.out)
 replace HC := Aside0.mk (Kd.C_below HC.out hB12)
 replace HB := Aside0.mk (HB.out.trans (hB12.mono HB.out.size))
 clear hB12
 have K12 := Aside0.mk hK12
 clear hK12
 go_wp2_with fail
 refine (con_calls ⟨#[78, 105, 108]⟩ none 0 [] 0 rfl w12 (Kd.C_nil _ _) (Nat.le_refl _)).mono ?_; rintro e w13 ⟨P13, p13, Q13, q13, rfl, hK13, hB13⟩
 replace K11 := Aside0.mk (k25.K_below hB13 K11.out)
 replace K12 := Aside0.mk (k25.K_below hB13 K12.out)
 replace HC := Aside0.mk (Kd.C_below HC.out hB13)
 replace HB := Aside0.mk (HB.out.trans (hB13.mono HB.out.size))
 clear hB13
 have K13 := Aside0.mk hK13
 clear hK13
 go_wp2_with fail
 have hC14 := C_two K12.out K13.out
 have hA14 := below_1 w13 (.cells #[.int .i64 24, .string ⟨#[]⟩, .int .i64 0, .int .i64 0, .slice P12 0 p12, .slice Q12 0 q12, .int .i64 5, .string ⟨#[78, 105, 108]⟩, .int .i64 0, .int .i64 0, .slice P13 0 p13, .slice Q13 0 q13] 25)
 generalize hW : w13.alloc (.cells #[.int .i64 24, .string ⟨#[]⟩, .int .i64 0, .int .i64 0, .slice P12 0 p12, .slice Q12 0 q12, .int .i64 5, .string ⟨#[78, 105, 108]⟩, .int .i64 0, .int .i64 0, .slice P13 0 p13, .slice Q13 0 q13] 25) = w14 at hC14 hA14 ⊢
 generalize hG : w13.heap.size = g14 at hC14 ⊢
 clear hW hG
 replace K11 := Aside0.mk (k25.K_below hA14 K11.out)
 replace K12 := Aside0.mk (k25.K_below hA14 K12.out)
 replace K13 := Aside0.mk (k25.K_below hA14 K13.out)
 replace HC := Aside0.mk (Kd.C_below HC.out hA14)
 replace HB := Aside0.mk (HB.out.trans (hA14.mono HB.out.size))
 clear hA14
 refine (con_calls ⟨#[67, 111, 110, 115]⟩ (some ⟨g14, 0, none⟩) 2 [anyS, conS tNil []] 2 rfl w14 hC14 (Nat.le_refl _)).mono ?_; rintro e w15 ⟨P15, p15, Q15, q15, rfl, hK15, hB15⟩
 replace K11 := Aside0.mk (k25.K_below hB15 K11.out)
 replace K12 := Aside0.mk (k25.K_below hB15 K12.out)
 replace K13 := Aside0.mk (k25.K_below hB15 K13.out)
 replace HC := Aside0.mk (Kd.C_below HC.out hB15)
 replace HB := Aside0.mk (HB.out.trans (hB15.mono HB.out.size))
 clear hB15
 have K15 := Aside0.mk hK15
 clear hK15
 clear hC14
 go_wp2_with fail
 have hC16 := C_two K11.out K15.out
 have hA16 := below_1 w15 (.cells #[.int .i64 5, .string ⟨#[78, 105, 108]⟩, .int .i64 0, .int .i64 0, .slice P11 0 p11, .slice Q11 0 q11, .int .i64 5, .string ⟨#[67, 111, 110, 115]⟩, .int .i64 0, .int .i64 0, .slice P15 0 p15, .slice Q15 2 q15] 25)
 generalize hW : w15.alloc (.cells #[.int .i64 5, .string ⟨#[78, 105, 108]⟩, .int .i64 0, .int .i64 0, .slice P11 0 p11, .slice Q11 0 q11, .int .i64 5, .string ⟨#[67, 111, 110, 115]⟩, .int .i64 0, .int .i64 0, .slice P15 0 p15, .slice Q15 2 q15] 25) = w16 at hC16 hA16 ⊢
 generalize hG : w15.heap.size = g16 at hC16 ⊢
 clear hW hG
 replace K11 := Aside0.mk (k25.K_below hA16 K11.out)
 replace K12 := Aside0.mk (k25.K_below hA16 K12.out)
 replace K13 := Aside0.mk (k25.K_below hA16 K13.out)
 replace K15 := Aside0.mk (k25.K_below hA16 K15.out)
 replace HC := Aside0.mk (Kd.C_below HC.out hA16)
 replace HB := Aside0.mk (HB.out.trans (hA16.mono HB.out.size))
 clear hA16
 refine (cover_Check.calls 40 (fun k => k < w16.heap.size) (some ⟨g16, 0, none⟩) 2 [conS tNil [], conS tCons [anyS, conS tNil []]] Ac cc consL 0 26 w16 (Kd.V_mk (Nat.le_refl _) (Kd.C_F k25_heap hC16)) HC.out HCC.out chk3).mono ?_; rintro e w17 ⟨rfl, hB17⟩
 clear hC16
 replace HC := Aside0.mk (Kd.C_below HC.out hB17)
 replace HB := Aside0.mk (HB.out.trans (hB17.mono HB.out.size))
 clear hB17
 go_wp2_with fail
 have hC18 := C_two (k25_mk w17 ⟨1, ⟨#[]⟩, 0, 0, [], []⟩ (Nat.le_refl 0) (Kd.C_nil _ _) (Nat.le_refl 0) (Kd.C_nil _ _)) (k25_mk w17 ⟨1, ⟨#[]⟩, 1, 0, [], []⟩ (Nat.le_refl 0) (Kd.C_nil _ _) (Nat.le_refl 0) (Kd.C_nil _ _))
 have hA18 := below_1 w17 (.cells #[.int .i64 1, .string ⟨#[]⟩, .int .i64 0, .int .i64 0, .slice none 0 0, .slice none 0 0, .int .i64 1, .string ⟨#[]⟩, .int .i64 1, .int .i64 0, .slice none 0 0, .slice none 0 0] 25)
 generalize hW : w17.alloc (.cells #[.int .i64 1, .string ⟨#[]⟩, .int .i64 0, .int .i64 0, .slice none 0 0, .slice none 0 0, .int .i64 1, .string ⟨#[]⟩, .int .i64 1, .int .i64 0, .slice none 0 0, .slice none 0 0] 25) = w18 at hC18 hA18 ⊢
 generalize hG : w17.heap.size = g18 at hC18 ⊢
 clear hW hG
 replace HC := Aside0.mk (Kd.C_below HC.out hA18)
 replace HB := Aside0.mk (HB.out.trans (hA18.mono HB.out.size))
 clear hA18
 refine (cover_Check.calls 40 (fun k => k < w18.heap.size) (some ⟨g18, 0, none⟩) 2 [⟨1, ⟨#[]⟩, 0, 0, [], []⟩, ⟨1, ⟨#[]⟩, 1, 0, [], []⟩] Ac cc consL 0 26 w18 (Kd.V_mk (Nat.le_refl _) (Kd.C_F k25_heap hC18)) HC.out HCC.out chk4).mono ?_; rintro e w19 ⟨rfl, hB19⟩
 clear hC18
 replace HC := Aside0.mk (Kd.C_below HC.out hB19)
 replace HB := Aside0.mk (HB.out.trans (hB19.mono HB.out.size))
 clear hB19
 go_wp2
 go_ret
 exact ⟨rfl, HB.out⟩
end Go.Proofs.Ytikhkcnbabpneaa.P
/- Plain laws: what Check tells of few small patterns; CoverAny. -/
namespace Go.Proofs.Ytikhkcnbabpneaa.P
open Go.RowKit Go.Proofs.YtikhkcnbabpneaaW.PrintWords Go.Proofs.YtikhkcnbabpneaaW.PrintLast Go.Proofs.YtikhkcnbabpneaaW.PrintMore
set_option linter.unusedVariables false
set_option linter.unusedSimpArgs false
def meansV (cons : List S61) (rows : List (List S25)) (q : List S25) : Bool := (meansF cons 1000 rows q).getD false
def togV (cons : List S61) (l : List S25) : Bool := (togF cons 100 l).getD false
def sing (rows : List S25) : List (List S25) := rows.map fun p => [p]
def chkL (cons : List S61) (all : List (List S25)) : Nat → Nat → Int × Int
 | 0, _ => if meansV cons all [wildS] then (0, 26) else (0, 0)
 | d + 1, i => if meansV cons (all.take i) (all.getD i []) then chkL cons all d (i + 1) else ((i : Int), 27)
def chk (cons : List S61) (rows : List S25) : Int × Int :=
 if 20 < rows.length then (0, 1) else if soundB cons && rows.all (okB cons) && togV cons rows then chkL cons (sing rows) rows.length 0 else (0, 1)
theorem NW_sing (l : List S25) (h : ∀ p ∈ l, nodes p ≤ 9) : NW (sing l) ≤ 9 * l.length := by
 induction l with
 | nil => simp [sing, NW]
 | cons p t ih =>
  have h1 := ih fun x hx => h x (List.mem_cons_of_mem _ hx)
  have h2 := nw_le p
  have h3 := h p (List.mem_cons_self ..)
  simp only [sing, List.map_cons, NW, nwL_cons, nwL_nil] at h1 ⊢
  simp only [List.length_cons]
  omega
theorem sing_take (l : List S25) (i : Nat) : (sing l).take i = sing (l.take i) := by unfold sing; rw [List.map_take]
theorem sing_get (l : List S25) (i : Nat) (h : i < l.length) : (sing l).getD i [] = [l[i]] := by
 unfold sing
 rw [List.getD_eq_getElem?_getD, List.getElem?_map, List.getElem?_eq_getElem h]
 rfl
theorem sing_len (l : List S25) : (sing l).length = l.length := by simp [sing]
theorem sing_wf {cons : List S61} {l : List S25} (h : ∀ p ∈ l, okB cons p = true) : ∀ r ∈ sing l, WF cons 1 r := by
 intro r hr
 obtain ⟨p, hp, rfl⟩ := List.mem_map.1 hr
 exact ⟨rfl, fun x hx => by rw [List.mem_singleton.1 hx]; exact h p hp⟩
theorem meansV_f {cons : List S61} (hG : Good cons) {l : List S25} {p : S25} (hl : l.length ≤ 20) (hn : ∀ x ∈ l, nodes x ≤ 9) (hp : nodes p ≤ 9) (ho : ∀ x ∈ l, okB cons x = true) (hop : okB cons p = true) :
 cover_book_means.f cons (sing l) [p] = some (meansV cons (sing l) [p]) := by
 have hN := NW_sing l hn
 have h2 := nw_le p
 have hphi : Phi (sing l) [p] < 1000 := by unfold Phi; rw [nwL_cons, nwL_nil]; simp only [List.length_singleton]; omega
 obtain ⟨b, hb⟩ := means_total hG 1000 (sing l) [p] 1 (by omega) (sing_wf ho) ⟨rfl, fun x hx => by rw [List.mem_singleton.1 hx]; exact hop⟩ (by rw [sing_len]; omega) hphi
 unfold cover_book_means.f meansV
 have := hG.len
 rw [if_pos (by omega), hb]
 rfl
theorem meansV_any {cons : List S61} (hG : Good cons) {l : List S25} {p : S25} (hl : l.length ≤ 20) (hn : ∀ x ∈ l, nodes x ≤ 9) (hp : nodes p ≤ 9) (ho : ∀ x ∈ l, okB cons x = true) (hop : okB cons p = true) (ha : ∃ x ∈ l, looseB x = true) :
 meansV cons (sing l) [p] = false := by
 have hN := NW_sing l hn
 have h2 := nw_le p
 have hphi : Phi (sing l) [p] < 1000 := by unfold Phi; rw [nwL_cons, nwL_nil]; simp only [List.length_singleton]; omega
 have := means_any hG 1000 (sing l) [p] 1 (by omega) (sing_wf ho) ⟨rfl, fun x hx => by rw [List.mem_singleton.1 hx]; exact hop⟩ (by rw [sing_len]; omega) hphi
  (by
   obtain ⟨x, hx, hxl⟩ := ha
   exact ⟨[x], List.mem_map.2 ⟨x, hx, rfl⟩, fun y hy => by rw [List.mem_singleton.1 hy]; exact hxl⟩)
 unfold meansV
 rw [this]; rfl
theorem nodes_wild : nodes wildS = 1 := rfl
theorem togV_f {cons : List S61} (hG : Good cons) {l : List S25} (hl : l.length ≤ 20) (hn : ∀ x ∈ l, nodes x ≤ 9) (ho : ∀ x ∈ l, okB cons x = true) : cover_book_together.f cons l = some (togV cons l) := by
 obtain ⟨b, hb, _⟩ := tog_iff cons 9 100 l (by omega) ⟨fun p hp => ⟨ho p hp, hn p hp⟩, by omega⟩ (by omega)
 unfold cover_book_together.f togV
 have := hG.len
 rw [if_pos (by omega), hb]; rfl
theorem togV_iff {cons : List S61} {l : List S25} (hl : l.length ≤ 20) (hn : ∀ x ∈ l, nodes x ≤ 9) (ho : ∀ x ∈ l, okB cons x = true) : togV cons l = true ↔ TogP cons 9 l := by
 obtain ⟨b, hb, h⟩ := tog_iff cons 9 100 l (by omega) ⟨fun p hp => ⟨ho p hp, hn p hp⟩, by omega⟩ (by omega)
 unfold togV
 rw [hb]; exact h
theorem check_l1 {cons : List S61} (hG : Good cons) {l : List S25} (hl : l.length ≤ 20) (hn : ∀ x ∈ l, nodes x ≤ 9) (ho : ∀ x ∈ l, okB cons x = true) : ∀ d i, i + d = l.length →
 Ends (fun k => cover_Check.l1 k cons (sing l) (sing l) ((sing l).length : Int) (i : Int)) (chkL cons (sing l) d i) := by
 intro d
 induction d with
 | zero =>
  intro i hi
  have hw : cover_wild.f 1 = some [wildS] := rfl
  have hm := meansV_f hG hl hn (p := wildS) (by rw [nodes_wild]; omega) ho (ok_wild cons)
  refine Ends.step (g := fun _ => some (chkL cons (sing l) 0 i)) (Ends.const fun _ => rfl) fun k => ?_
  rw [cover_Check.l1, sing_len, if_neg (by omega), hw]
  simp only [Option.bind_some]
  rw [hm]
  simp only [Option.bind_some, chkL]
  split <;> rfl
 | succ d ih =>
  intro i hi
  have hlt : i < l.length := by omega
  have hm := meansV_f hG (l := l.take i) (p := l[i]) (by rw [List.length_take]; omega) (fun x hx => hn x (List.mem_of_mem_take hx)) (hn _ (List.getElem_mem _)) (fun x hx => ho x (List.mem_of_mem_take hx)) (ho _ (List.getElem_mem _))
  have hw : wrap64 ((i : Int) + 1) = ((i + 1 : Nat) : Int) := wrap_succ (by omega)
  have hgo : ∀ k, cover_Check.l1 (k + 1) cons (sing l) (sing l) ((sing l).length : Int) (i : Int) = if meansV cons (sing (l.take i)) [l[i]] = true then cover_Check.l1 k cons (sing l) (sing l) ((sing l).length : Int) ((i + 1 : Nat) : Int) else some ((i : Int), 27) := by
   intro k
   have hrd : rd_L6 (sing l) (i : Int) = [l[i]] := by rw [rdL_at _ i (by rw [sing_len]; exact hlt)]; simp [sing]
   rw [cover_Check.l1, if_pos (by rw [sing_len]; omega), if_pos (by omega), if_pos (by rw [sing_len]; omega), if_pos (by rw [sing_len]; omega), Int.toNat_natCast, sing_take, hrd, hm]
   simp only [Option.bind_some]
   rw [hw]
  have hch : chkL cons (sing l) (d + 1) i = if meansV cons (sing (l.take i)) [l[i]] = true then chkL cons (sing l) d (i + 1) else ((i : Int), 27) := by
   rw [chkL, sing_take, sing_get l i hlt]
  rw [hch]
  cases hb : meansV cons (sing (l.take i)) [l[i]] with
  | true =>
   simp only [hb, if_true] at hgo ⊢
   exact (ih (i + 1) (by omega)).step hgo
  | false =>
   simp only [hb, Bool.false_eq_true, if_false] at hgo ⊢
   exact Ends.step (Ends.const fun _ => rfl) hgo
theorem check_l0 {cons : List S61} (hG : Good cons) {l : List S25} (hl : l.length ≤ 20) (hn : ∀ x ∈ l, nodes x ≤ 9) : ∀ d i, i + d = l.length → (∀ x ∈ l.take i, okB cons x = true) →
 Ends (fun k => cover_Check.l0 k l cons (sing (l.take i)) l (l.length : Int) (i : Int)) (if (l.drop i).all (okB cons) && togV cons l then chkL cons (sing l) l.length 0 else (0, 1)) := by
 intro d
 induction d with
 | zero =>
  intro i hi ho
  have hti : l.take i = l := List.take_of_length_le (by omega)
  rw [hti] at ho ⊢
  rw [List.drop_of_length_le (by omega), List.all_nil, Bool.true_and]
  have ht := togV_f hG hl hn ho
  have hgo : ∀ k, cover_Check.l0 (k + 1) l cons (sing l) l (l.length : Int) (i : Int) = if togV cons l = true then cover_Check.l1 k cons (sing l) (sing l) ((sing l).length : Int) 0 else some (0, 1) := by
   intro k
   rw [cover_Check.l0, if_neg (by omega), ht]
   rfl
  cases hb : togV cons l with
  | true =>
   simp only [hb, if_true] at hgo ⊢
   exact (check_l1 hG hl hn ho l.length 0 (by omega)).step hgo
  | false =>
   simp only [hb, Bool.false_eq_true, if_false] at hgo ⊢
   exact Ends.step (Ends.const fun _ => rfl) hgo
 | succ d ih =>
  intro i hi ho
  have hlt : i < l.length := by omega
  have hm : l[i] ∈ l := List.getElem_mem _
  obtain ⟨n, hs, _⟩ := size_ends cons l[i] (by have := hn _ hm; omega)
  have hd : l.drop i = l[i] :: l.drop (i + 1) := List.drop_eq_getElem_cons hlt
  have htk : l.take (i + 1) = l.take i ++ [l[i]] := List.take_succ_eq_append_getElem hlt
  rw [hd, List.all_cons]
  have hw : wrap64 ((i : Int) + 1) = ((i + 1 : Nat) : Int) := wrap_succ (by omega)
  have hsl : (sing (l.take i)).length < 5864062014805 := by rw [sing_len, List.length_take]; omega
  have hsa : sing (l.take i) ++ [[l[i]]] = sing (l.take (i + 1)) := by unfold sing; rw [htk, List.map_append]; rfl
  have hstep : ∀ {v}, Ends (fun k => if okB cons l[i] = true then cover_Check.l0 k l cons (sing (l.take (i + 1))) l (l.length : Int) ((i + 1 : Nat) : Int) else some (0, 1)) v → Ends (fun k => cover_Check.l0 k l cons (sing (l.take i)) l (l.length : Int) (i : Int)) v := by
   intro v h
   refine Ends.step (Ends.bind hs (g := fun k bt => if bt.2 = true then (if (sing (l.take i)).length < 5864062014805 then cover_Check.l0 k l cons (sing (l.take i) ++ [[(⟨l[i].f0, l[i].f1, l[i].f2, l[i].f3, l[i].f4, l[i].f5⟩ : S25)]]) l (l.length : Int) (wrap64 ((i : Int) + 1)) else none) else some (0, 1)) ?_) fun k => ?_
   ·
    refine Ends.congr h fun k => ?_
    show (if okB cons l[i] = true then _ else _) = _
    rw [if_pos hsl, hw, eta25, hsa]
   ·
    show cover_Check.l0 (k + 1) l cons (sing (l.take i)) l (l.length : Int) (i : Int) = _
    rw [cover_Check.l0, if_pos (by omega), if_pos (by omega), if_pos (by omega), rdT_at l i hlt]
  cases hok : okB cons l[i] with
  | false =>
   rw [hok] at hstep
   rw [Bool.false_and, Bool.false_and]
   exact hstep (Ends.const fun _ => rfl)
  | true =>
   rw [hok] at hstep
   rw [Bool.true_and]
   refine hstep (Ends.congr (ih (i + 1) (by omega) fun x hx => ?_) fun k => by rw [if_pos rfl])
   rw [htk] at hx
   rcases List.mem_append.1 hx with hx | hx
   ·
    exact ho x hx
   ·
    rw [List.mem_singleton.1 hx]; exact hok
theorem check_ends {cons : List S61} (hG : Good cons) (l : List S25) (hn : ∀ x ∈ l, nodes x ≤ 9) : Ends (fun k => cover_Check.f k l cons) (chk cons l) := by
 unfold chk
 by_cases hl : 20 < l.length
 ·
  rw [if_pos hl]
  refine Ends.congr (g := fun k => cover_Check.j0 k l cons true) ?_ fun k => by unfold cover_Check.f; rw [if_pos (by omega)]
  exact Ends.step (g := fun _ => some (0, 1)) (Ends.const fun _ => rfl) fun k => by rw [cover_Check.j0, if_pos rfl]
 ·
  rw [if_neg hl]
  have hs : cover_book_sound.f cons = some (soundB cons) := by unfold cover_book_sound.f; rw [if_pos hG.len]
  refine Ends.congr (g := fun k => cover_Check.j0 k l cons (!soundB cons)) ?_ fun k => by unfold cover_Check.f; rw [if_neg (by omega), hs]; rfl
  cases soundB cons with
  | false =>
   rw [Bool.false_and, Bool.false_and]
   exact Ends.step (g := fun _ => some (0, 1)) (Ends.const fun _ => rfl) fun k => by rw [cover_Check.j0, if_pos (by decide)]
  | true =>
   rw [Bool.true_and]
   have := check_l0 hG (by omega) hn l.length 0 (by omega) (by simp)
   rw [List.drop_zero] at this
   exact this.step fun k => by rw [cover_Check.j0, if_neg (by decide)]; rfl
theorem fd0 : findC consL (consL.getD 0 z61).f0 = consL.getD 0 z61 := by kernel_rfl
theorem fd1 : findC consL (consL.getD 1 z61).f0 = consL.getD 1 z61 := by kernel_rfl
theorem fd2 : findC consL (consL.getD 2 z61).f0 = consL.getD 2 z61 := by kernel_rfl
theorem fd3 : findC consL (consL.getD 3 z61).f0 = consL.getD 3 z61 := by kernel_rfl
theorem fd4 : findC consL (consL.getD 4 z61).f0 = consL.getD 4 z61 := by kernel_rfl
theorem fd5 : findC consL (consL.getD 5 z61).f0 = consL.getD 5 z61 := by kernel_rfl
theorem fd6 : findC consL (consL.getD 6 z61).f0 = consL.getD 6 z61 := by kernel_rfl
theorem fd7 : findC consL (consL.getD 7 z61).f0 = consL.getD 7 z61 := by kernel_rfl
theorem goodL : Good consL := by
 refine ⟨fun c hc => ?_, fun c hc => ?_, by decide⟩
 ·
  have : ∀ c ∈ consL, decide (0 ≤ c.f3) && decide (c.f3 ≤ 2) := by
   intro c hc
   obtain ⟨i, hi, rfl⟩ := List.mem_iff_getElem.1 hc
   have hi8 : i < 8 := hi
   match i, hi8 with
   | 0, _ => rfl
   | 1, _ => rfl
   | 2, _ => rfl
   | 3, _ => rfl
   | 4, _ => rfl
   | 5, _ => rfl
   | 6, _ => rfl
   | 7, _ => rfl
  have := this c hc
  simpa using this
 ·
  obtain ⟨i, hi, rfl⟩ := List.mem_iff_getElem.1 hc
  have hi8 : i < 8 := hi
  match i, hi8 with
  | 0, _ => exact fd0
  | 1, _ => exact fd1
  | 2, _ => exact fd2
  | 3, _ => exact fd3
  | 4, _ => exact fd4
  | 5, _ => exact fd5
  | 6, _ => exact fd6
  | 7, _ => exact fd7
theorem soundL : soundB consL = true := by decide +kernel
theorem chk_eq {l : List S25} (hl : l.length ≤ 20) : chk consL l = if l.all (okB consL) && togV consL l then chkL consL (sing l) l.length 0 else (0, 1) := by
 unfold chk
 rw [if_neg (by omega), soundL, Bool.true_and]
theorem chkL_two (cons : List S61) (all : List (List S25)) : ∀ d i, (chkL cons all d i).2 = 26 ∨ (chkL cons all d i).2 = 0 ∨ (chkL cons all d i).2 = 27 := by
 intro d
 induction d with
 | zero => intro i; rw [chkL]; split <;> simp
 | succ d ih => intro i; rw [chkL]; split
                ·
                 exact ih (i + 1)
                ·
                 simp
theorem any_ok : okB consL anyS = true := by rw [okB_eq]; simp [anyS, plainB]
theorem any_nodes : nodes anyS = 1 := rfl
theorem tog_filter (cons : List S61) (k : Nat) {l l' : List S25} (h : l.filter (fun x => !looseB x) = l'.filter (fun x => !looseB x)) (h1 : l.length ≤ 1000000) (h2 : l'.length ≤ 1000000) : togF cons (k + 1) l = togF cons (k + 1) l' := by
 simp only [togF]
 rw [if_pos h1, if_pos h2, h]
theorem tog_any (cons : List S61) (l : List S25) (hl : l.length ≤ 20) : togV cons (anyS :: l) = togV cons l := by
 have h : (anyS :: l).filter (fun x => !looseB x) = l.filter (fun x => !looseB x) := by
  rw [List.filter_cons]
  have : looseB anyS = true := rfl
  simp [this]
 exact congrArg (fun o : Option Bool => o.getD false) (tog_filter cons 99 h (by simp; omega) (by omega))
theorem tog_last (cons : List S61) (l : List S25) (hl : l.length ≤ 20) : togV cons (l ++ [anyS]) = togV cons l := by
 have h : (l ++ [anyS]).filter (fun x => !looseB x) = l.filter (fun x => !looseB x) := by
  rw [List.filter_append]
  have : looseB anyS = true := rfl
  simp [this]
 exact congrArg (fun o : Option Bool => o.getD false) (tog_filter cons 99 h (by simp; omega) (by omega))
end Go.Proofs.Ytikhkcnbabpneaa.P
/- Plain laws: means does not hang on the order of the rows; CoverOrder. -/
namespace Go.Proofs.Ytikhkcnbabpneaa.P
open Go.RowKit Go.Proofs.YtikhkcnbabpneaaW.PrintWords Go.Proofs.YtikhkcnbabpneaaW.PrintLast Go.Proofs.YtikhkcnbabpneaaW.PrintMore
set_option linter.unusedVariables false
set_option linter.unusedSimpArgs false
theorem togP_nil (cons : List S61) : ∀ m, TogP cons m []
 | 0 => trivial
 | m + 1 => ⟨fun x hx => (by cases hx), fun p hp => (by cases hp)⟩
end Go.Proofs.Ytikhkcnbabpneaa.P