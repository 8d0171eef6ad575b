/- selvagelaw09.lives -/
import Derived.Test.YtikhkcnbabpneaaAoHB
import Derived.Test.YtikhkcnbabpneaaAoPx30
import Derived.Test.YtikhkcnbabpneaaAoPx31
import Derived.Test.YtikhkcnbabpneaaAoPx32
import Derived.Test.YtikhkcnbabpneaaAoPx33
import Derived.Test.YtikhkcnbabpneaaAoHA
namespace Go.Proofs.Ytikhkcnbabpneaa.P
open Go.RowKit Go.Proofs.YtikhkcnbabpneaaW.PrintWords Go.Proofs.YtikhkcnbabpneaaW.PrintLast Go.Proofs.YtikhkcnbabpneaaW.PrintMore
set_option linter.unusedVariables false
set_option linter.unusedSimpArgs false

theorem C_new {α : Type} {d : Kd α} {w : World} {xs : List α} {cells : List Value} (e : Nat) (hr : Reps (fun x c => d.K w x c) d.sz xs cells) (hn : xs.length ≤ 9223372036854775807) : Kd.C d (w.alloc (.cells cells.toArray e)) (some ⟨w.heap.size, 0, none⟩) xs.length xs := by
  refine ⟨rfl, hn, fun _ => ⟨_, rfl, fun j p hp => ⟨(cells.drop (j * d.sz)).take d.sz, d.K_len (hr.2 j p hp), d.K_below (below_1 w _) (hr.2 j p hp), fun i u hu => ?_⟩⟩⟩
  rw [List.getElem?_take] at hu
  split at hu
  · rw [List.getElem?_drop] at hu
    have hadd : ∀ n, (⟨w.heap.size, 0, none⟩ : Addr).add n = ⟨w.heap.size, n, none⟩ := fun n => by unfold Addr.add; split <;> simp_all
    rw [hadd, World.cell?_alloc_at _ _ _ _ rfl]
    simpa using hu
  · cases hu
theorem reps_one {α : Type} {d : Kd α} {w : World} {x : α} {c : List Value} (h : d.K w x c) : Reps (fun x c => d.K w x c) d.sz [x] ([] ++ c) := (Reps.none _ _).snoc h (d.K_len h)
def conS (name : ByteArray) (l : List S25) : S25 := ⟨5, name, 0, 0, [], l⟩
def anyS : S25 := ⟨24, ⟨#[]⟩, 0, 0, [], []⟩
theorem con_calls (name : ByteArray) (A : Option Addr) (c : Nat) (l : List S25) (n : Nat) (hn : l.length = n) (w : World) (hC : Kd.C k25 w A l.length l) (hc : l.length ≤ c) :
    Calls Try.prog 26 #[.string name, .slice A n c] w fun e w' => ∃ A4 c4 A5 c5, e = .returned (.agg #[.int .i64 5, .string name, .int .i64 0, .int .i64 0, .slice A4 0 c4, .slice A5 n c5]) ∧ k25.K w' (conS name l) [.int .i64 5, .string name, .int .i64 0, .int .i64 0, .slice A4 0 c4, .slice A5 n c5] ∧ Below w.heap.size w w' := by
  subst hn
  exact (selvagelaw09_con.calls name (fun k => k < w.heap.size) A c l _ _ _ _ _ _ w (Kd.V_mk hc (Kd.C_F k25_heap hC)) rfl).mono fun e w' ⟨v4, v5, he, h4, h5, hb⟩ => by
    obtain ⟨A4, c4, rfl⟩ := Kd.R_slice h4
    obtain ⟨A5, c5, rfl⟩ := Kd.V_slice h5
    have g4 := Kd.R_reads' h4
    have g5 := Kd.V_reads' h5
    exact ⟨A4, c4, A5, c5, he, k25_mk w' (conS name l) g4.2.1 g4.2.2 g5.2.1 g5.2.2, hb⟩
theorem any_calls (w : World) :
    Calls Try.prog 9 #[] w fun e w' => ∃ A4 c4 A5 c5, e = .returned (.agg #[.int .i64 24, .string ⟨#[]⟩, .int .i64 0, .int .i64 0, .slice A4 0 c4, .slice A5 0 c5]) ∧ k25.K w' anyS [.int .i64 24, .string ⟨#[]⟩, .int .i64 0, .int .i64 0, .slice A4 0 c4, .slice A5 0 c5] ∧ Below w.heap.size w w' :=
  (selvagelaw09_any.calls _ _ _ _ _ _ w rfl).mono fun e w' ⟨v4, v5, he, h4, h5, hb⟩ => by
    obtain ⟨A4, c4, rfl⟩ := Kd.R_slice h4
    obtain ⟨A5, c5, rfl⟩ := Kd.R_slice h5
    have g4 := Kd.R_reads' h4
    have g5 := Kd.R_reads' h5
    exact ⟨A4, c4, A5, c5, he, k25_mk w' anyS g4.2.1 g4.2.2 g5.2.1 g5.2.2, hb⟩
theorem C_two {w : World} {x y : S25} {a0 a1 a2 a3 a4 a5 b0 b1 b2 b3 b4 b5 : Value} (h : k25.K w x [a0, a1, a2, a3, a4, a5]) (k : k25.K w y [b0, b1, b2, b3, b4, b5]) :
    Kd.C k25 (w.alloc (.cells #[a0, a1, a2, a3, a4, a5, b0, b1, b2, b3, b4, b5] 25)) (some ⟨w.heap.size, 0, none⟩) [x, y].length [x, y] :=
  C_new (cells := [a0, a1, a2, a3, a4, a5, b0, b1, b2, b3, b4, b5]) 25 ((reps_one h).snoc k (k25.K_len k)) (by simp)
theorem C_three {w : World} {x y z : S25} {a0 a1 a2 a3 a4 a5 b0 b1 b2 b3 b4 b5 c0 c1 c2 c3 c4 c5 : Value} (h : k25.K w x [a0, a1, a2, a3, a4, a5]) (k : k25.K w y [b0, b1, b2, b3, b4, b5]) (l : k25.K w z [c0, c1, c2, c3, c4, c5]) :
    Kd.C k25 (w.alloc (.cells #[a0, a1, a2, a3, a4, a5, b0, b1, b2, b3, b4, b5, c0, c1, c2, c3, c4, c5] 25)) (some ⟨w.heap.size, 0, none⟩) [x, y, z].length [x, y, z] :=
  C_new (cells := [a0, a1, a2, a3, a4, a5, b0, b1, b2, b3, b4, b5, c0, c1, c2, c3, c4, c5]) 25 (((reps_one h).snoc k (k25.K_len k)).snoc l (k25.K_len l)) (by simp)
def consL : List S61 := (selvageref09_Cons.f).getD []
theorem consL_f : selvageref09_Cons.f = some consL := rfl
def tTrue : ByteArray := ⟨#[84, 114, 117, 101]⟩
def tFalse : ByteArray := ⟨#[70, 97, 108, 115, 101]⟩
def tNil : ByteArray := ⟨#[78, 105, 108]⟩
def tCons : ByteArray := ⟨#[67, 111, 110, 115]⟩
set_option maxRecDepth 100000 in
theorem chk1 : cover_Check.f 40 [conS tTrue [], conS tFalse []] consL = some (0, 0) := by decide +kernel
set_option maxRecDepth 100000 in
theorem chk2 : cover_Check.f 40 [conS tTrue [], anyS, conS tFalse []] consL = some (2, 27) := by decide +kernel
set_option maxRecDepth 100000 in
theorem chk3 : cover_Check.f 40 [conS tNil [], conS tCons [anyS, conS tNil []]] consL = some (0, 26) := by decide +kernel
set_option maxRecDepth 100000 in
theorem chk4 : cover_Check.f 40 [⟨1, ⟨#[]⟩, 0, 0, [], []⟩, ⟨1, ⟨#[]⟩, 1, 0, [], []⟩] consL = some (0, 26) := by decide +kernel
def selvagelaw09_lives.f : Option Bool := some true
set_option maxHeartbeats 8000000 in
set_option maxRecDepth 100000 in
theorem selvagelaw09_lives.calls (r : Bool) (w : World) (h : selvagelaw09_lives.f = some r) : Calls Try.prog 10 #[] w fun e w' => e = .returned (.bool r) ∧ Below w.heap.size w w' := by
  obtain rfl := Option.some.inj h
  clear h
  go_enter Try.func10, Try.ntmps10
  go_wp2_with fail
  refine (selvageref09_Cons.calls consL w consL_f).mono ?_; rintro e w1 ⟨v, rfl, hR, hB1⟩
  obtain ⟨Ac, cc, rfl⟩ := Kd.R_slice hR
  have hR' := Kd.R_reads' hR
  have HC := Aside0.mk hR'.2.2
  have HCC := Aside0.mk hR'.2.1
  have HB := Aside0.mk hB1
  have hcl : consL.length = 8 := rfl
  clear hR hR' hB1
  go_wp2_with fail
  refine (con_calls ⟨#[84, 114, 117, 101]⟩ none 0 [] 0 rfl w1 (Kd.C_nil _ _) (Nat.le_refl _)).mono ?_; rintro e w2 ⟨P2, p2, Q2, q2, rfl, hK2, hB2⟩
  replace HC := Aside0.mk (Kd.C_below HC.out hB2)
  replace HB := Aside0.mk (HB.out.trans (hB2.mono HB.out.size))
  clear hB2
  have K2 := Aside0.mk hK2
  clear hK2
  go_wp2_with fail
  refine (con_calls ⟨#[70, 97, 108, 115, 101]⟩ none 0 [] 0 rfl w2 (Kd.C_nil _ _) (Nat.le_refl _)).mono ?_; rintro e w3 ⟨P3, p3, Q3, q3, rfl, hK3, hB3⟩
  replace K2 := Aside0.mk (k25.K_below hB3 K2.out)
  replace HC := Aside0.mk (Kd.C_below HC.out hB3)
  replace HB := Aside0.mk (HB.out.trans (hB3.mono HB.out.size))
  clear hB3
  have K3 := Aside0.mk hK3
  clear hK3
  go_wp2_with fail
  have hC4 := C_two K2.out K3.out
  have hA4 := below_1 w3 (.cells #[.int .i64 5, .string ⟨#[84, 114, 117, 101]⟩, .int .i64 0, .int .i64 0, .slice P2 0 p2, .slice Q2 0 q2, .int .i64 5, .string ⟨#[70, 97, 108, 115, 101]⟩, .int .i64 0, .int .i64 0, .slice P3 0 p3, .slice Q3 0 q3] 25)
  generalize hW : w3.alloc (.cells #[.int .i64 5, .string ⟨#[84, 114, 117, 101]⟩, .int .i64 0, .int .i64 0, .slice P2 0 p2, .slice Q2 0 q2, .int .i64 5, .string ⟨#[70, 97, 108, 115, 101]⟩, .int .i64 0, .int .i64 0, .slice P3 0 p3, .slice Q3 0 q3] 25) = w4 at hC4 hA4 ⊢
  generalize hG : w3.heap.size = g4 at hC4 ⊢
  clear hW hG
  replace K2 := Aside0.mk (k25.K_below hA4 K2.out)
  replace K3 := Aside0.mk (k25.K_below hA4 K3.out)
  replace HC := Aside0.mk (Kd.C_below HC.out hA4)
  replace HB := Aside0.mk (HB.out.trans (hA4.mono HB.out.size))
  clear hA4
  refine (cover_Check.calls 40 (fun k => k < w4.heap.size) (some ⟨g4, 0, none⟩) 2 [conS tTrue [], conS tFalse []] Ac cc consL 0 0 w4 (Kd.V_mk (Nat.le_refl _) (Kd.C_F k25_heap hC4)) HC.out HCC.out chk1).mono ?_; rintro e w5 ⟨rfl, hB5⟩
  clear hC4
  replace HC := Aside0.mk (Kd.C_below HC.out hB5)
  replace HB := Aside0.mk (HB.out.trans (hB5.mono HB.out.size))
  clear hB5
  go_wp2_with fail
  refine (con_calls ⟨#[84, 114, 117, 101]⟩ none 0 [] 0 rfl w5 (Kd.C_nil _ _) (Nat.le_refl _)).mono ?_; rintro e w6 ⟨P6, p6, Q6, q6, rfl, hK6, hB6⟩
  replace HC := Aside0.mk (Kd.C_below HC.out hB6)
  replace HB := Aside0.mk (HB.out.trans (hB6.mono HB.out.size))
  clear hB6
  have K6 := Aside0.mk hK6
  clear hK6
  go_wp2_with fail
  refine (any_calls w6).mono ?_; rintro e w7 ⟨P7, p7, Q7, q7, rfl, hK7, hB7⟩
  replace K6 := Aside0.mk (k25.K_below hB7 K6.out)
  replace HC := Aside0.mk (Kd.C_below HC.out hB7)
  replace HB := Aside0.mk (HB.out.trans (hB7.mono HB.out.size))
  clear hB7
  have K7 := Aside0.mk hK7
  clear hK7
  go_wp2_with fail
  refine (con_calls ⟨#[70, 97, 108, 115, 101]⟩ none 0 [] 0 rfl w7 (Kd.C_nil _ _) (Nat.le_refl _)).mono ?_; rintro e w8 ⟨P8, p8, Q8, q8, rfl, hK8, hB8⟩
  replace K6 := Aside0.mk (k25.K_below hB8 K6.out)
  replace K7 := Aside0.mk (k25.K_below hB8 K7.out)
  replace HC := Aside0.mk (Kd.C_below HC.out hB8)
  replace HB := Aside0.mk (HB.out.trans (hB8.mono HB.out.size))
  clear hB8
  have K8 := Aside0.mk hK8
  clear hK8
  go_wp2_with fail
  have hC9 := C_three K6.out K7.out K8.out
  have hA9 := below_1 w8 (.cells #[.int .i64 5, .string ⟨#[84, 114, 117, 101]⟩, .int .i64 0, .int .i64 0, .slice P6 0 p6, .slice Q6 0 q6, .int .i64 24, .string ⟨#[]⟩, .int .i64 0, .int .i64 0, .slice P7 0 p7, .slice Q7 0 q7, .int .i64 5, .string ⟨#[70, 97, 108, 115, 101]⟩, .int .i64 0, .int .i64 0, .slice P8 0 p8, .slice Q8 0 q8] 25)
  generalize hW : w8.alloc (.cells #[.int .i64 5, .string ⟨#[84, 114, 117, 101]⟩, .int .i64 0, .int .i64 0, .slice P6 0 p6, .slice Q6 0 q6, .int .i64 24, .string ⟨#[]⟩, .int .i64 0, .int .i64 0, .slice P7 0 p7, .slice Q7 0 q7, .int .i64 5, .string ⟨#[70, 97, 108, 115, 101]⟩, .int .i64 0, .int .i64 0, .slice P8 0 p8, .slice Q8 0 q8] 25) = w9 at hC9 hA9 ⊢
  generalize hG : w8.heap.size = g9 at hC9 ⊢
  clear hW hG
  replace K6 := Aside0.mk (k25.K_below hA9 K6.out)
  replace K7 := Aside0.mk (k25.K_below hA9 K7.out)
  replace K8 := Aside0.mk (k25.K_below hA9 K8.out)
  replace HC := Aside0.mk (Kd.C_below HC.out hA9)
  replace HB := Aside0.mk (HB.out.trans (hA9.mono HB.out.size))
  clear hA9
  refine (cover_Check.calls 40 (fun k => k < w9.heap.size) (some ⟨g9, 0, none⟩) 3 [conS tTrue [], anyS, conS tFalse []] Ac cc consL 2 27 w9 (Kd.V_mk (Nat.le_refl _) (Kd.C_F k25_heap hC9)) HC.out HCC.out chk2).mono ?_; rintro e w10 ⟨rfl, hB10⟩
  clear hC9
  replace HC := Aside0.mk (Kd.C_below HC.out hB10)
  replace HB := Aside0.mk (HB.out.trans (hB10.mono HB.out.size))
  clear hB10
  go_wp2_with fail
  refine (con_calls ⟨#[78, 105, 108]⟩ none 0 [] 0 rfl w10 (Kd.C_nil _ _) (Nat.le_refl _)).mono ?_; rintro e w11 ⟨P11, p11, Q11, q11, rfl, hK11, hB11⟩
  replace HC := Aside0.mk (Kd.C_below HC.out hB11)
  replace HB := Aside0.mk (HB.out.trans (hB11.mono HB.out.size))
  clear hB11
  have K11 := Aside0.mk hK11
  clear hK11
  go_wp2_with fail
  refine (any_calls w11).mono ?_; rintro e w12 ⟨P12, p12, Q12, q12, rfl, hK12, hB12⟩
  replace K11 := Aside0.mk (k25.K_below hB12 K11.out)
  replace HC := Aside0.mk (Kd.C_below HC.out hB12)
  replace HB := Aside0.mk (HB.out.trans (hB12.mono HB.out.size))
  clear hB12
  have K12 := Aside0.mk hK12
  clear hK12
  go_wp2_with fail
  refine (con_calls ⟨#[78, 105, 108]⟩ none 0 [] 0 rfl w12 (Kd.C_nil _ _) (Nat.le_refl _)).mono ?_; rintro e w13 ⟨P13, p13, Q13, q13, rfl, hK13, hB13⟩
  replace K11 := Aside0.mk (k25.K_below hB13 K11.out)
  replace K12 := Aside0.mk (k25.K_below hB13 K12.out)
  replace HC := Aside0.mk (Kd.C_below HC.out hB13)
  replace HB := Aside0.mk (HB.out.trans (hB13.mono HB.out.size))
  clear hB13
  have K13 := Aside0.mk hK13
  clear hK13
  go_wp2_with fail
  have hC14 := C_two K12.out K13.out
  have hA14 := below_1 w13 (.cells #[.int .i64 24, .string ⟨#[]⟩, .int .i64 0, .int .i64 0, .slice P12 0 p12, .slice Q12 0 q12, .int .i64 5, .string ⟨#[78, 105, 108]⟩, .int .i64 0, .int .i64 0, .slice P13 0 p13, .slice Q13 0 q13] 25)
  generalize hW : w13.alloc (.cells #[.int .i64 24, .string ⟨#[]⟩, .int .i64 0, .int .i64 0, .slice P12 0 p12, .slice Q12 0 q12, .int .i64 5, .string ⟨#[78, 105, 108]⟩, .int .i64 0, .int .i64 0, .slice P13 0 p13, .slice Q13 0 q13] 25) = w14 at hC14 hA14 ⊢
  generalize hG : w13.heap.size = g14 at hC14 ⊢
  clear hW hG
  replace K11 := Aside0.mk (k25.K_below hA14 K11.out)
  replace K12 := Aside0.mk (k25.K_below hA14 K12.out)
  replace K13 := Aside0.mk (k25.K_below hA14 K13.out)
  replace HC := Aside0.mk (Kd.C_below HC.out hA14)
  replace HB := Aside0.mk (HB.out.trans (hA14.mono HB.out.size))
  clear hA14
  refine (con_calls ⟨#[67, 111, 110, 115]⟩ (some ⟨g14, 0, none⟩) 2 [anyS, conS tNil []] 2 rfl w14 hC14 (Nat.le_refl _)).mono ?_; rintro e w15 ⟨P15, p15, Q15, q15, rfl, hK15, hB15⟩
  replace K11 := Aside0.mk (k25.K_below hB15 K11.out)
  replace K12 := Aside0.mk (k25.K_below hB15 K12.out)
  replace K13 := Aside0.mk (k25.K_below hB15 K13.out)
  replace HC := Aside0.mk (Kd.C_below HC.out hB15)
  replace HB := Aside0.mk (HB.out.trans (hB15.mono HB.out.size))
  clear hB15
  have K15 := Aside0.mk hK15
  clear hK15
  clear hC14
  go_wp2_with fail
  have hC16 := C_two K11.out K15.out
  have hA16 := below_1 w15 (.cells #[.int .i64 5, .string ⟨#[78, 105, 108]⟩, .int .i64 0, .int .i64 0, .slice P11 0 p11, .slice Q11 0 q11, .int .i64 5, .string ⟨#[67, 111, 110, 115]⟩, .int .i64 0, .int .i64 0, .slice P15 0 p15, .slice Q15 2 q15] 25)
  generalize hW : w15.alloc (.cells #[.int .i64 5, .string ⟨#[78, 105, 108]⟩, .int .i64 0, .int .i64 0, .slice P11 0 p11, .slice Q11 0 q11, .int .i64 5, .string ⟨#[67, 111, 110, 115]⟩, .int .i64 0, .int .i64 0, .slice P15 0 p15, .slice Q15 2 q15] 25) = w16 at hC16 hA16 ⊢
  generalize hG : w15.heap.size = g16 at hC16 ⊢
  clear hW hG
  replace K11 := Aside0.mk (k25.K_below hA16 K11.out)
  replace K12 := Aside0.mk (k25.K_below hA16 K12.out)
  replace K13 := Aside0.mk (k25.K_below hA16 K13.out)
  replace K15 := Aside0.mk (k25.K_below hA16 K15.out)
  replace HC := Aside0.mk (Kd.C_below HC.out hA16)
  replace HB := Aside0.mk (HB.out.trans (hA16.mono HB.out.size))
  clear hA16
  refine (cover_Check.calls 40 (fun k => k < w16.heap.size) (some ⟨g16, 0, none⟩) 2 [conS tNil [], conS tCons [anyS, conS tNil []]] Ac cc consL 0 26 w16 (Kd.V_mk (Nat.le_refl _) (Kd.C_F k25_heap hC16)) HC.out HCC.out chk3).mono ?_; rintro e w17 ⟨rfl, hB17⟩
  clear hC16
  replace HC := Aside0.mk (Kd.C_below HC.out hB17)
  replace HB := Aside0.mk (HB.out.trans (hB17.mono HB.out.size))
  clear hB17
  go_wp2_with fail
  have hC18 := C_two (k25_mk w17 ⟨1, ⟨#[]⟩, 0, 0, [], []⟩ (Nat.le_refl 0) (Kd.C_nil _ _) (Nat.le_refl 0) (Kd.C_nil _ _)) (k25_mk w17 ⟨1, ⟨#[]⟩, 1, 0, [], []⟩ (Nat.le_refl 0) (Kd.C_nil _ _) (Nat.le_refl 0) (Kd.C_nil _ _))
  have hA18 := below_1 w17 (.cells #[.int .i64 1, .string ⟨#[]⟩, .int .i64 0, .int .i64 0, .slice none 0 0, .slice none 0 0, .int .i64 1, .string ⟨#[]⟩, .int .i64 1, .int .i64 0, .slice none 0 0, .slice none 0 0] 25)
  generalize hW : w17.alloc (.cells #[.int .i64 1, .string ⟨#[]⟩, .int .i64 0, .int .i64 0, .slice none 0 0, .slice none 0 0, .int .i64 1, .string ⟨#[]⟩, .int .i64 1, .int .i64 0, .slice none 0 0, .slice none 0 0] 25) = w18 at hC18 hA18 ⊢
  generalize hG : w17.heap.size = g18 at hC18 ⊢
  clear hW hG
  replace HC := Aside0.mk (Kd.C_below HC.out hA18)
  replace HB := Aside0.mk (HB.out.trans (hA18.mono HB.out.size))
  clear hA18
  refine (cover_Check.calls 40 (fun k => k < w18.heap.size) (some ⟨g18, 0, none⟩) 2 [⟨1, ⟨#[]⟩, 0, 0, [], []⟩, ⟨1, ⟨#[]⟩, 1, 0, [], []⟩] Ac cc consL 0 26 w18 (Kd.V_mk (Nat.le_refl _) (Kd.C_F k25_heap hC18)) HC.out HCC.out chk4).mono ?_; rintro e w19 ⟨rfl, hB19⟩
  clear hC18
  replace HC := Aside0.mk (Kd.C_below HC.out hB19)
  replace HB := Aside0.mk (HB.out.trans (hB19.mono HB.out.size))
  clear hB19
  go_wp2
  go_ret
  exact ⟨rfl, HB.out⟩
end Go.Proofs.Ytikhkcnbabpneaa.P
