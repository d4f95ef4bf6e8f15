/-
  ColumnShort: equal numbers, numbers in equal steps and numbers of a narrow range have short encodings: the law answers true whatever the input, and each argument reads behind the call as it read before.
-/
import Derived.Test.YtdhdhcllgkddnaaWp
import Derived.Test.YtdhdhcllgkddnaaWq
import Derived.Test.YtdhdhcllgkddnaaWb
import Derived.ProofKit
import Derived.Test.YtdhdhcllgkddnaaRows
set_option maxRecDepth 100000
namespace Go.Proofs.Ytdhdhcllgkddnaa.Va
open Go Go.RowKit

def flagstonelaw31_ColumnShort_c (g : List V → Ans) : Con := ⟨⟨[.rd [none], .rd [none], .rd [none], .rd [some 1]], [.plain [none]], true, g⟩, [[.bool]], [], none⟩
noncomputable def flagstonelaw31_ColumnShort_fu : Fun := ⟨[.rd [none], .rd [none], .rd [none], .rd [some 1]], [.plain [none]], true, [[.int .i64], [.int .i64], [.int .u8], [.sl 1]], Try.f4.body.getD .skip, [.tmp 8], [(0, ⟨[0, 1, 3, 9, 10, 11, 12, 13, 14], [((10, none), .own 1), ((11, none), .own 1)], false⟩), (2, ⟨[0, 1, 3, 9, 10, 11, 12, 15], [((12, none), .own 1)], false⟩)], []⟩
noncomputable def flagstonelaw31_ColumnShort_ga (G : Nat → List V → Ans) : FuncId → Option Con := conTab [(9, column_Ints_c (G 0)), (7, flagstonelaw31_awake_c (G 1))]
noncomputable def Rflagstonelaw31_ColumnShort (N : Nat) (G : Nat → List V → Ans) (xs : List V) : Ans := flagstonelaw31_ColumnShort_fu.run optAlg Try.prog (flagstonelaw31_ColumnShort_ga G) N xs
noncomputable def Lflagstonelaw31_ColumnShort_0 (N : Nat) (G : Nat → List V → Ans) (n : Nat) (i0 : Int) (i1 : Int) (l3 : List V) (i9 : Int) (i13 : Int) (i14 : Int) (l10 : List V) (l11 : List V) : Ans := flagstonelaw31_ColumnShort_fu.go optAlg Try.prog (flagstonelaw31_ColumnShort_ga G) N [V.bool false, V.bool false, V.bool false, V.bool false] (look (0 : Nat) [((0 : Nat), n)]) 0 false (mkSt [((0 : Nat), D.v (V.int IntKind.i64 i0)), ((1 : Nat), D.v (V.int IntKind.i64 i1)), ((3 : Nat), D.v (V.sl (1 : Nat) l3)), ((9 : Nat), D.v (V.int IntKind.i64 i9)), ((10 : Nat), D.own (110000 : Nat) (0 : Nat) (0 : Nat) l10.length), ((11 : Nat), D.own (111000 : Nat) (0 : Nat) (0 : Nat) l11.length), ((12 : Nat), D.v V.nil), ((13 : Nat), D.v (V.int IntKind.i64 i13)), ((14 : Nat), D.v (V.int IntKind.i64 i14))] [((110000 : Nat), RS.mk (0 : Nat) (some (Reg.mk (Body.row (1 : Nat) l10) false))), ((111000 : Nat), RS.mk (0 : Nat) (some (Reg.mk (Body.row (1 : Nat) l11) false)))])
noncomputable def Lflagstonelaw31_ColumnShort_2 (N : Nat) (G : Nat → List V → Ans) (n : Nat) (i0 : Int) (i1 : Int) (l3 : List V) (i9 : Int) (i15 : Int) (l10 : List V) (l11 : List V) (l12 : List V) : Ans := flagstonelaw31_ColumnShort_fu.go optAlg Try.prog (flagstonelaw31_ColumnShort_ga G) N [V.bool false, V.bool false, V.bool false, V.bool false] (look (0 : Nat) [((2 : Nat), n)]) 2 false (mkSt [((0 : Nat), D.v (V.int IntKind.i64 i0)), ((1 : Nat), D.v (V.int IntKind.i64 i1)), ((3 : Nat), D.v (V.sl (1 : Nat) l3)), ((9 : Nat), D.v (V.int IntKind.i64 i9)), ((10 : Nat), D.own (110000 : Nat) (0 : Nat) (0 : Nat) l10.length), ((11 : Nat), D.own (111000 : Nat) (0 : Nat) (0 : Nat) l11.length), ((12 : Nat), D.own (112000 : Nat) (0 : Nat) (0 : Nat) l12.length), ((15 : Nat), D.v (V.int IntKind.i64 i15))] [((110000 : Nat), RS.mk (0 : Nat) (some (Reg.mk (Body.row (1 : Nat) l10) false))), ((111000 : Nat), RS.mk (0 : Nat) (some (Reg.mk (Body.row (1 : Nat) l11) false))), ((112000 : Nat), RS.mk (0 : Nat) (some (Reg.mk (Body.row (1 : Nat) l12) false)))])
theorem Rflagstonelaw31_ColumnShort_eq (N : Nat) (G : Nat → List V → Ans) (v0 : V) (v1 : V) (v2 : V) (v3 : V) : Rflagstonelaw31_ColumnShort N G [v0, v1, v2, v3] =
  (asInt IntKind.i64 v0).bind fun i0 => (asInt IntKind.i64 v1).bind fun i1 => (asInt IntKind.u8 v2).bind fun i2 => (asSl (1 : Nat) v3).bind fun l3 => Option.bind (G (1 : Nat) []) fun p4 => if p4.fst.length = (1 : Nat) ∧ p4.snd.length = (0 : Nat) then p4.fst[(0 : Nat)]?.bind fun v5 => (asBool v5).bind fun b6 => bif !b6 then some ([V.bool false], []) else Lflagstonelaw31_ColumnShort_0 N G N i0 i1 l3 (IntKind.i64.wrap ((1 : Int) + (IntKind.i64.wrap i2).tmod (200 : Int))) i0 (0 : Int) [] [] else none := by kernel_rfl
theorem Lflagstonelaw31_ColumnShort_0_eq (N : Nat) (G : Nat → List V → Ans) (n : Nat) (i0 : Int) (i1 : Int) (l3 : List V) (i9 : Int) (i13 : Int) (i14 : Int) (l10 : List V) (l11 : List V) : Lflagstonelaw31_ColumnShort_0 N G (n + 1) i0 i1 l3 i9 i13 i14 l10 l11 =
  bif decide (i14 < i9) then if (0 : Nat) = (0 : Nat) ∧ l10.length = l10.length then if room (l10.length + (1 : Nat)) (8 : Nat) then if (0 : Nat) = (0 : Nat) ∧ l11.length = l11.length then if room (l11.length + (1 : Nat)) (8 : Nat) then Lflagstonelaw31_ColumnShort_0 N G n i0 i1 l3 i9 (IntKind.i64.wrap (IntKind.u64.wrap (IntKind.u64.wrap i13 + IntKind.u64.wrap i1))) (IntKind.i64.wrap (i14 + (1 : Int))) (l10 ++ [V.int IntKind.i64 i0]) (l11 ++ [V.int IntKind.i64 i13]) else none else none else none else none else Lflagstonelaw31_ColumnShort_2 N G N i0 i1 l3 i9 (0 : Int) l10 l11 [] := by kernel_rfl
theorem Lflagstonelaw31_ColumnShort_2_eq (N : Nat) (G : Nat → List V → Ans) (n : Nat) (i0 : Int) (i1 : Int) (l3 : List V) (i9 : Int) (i15 : Int) (l10 : List V) (l11 : List V) (l12 : List V) : Lflagstonelaw31_ColumnShort_2 N G (n + 1) i0 i1 l3 i9 i15 l10 l11 l12 =
  bif decide (i15 < (↑l3.length : Int)) then bif decide (i15 < (200 : Int)) then if (0 : Int) ≤ i15 ∧ i15 < (↑l3.length : Int) then l3[i15.toNat]?.bind fun v7 => v7.cells[(0 : Nat)]?.bind fun v8 => (asBool v8).bind fun b9 => bif b9 then if (0 : Nat) = (0 : Nat) ∧ l12.length = l12.length then if room (l12.length + (1 : Nat)) (8 : Nat) then Lflagstonelaw31_ColumnShort_2 N G n i0 i1 l3 i9 (IntKind.i64.wrap (i15 + (1 : Int))) l10 l11 (l12 ++ [V.int IntKind.i64 (IntKind.i64.wrap ((if (4611686018427387904 : Int) < i0 then (4611686018427387904 : Int) else i0) + (1 : Int)))]) else none else none else if (0 : Nat) = (0 : Nat) ∧ l12.length = l12.length then if room (l12.length + (1 : Nat)) (8 : Nat) then Lflagstonelaw31_ColumnShort_2 N G n i0 i1 l3 i9 (IntKind.i64.wrap (i15 + (1 : Int))) l10 l11 (l12 ++ [V.int IntKind.i64 (if (4611686018427387904 : Int) < i0 then (4611686018427387904 : Int) else i0)]) else none else none else none else Option.bind (G (0 : Nat) [V.sl (1 : Nat) (List.take l10.length (List.drop (0 : Nat) l10))]) fun p10 => if p10.fst.length = (1 : Nat) ∧ p10.snd.length = (0 : Nat) then p10.fst[(0 : Nat)]?.bind fun v11 => (asSl (1 : Nat) v11).bind fun l12_1 => bif decide ((↑l12_1.length : Int) ≤ (16 : Int)) then Option.bind (G (0 : Nat) [V.sl (1 : Nat) (List.take l11.length (List.drop (0 : Nat) l11))]) fun p13 => if p13.fst.length = (1 : Nat) ∧ p13.snd.length = (0 : Nat) then p13.fst[(0 : Nat)]?.bind fun v14 => (asSl (1 : Nat) v14).bind fun l15 => bif decide ((↑l15.length : Int) ≤ IntKind.i64.wrap ((13 : Int) + IntKind.i64.wrap ((10 : Int) * i9))) then Option.bind (G (0 : Nat) [V.sl (1 : Nat) (List.take l12.length (List.drop (0 : Nat) l12))]) fun p16 => if p16.fst.length = (1 : Nat) ∧ p16.snd.length = (0 : Nat) then p16.fst[(0 : Nat)]?.bind fun v17 => (asSl (1 : Nat) v17).bind fun l18 => bif decide ((↑l18.length : Int) ≤ IntKind.i64.wrap ((14 : Int) + IntKind.i64.wrap ((IntKind.i64.wrap ((↑l12.length : Int) + (7 : Int))).tdiv (8 : Int)))) then bif decide (i1 < (-60 : Int)) then some ([V.bool true], []) else bif decide (i1 > (60 : Int)) then some ([V.bool true], []) else Option.bind (G (0 : Nat) [V.sl (1 : Nat) (List.take l11.length (List.drop (0 : Nat) l11))]) fun p19 => if p19.fst.length = (1 : Nat) ∧ p19.snd.length = (0 : Nat) then p19.fst[(0 : Nat)]?.bind fun v20 => (asSl (1 : Nat) v20).bind fun l21 => some ([V.bool (decide ((↑l21.length : Int) ≤ IntKind.i64.wrap ((13 : Int) + i9)))], []) else none else some ([V.bool false], []) else none else some ([V.bool false], []) else none else some ([V.bool false], []) else none else Option.bind (G (0 : Nat) [V.sl (1 : Nat) (List.take l10.length (List.drop (0 : Nat) l10))]) fun p22 => if p22.fst.length = (1 : Nat) ∧ p22.snd.length = (0 : Nat) then p22.fst[(0 : Nat)]?.bind fun v23 => (asSl (1 : Nat) v23).bind fun l24 => bif decide ((↑l24.length : Int) ≤ (16 : Int)) then Option.bind (G (0 : Nat) [V.sl (1 : Nat) (List.take l11.length (List.drop (0 : Nat) l11))]) fun p25 => if p25.fst.length = (1 : Nat) ∧ p25.snd.length = (0 : Nat) then p25.fst[(0 : Nat)]?.bind fun v26 => (asSl (1 : Nat) v26).bind fun l27 => bif decide ((↑l27.length : Int) ≤ IntKind.i64.wrap ((13 : Int) + IntKind.i64.wrap ((10 : Int) * i9))) then Option.bind (G (0 : Nat) [V.sl (1 : Nat) (List.take l12.length (List.drop (0 : Nat) l12))]) fun p28 => if p28.fst.length = (1 : Nat) ∧ p28.snd.length = (0 : Nat) then p28.fst[(0 : Nat)]?.bind fun v29 => (asSl (1 : Nat) v29).bind fun l30 => bif decide ((↑l30.length : Int) ≤ IntKind.i64.wrap ((14 : Int) + IntKind.i64.wrap ((IntKind.i64.wrap ((↑l12.length : Int) + (7 : Int))).tdiv (8 : Int)))) then bif decide (i1 < (-60 : Int)) then some ([V.bool true], []) else bif decide (i1 > (60 : Int)) then some ([V.bool true], []) else Option.bind (G (0 : Nat) [V.sl (1 : Nat) (List.take l11.length (List.drop (0 : Nat) l11))]) fun p31 => if p31.fst.length = (1 : Nat) ∧ p31.snd.length = (0 : Nat) then p31.fst[(0 : Nat)]?.bind fun v32 => (asSl (1 : Nat) v32).bind fun l33 => some ([V.bool (decide ((↑l33.length : Int) ≤ IntKind.i64.wrap ((13 : Int) + i9)))], []) else none else some ([V.bool false], []) else none else some ([V.bool false], []) else none else some ([V.bool false], []) else none := by kernel_rfl
theorem flagstonelaw31_ColumnShort_sound (N : Nat) (G : Nat → List V → Ans) (hC : ConstOk (flagstonelaw31_ColumnShort_ga G)) (h : ∀ f s, specs (flagstonelaw31_ColumnShort_ga G) f = some s → Sound Try.prog f s) : Sound Try.prog 4 (flagstonelaw31_ColumnShort_c (Rflagstonelaw31_ColumnShort N G)).spec :=
  sound_fun (u := flagstonelaw31_ColumnShort_fu) (nt := 105) mixed hC h Try.func4 (by rfl) (by kernel_rfl) (by kernel_rfl) (by kernel_rfl) (by kernel_rfl) (by decide) (by rfl)
noncomputable def flagstonelaw31_ColumnShort_G : Nat → List V → Ans := look (fun _ => none) [(0, column_Ints), (1, flagstonelaw31_awake)]
noncomputable def flagstonelaw31_ColumnShort : List V → Ans := Rflagstonelaw31_ColumnShort N0 flagstonelaw31_ColumnShort_G
theorem flagstonelaw31_ColumnShort_ok : Sound Try.prog 4 (flagstonelaw31_ColumnShort_c flagstonelaw31_ColumnShort).spec := flagstonelaw31_ColumnShort_sound N0 flagstonelaw31_ColumnShort_G (const_cons (const_none rfl) (const_cons (const_none rfl) const_nil)) (conTab_ok (List.forall_mem_cons.2 ⟨column_Ints_ok, (List.forall_mem_cons.2 ⟨flagstonelaw31_awake_ok, (by simp)⟩)⟩))
end Go.Proofs.Ytdhdhcllgkddnaa.Va

namespace Go.Proofs.Ytdhdhcllgkddnaa.Va
open Go Go.RowKit

theorem pick_le (a b : List UInt8) : (pick a b).length ≤ a.length ∧ (pick a b).length ≤ b.length := by unfold pick; split <;> omega
theorem intsB_le {l : List Int} (h : l ≠ []) {k : Nat} (h1 : 1 ≤ k) (h5 : k ≤ 5) : (intsB l).length ≤ (encB k l).length := by
  unfold intsB
  rw [if_neg h]
  have a2 := pick_le (encB 1 l) (encB 2 l)
  have a3 := pick_le (pick (encB 1 l) (encB 2 l)) (encB 3 l)
  have a4 := pick_le (pick (pick (encB 1 l) (encB 2 l)) (encB 3 l)) (encB 4 l)
  have a5 := pick_le (pick (pick (pick (encB 1 l) (encB 2 l)) (encB 3 l)) (encB 4 l)) (encB 5 l)
  rcases (by omega : k = 1 ∨ k = 2 ∨ k = 3 ∨ k = 4 ∨ k = 5) with rfl | rfl | rfl | rfl | rfl <;> omega
theorem zig_nat (n : Nat) : zig (n : Int) = 2 * n := by unfold zig; rw [if_neg (by omega)]; omega
theorem zig_small {s : Int} (h : -60 ≤ s ∧ s ≤ 60) : zig s < 128 := by unfold zig; split <;> omega
theorem grp1 {n : Int} {u : Nat} (e : zig n = u) (h : u < 128) : (grp (zig n)).length = 1 := by rw [g_of e h]; rfl
theorem grp2 {u : Nat} (h : u < 16384) : (grp u).length ≤ 2 := grp_len 1 u h
theorem headB_len {k : Nat} {l : List Int} (h1 : 1 ≤ k) (h5 : k ≤ 5) (hl : l.length ≤ 200) : (headB k l).length ≤ 3 := by
  have e1 : (grp (zig (k : Int))).length = 1 := grp1 (zig_nat k) (by omega)
  have e2 : (grp (zig (l.length : Int))).length ≤ 2 := grp2 (by rw [zig_nat]; omega)
  simp only [headB, List.length_append]
  omega
theorem short_same {a : Int} {k : Nat} (ha : I64 a) (h1 : 1 ≤ k) (hk : k ≤ 200) : (intsB (List.replicate k a)).length ≤ 16 := by
  obtain ⟨m, rfl⟩ : ∃ m, k = m + 1 := ⟨k - 1, by omega⟩
  have h0 : List.replicate (m + 1) a ≠ [] := by simp
  have h := intsB_le h0 (k := 2) (by omega) (by omega)
  have hh := headB_len (k := 2) (l := List.replicate (m + 1) a) (by omega) (by omega) (by simpa using hk)
  have hr := runsB_rep a [] (by simp) m
  rw [List.append_nil] at hr
  have g1 := grp_zig_len ha
  have g2 : (grp (zig ((m + 1 : Nat) : Int))).length ≤ 2 := grp2 (by rw [zig_nat]; omega)
  have e : (encB 2 (List.replicate (m + 1) a)).length ≤ 15 := by
    have hb : bodyB 2 (List.replicate (m + 1) a) = runsB (List.replicate (m + 1) a) := rfl
    have hn : (runsB []).length = 0 := by rw [runsB]; rfl
    rw [encB, hb, hr]
    simp only [List.length_append, hn]
    omega
  omega
theorem short_plain {l : List Int} (hI : ∀ x ∈ l, I64 x) (h0 : l ≠ []) (hl : l.length ≤ 200) : (intsB l).length ≤ 3 + 10 * l.length := by
  have h := intsB_le h0 (k := 1) (by omega) (by omega)
  have hh := headB_len (k := 1) (l := l) (by omega) (by omega) hl
  have hp := plainB_len hI
  have e : (encB 1 l).length ≤ 3 + 10 * l.length := by
    simp only [encB, bodyB, List.length_append]
    simp
    omega
  omega
theorem stepsFrom_short {step : Int} (hs : -60 ≤ step ∧ step ≤ 60) : ∀ (l : List Int) (p : Int), (∀ i (h : i < l.length), IntKind.i64.wrap (l[i] - (p :: l)[i]'(by simp; omega)) = step) → (stepsFrom p l).length ≤ l.length := by
  intro l
  induction l with
  | nil => intro p _; simp [stepsFrom]
  | cons x l ih =>
    intro p h
    have h0 := h 0 (by simp)
    simp only [List.getElem_cons_zero] at h0
    have := ih x fun i hi => h (i + 1) (by simpa using hi)
    have e : (grp (zig step)).length = 1 := grp1 (u := zig step) rfl (zig_small hs)
    simp only [stepsFrom, List.length_append, h0, e, List.length_cons]
    omega
theorem short_steps {step x : Int} {l : List Int} (hs : -60 ≤ step ∧ step ≤ 60) (hl : (x :: l).length ≤ 200) (h : ∀ i (h : i < l.length), IntKind.i64.wrap (l[i] - (x :: l)[i]'(by simp; omega)) = step) : (intsB (x :: l)).length ≤ 13 + (x :: l).length := by
  have h3 := intsB_le (l := x :: l) (by simp) (k := 3) (by omega) (by omega)
  have hh := headB_len (k := 3) (l := x :: l) (by omega) (by omega) hl
  have hp := stepsFrom_short hs l x h
  have g1 := grp_zig_len (wrap_in (x - 0))
  have e : (encB 3 (x :: l)).length ≤ 13 + l.length := by
    simp only [encB, bodyB, List.length_append]
    simp [stepsB, stepsFrom] at g1 ⊢
    omega
  simp only [List.length_cons]
  omega
theorem wid_one {u : Nat} (h : u ≤ 1) : wid u ≤ 1 := wid_le 1 u (by omega)
theorem short_bits {y : Int} {l : List Int} (hI : ∀ x ∈ l, I64 x) (h : ∀ x ∈ l, x = y ∨ x = y + 1) (hl : l.length ≤ 200) : (intsB l).length ≤ 14 + (l.length + 7) / 8 := by
  by_cases h0 : l = []
  · subst h0; simp [intsB]
  have h5 := intsB_le h0 (k := 5) (by omega) (by omega)
  have hh := headB_len (k := 5) (l := l) (by omega) (by omega) hl
  have m1 := minL_facts h0
  have m2 := maxL_facts h0
  have a1 := h _ m1.1
  have a2 := h _ m2.1
  have hw : widthL l ≤ 1 := wid_one (by omega)
  have g1 := grp_zig_len (hI _ m1.1)
  have g2 : (grp (zig (widthL l : Int))).length = 1 := grp1 (zig_nat _) (by omega)
  have hm : l.length * widthL l ≤ l.length := by
    have := Nat.mul_le_mul_left l.length hw
    omega
  have hp : (packB (minL l) (widthL l) l).length ≤ (l.length + 7) / 8 := by
    simp only [packB, List.length_map, packOut_length, List.length_replicate]
    exact Nat.div_le_div_right (by omega)
  have e : (encB 5 l).length ≤ 14 + (l.length + 7) / 8 := by
    simp only [encB, bodyB, List.length_append]
    simp [bitsB]
    omega
  omega

end Go.Proofs.Ytdhdhcllgkddnaa.Va

namespace Go.Proofs.Ytdhdhcllgkddnaa.Va
open Go Go.RowKit

def boV (l : List Bool) : List V := l.map V.bool
@[simp] theorem boV_length (l : List Bool) : (boV l).length = l.length := by simp [boV]
@[simp] theorem boV_getElem {l : List Bool} {i : Nat} (h : i < (boV l).length) : (boV l)[i]'h = V.bool (l[i]'(by simpa using h)) := by simp [boV]

theorem steps_size {n : Nat} (h : n ≤ 200) : IntKind.i64.wrap (14 + IntKind.i64.wrap ((IntKind.i64.wrap ((n : Int) + 7)).tdiv 8)) = ((14 + (n + 7) / 8 : Nat) : Int) := by
  rw [wrap_i64 (n := (n : Int) + 7) (by omega) (by omega), Int.tdiv_eq_ediv_of_nonneg (by omega), wrap_i64 (n := ((n : Int) + 7) / 8) (by omega) (by omega), wrap_i64 (by omega) (by omega)]
  omega

theorem short_end {i0 i1 : Int} {K : Nat} {S T B : List Int} (hK : K ≤ 200) (hB : B.length ≤ 200)
    (gS : flagstonelaw31_ColumnShort_G 0 [.sl 1 (intV S)] = some ([.sl 1 (byV (intsB S))], []))
    (gT : flagstonelaw31_ColumnShort_G 0 [.sl 1 (intV T)] = some ([.sl 1 (byV (intsB T))], []))
    (gB : flagstonelaw31_ColumnShort_G 0 [.sl 1 (intV B)] = some ([.sl 1 (byV (intsB B))], []))
    (hS : (intsB S).length ≤ 16) (hT : (intsB T).length ≤ 13 + 10 * K) (hT' : -60 ≤ i1 ∧ i1 ≤ 60 → (intsB T).length ≤ 13 + K) (hBs : (intsB B).length ≤ 14 + (B.length + 7) / 8)
    {l : List Bool} {i : Nat} (hi : l.length ≤ i ∨ 200 ≤ i) (hi2 : i ≤ 200) (k : Nat) :
    Lflagstonelaw31_ColumnShort_2 N0 flagstonelaw31_ColumnShort_G (k + 1) i0 i1 (boV l) K i (intV S) (intV T) (intV B) = some ([.bool true], []) := by
  rw [Lflagstonelaw31_ColumnShort_2_eq]
  have e1 : IntKind.i64.wrap (13 + IntKind.i64.wrap (10 * (K : Int))) = ((13 + 10 * K : Nat) : Int) := by
    rw [wrap_i64 (n := 10 * (K : Int)) (by omega) (by omega), wrap_i64 (by omega) (by omega)]; omega
  have e2 : IntKind.i64.wrap (13 + (K : Int)) = ((13 + K : Nat) : Int) := by
    rw [wrap_i64 (by omega) (by omega)]; omega
  have e3 := steps_size hB
  have c1 : ((intsB S).length : Int) ≤ 16 := by omega
  have c2 : ((intsB T).length : Int) ≤ ((13 + 10 * K : Nat) : Int) := by omega
  have c3 : ((intsB B).length : Int) ≤ ((14 + (B.length + 7) / 8 : Nat) : Int) := by omega
  have m1 : decide (((intsB S).length : Int) ≤ 16) = true := decide_eq_true c1
  have hhead : ((decide ((i : Int) < (l.length : Int))) = false) ∨ (decide ((i : Int) < (l.length : Int)) = true ∧ decide ((i : Int) < 200) = false) := by
    rcases hi with h | h
    · exact .inl (decide_eq_false (by omega))
    · by_cases h' : (i : Int) < (l.length : Int)
      · exact .inr ⟨decide_eq_true h', decide_eq_false (by omega)⟩
      · exact .inl (decide_eq_false h')
  simp only [List.take_length, List.drop_zero, boV_length]
  by_cases q : -60 ≤ i1 ∧ i1 ≤ 60
  · have q1 : ¬ i1 < -60 := by omega
    have q2 : ¬ 60 < i1 := by omega
    have c4 := hT' q
    rcases hhead with h1 | ⟨h1, h2⟩
    · rw [h1]
      simp [gS, gT, gB, e1, e2, e3, q1, q2, m1, hT, hBs, c4, -List.all_eq_true, -Int.natCast_add]
    · rw [h1, h2]
      simp [gS, gT, gB, e1, e2, e3, q1, q2, m1, hT, hBs, c4, -List.all_eq_true, -Int.natCast_add]
  · rcases (by omega : i1 < -60 ∨ (¬ i1 < -60 ∧ 60 < i1)) with q1 | ⟨q1, q2⟩
    · rcases hhead with h1 | ⟨h1, h2⟩
      · rw [h1]
        simp [gS, gT, gB, e1, e3, q1, m1, hT, hBs, -List.all_eq_true, -Int.natCast_add]
      · rw [h1, h2]
        simp [gS, gT, gB, e1, e3, q1, m1, hT, hBs, -List.all_eq_true, -Int.natCast_add]
    · rcases hhead with h1 | ⟨h1, h2⟩
      · rw [h1]
        simp [gS, gT, gB, e1, e3, q1, q2, m1, hT, hBs, -List.all_eq_true, -Int.natCast_add]
      · rw [h1, h2]
        simp [gS, gT, gB, e1, e3, q1, q2, m1, hT, hBs, -List.all_eq_true, -Int.natCast_add]

def limY (i0 : Int) : Int := if 4611686018427387904 < i0 then 4611686018427387904 else i0
theorem limY_I64 {i0 : Int} (h : I64 i0) : I64 (limY i0) ∧ IntKind.i64.wrap (limY i0 + 1) = limY i0 + 1 ∧ I64 (limY i0 + 1) := by
  have h1 : I64 (limY i0) ∧ I64 (limY i0 + 1) := by unfold I64 at *; unfold limY; split <;> omega
  exact ⟨h1.1, wrap_i64 h1.2.1 h1.2.2, h1.2⟩

theorem short_bits_loop {i0 i1 : Int} {K : Nat} {S T : List Int} (hI0 : I64 i0) (hK : K ≤ 200)
    (gS : flagstonelaw31_ColumnShort_G 0 [.sl 1 (intV S)] = some ([.sl 1 (byV (intsB S))], []))
    (gT : flagstonelaw31_ColumnShort_G 0 [.sl 1 (intV T)] = some ([.sl 1 (byV (intsB T))], []))
    (hS : (intsB S).length ≤ 16) (hT : (intsB T).length ≤ 13 + 10 * K) (hT' : -60 ≤ i1 ∧ i1 ≤ 60 → (intsB T).length ≤ 13 + K)
    {l : List Bool} : ∀ (d i : Nat) (B : List Int) (k : Nat), i + d = 200 → d < k → B.length = i → (∀ x ∈ B, x = limY i0 ∨ x = limY i0 + 1) →
    Lflagstonelaw31_ColumnShort_2 N0 flagstonelaw31_ColumnShort_G k i0 i1 (boV l) K i (intV S) (intV T) (intV B) = some ([.bool true], []) := by
  have hY := limY_I64 hI0
  have fin : ∀ (i : Nat) (B : List Int) (k : Nat), i ≤ 200 → B.length = i → (∀ x ∈ B, x = limY i0 ∨ x = limY i0 + 1) → (l.length ≤ i ∨ 200 ≤ i) →
      Lflagstonelaw31_ColumnShort_2 N0 flagstonelaw31_ColumnShort_G (k + 1) i0 i1 (boV l) K i (intV S) (intV T) (intV B) = some ([.bool true], []) := by
    intro i B k hi hB hm ho
    have hBI : ∀ x ∈ B, I64 x := fun x hx => by rcases hm x hx with h | h <;> rw [h]; exact hY.1; exact hY.2.2
    exact short_end hK (by omega) gS gT (column_Ints_eq' hBI (by omega)) hS hT hT' (short_bits hBI hm (by omega)) ho hi k
  intro d
  induction d with
  | zero =>
    intro i B k hd hk hB hm
    obtain ⟨k, rfl, _⟩ := rounds hk
    exact fin i B k (by omega) hB hm (.inr (by omega))
  | succ d ih =>
    intro i B k hd hk hB hm
    obtain ⟨k, rfl, hk⟩ := rounds hk
    by_cases h : i < l.length
    · rw [Lflagstonelaw31_ColumnShort_2_eq]
      have h2 : (i : Int) < 200 := by omega
      have r : room (B.length + 1) 8 := room8 (by omega)
      have ey : (if 4611686018427387904 < i0 then 4611686018427387904 else i0) = limY i0 := rfl
      have step : ∀ y, (y = limY i0 ∨ y = limY i0 + 1) → Lflagstonelaw31_ColumnShort_2 N0 flagstonelaw31_ColumnShort_G k i0 i1 (boV l) K ((i : Int) + 1) (intV S) (intV T) (intV (B ++ [y])) = some ([.bool true], []) := fun y hy =>
        ih (i + 1) (B ++ [y]) k (by omega) (by omega) (by simp; omega) (fun x hx => by
          rcases List.mem_append.1 hx with hx | hx
          · exact hm x hx
          · simp only [List.mem_singleton] at hx; rw [hx]; exact hy)
      have e1 : ∀ y, intV B ++ [V.int .i64 y] = intV (B ++ [y]) := fun y => by simp [intV]
      simp only [List.take_length, List.drop_zero, ey, hY.2.1, e1, wrap_succ (i := i) (by omega)]
      have s1 := step (limY i0) (.inl rfl)
      have s2 := step (limY i0 + 1) (.inr rfl)
      cases hb : l[i] <;> simp [h, h2, r, hb, s1, s2, -List.all_eq_true]
    · exact fin i B k (by omega) hB hm (.inl (by omega))

def nextX (step x : Int) : Int := IntKind.i64.wrap (IntKind.u64.wrap (IntKind.u64.wrap x + IntKind.u64.wrap step))
def stepsL (step : Int) : Nat → Int → List Int
  | 0, _ => []
  | n + 1, x => x :: stepsL step n (nextX step x)
@[simp] theorem stepsL_length (step : Int) : ∀ n x, (stepsL step n x).length = n
  | 0, _ => rfl
  | n + 1, x => by simp [stepsL, stepsL_length step n]
theorem nextX_sub {step x : Int} (hs : I64 step) : IntKind.i64.wrap (nextX step x - x) = step := by
  have e : ∀ n : Int, IntKind.i64.wrap n = if n % 18446744073709551616 ≥ 9223372036854775808 then n % 18446744073709551616 - 18446744073709551616 else n % 18446744073709551616 := fun n => by simp [IntKind.wrap, IntKind.bits, IntKind.signed]
  unfold nextX
  simp only [wrap_u64, e]
  unfold I64 at hs
  split <;> split <;> omega
theorem stepsL_I64 {step : Int} : ∀ (n : Nat) {x : Int}, I64 x → ∀ y ∈ stepsL step n x, I64 y
  | 0, _, _, y, hy => by simp [stepsL] at hy
  | n + 1, x, h, y, hy => by
    simp only [stepsL, List.mem_cons] at hy
    rcases hy with rfl | hy
    · exact h
    · exact stepsL_I64 n (wrap_in _) y hy
theorem stepsL_diff {step : Int} (hs : I64 step) : ∀ (n : Nat) (x : Int) (i : Nat) (h : i < (stepsL step n (nextX step x)).length), IntKind.i64.wrap ((stepsL step n (nextX step x))[i] - (x :: stepsL step n (nextX step x))[i]'(by simp at h ⊢; omega)) = step
  | 0, x, i, h => by simp at h
  | n + 1, x, 0, h => by simp only [stepsL, List.getElem_cons_zero]; exact nextX_sub hs
  | n + 1, x, i + 1, h => by
    have := stepsL_diff hs n (nextX step x) i (by simpa using h)
    simpa only [stepsL, List.getElem_cons_succ] using this

theorem short_loop (N : Nat) (G : Nat → List V → Ans) {i0 i1 : Int} {K : Nat} (hK : K ≤ 200) (l : List V) :
    ∀ (d i : Nat) (x : Int) (A B : List Int) (k : Nat), i + d = K → d < k → A.length = i → B.length = i →
    Lflagstonelaw31_ColumnShort_0 N G k i0 i1 l K x i (intV A) (intV B) =
      Lflagstonelaw31_ColumnShort_2 N G N i0 i1 l K 0 (intV (A ++ List.replicate d i0)) (intV (B ++ stepsL i1 d x)) [] := by
  intro d
  induction d with
  | zero =>
    intro i x A B k hd hk hA hB
    obtain ⟨k, rfl, _⟩ := rounds hk
    rw [Lflagstonelaw31_ColumnShort_0_eq]
    have h : ¬ i < K := by omega
    simp [h, stepsL]
  | succ d ih =>
    intro i x A B k hd hk hA hB
    obtain ⟨k, rfl, hk⟩ := rounds hk
    rw [Lflagstonelaw31_ColumnShort_0_eq]
    have h : i < K := by omega
    have r1 : room (A.length + 1) 8 := room8 (by omega)
    have r2 : room (B.length + 1) 8 := room8 (by omega)
    have e1 : ∀ (C : List Int) y, intV C ++ [V.int .i64 y] = intV (C ++ [y]) := fun C y => by simp [intV]
    have s := ih (i + 1) (nextX i1 x) (A ++ [i0]) (B ++ [x]) k (by omega) (by omega) (by simp; omega) (by simp; omega)
    simp only [e1, wrap_succ (i := i) (by omega)]
    simp only [nextX, List.append_assoc, List.cons_append, List.nil_append, Int.natCast_add, Int.natCast_one] at s
    have e2 : List.replicate (d + 1) i0 = i0 :: List.replicate d i0 := rfl
    have e3 : stepsL i1 (d + 1) x = x :: stepsL i1 d (nextX i1 x) := rfl
    rw [e2, e3]
    simp [h, r1, r2, s, nextX]

theorem flagstonelaw31_ColumnShort_eq' {first step : Int} {n : Int} {l : List Bool} (h1 : I64 first) (h2 : I64 step) (hn : 0 ≤ n ∧ n < 256) :
    flagstonelaw31_ColumnShort [.int .i64 first, .int .i64 step, .int .u8 n, .sl 1 (boV l)] = some ([.bool true], []) := by
  have g2 : flagstonelaw31_ColumnShort_G 1 [] = some ([.bool true], []) := flagstonelaw31_awake_eq'
  obtain ⟨K, hK, hK1, hK2⟩ : ∃ K : Nat, IntKind.i64.wrap (1 + (IntKind.i64.wrap n).tmod 200) = (K : Int) ∧ 1 ≤ K ∧ K ≤ 200 := by
    refine ⟨(1 + n % 200).toNat, ?_, by omega, by omega⟩
    rw [wrap_i64 (n := n) (by omega) (by omega), Int.tmod_eq_emod_of_nonneg hn.1, wrap_i64 (by omega) (by omega)]
    omega
  have hS : ∀ x ∈ List.replicate K first, I64 x := fun x hx => by rw [(List.mem_replicate.1 hx).2]; exact h1
  have hT : ∀ x ∈ stepsL step K first, I64 x := stepsL_I64 K h1
  have hT0 : stepsL step K first ≠ [] := fun e => by have := congrArg List.length e; simp at this; omega
  unfold flagstonelaw31_ColumnShort
  rw [Rflagstonelaw31_ColumnShort_eq]
  have w := short_loop N0 flagstonelaw31_ColumnShort_G (i0 := first) (i1 := step) (K := K) hK2 (boV l) K 0 first [] [] N0 (by omega) (N0_pos (by omega)) rfl rfl
  have b := short_bits_loop (i0 := first) (i1 := step) (K := K) (S := List.replicate K first) (T := stepsL step K first) h1 hK2
    (column_Ints_eq' hS (by simp; omega)) (column_Ints_eq' hT (by simp; omega)) (short_same h1 hK1 hK2)
    (by have := short_plain hT hT0 (by simp; omega); simp at this; omega)
    (fun hs => by
      obtain ⟨m, rfl⟩ : ∃ m, K = m + 1 := ⟨K - 1, by omega⟩
      have := short_steps (x := first) (l := stepsL step m (nextX step first)) hs (by simp; omega) (stepsL_diff h2 m first)
      simpa [stepsL] using this)
    (l := l) 200 0 [] N0 (by omega) (N0_pos (by omega)) rfl (by simp)
  simp only [List.nil_append] at w
  have en : intV [] = [] := rfl
  rw [en] at w b
  simp only [Int.natCast_zero] at w b
  simp [g2, hK, w, b, -List.all_eq_true]

end Go.Proofs.Ytdhdhcllgkddnaa.Va

namespace Go.Proofs.Ytdhdhcllgkddnaa.Va
open Go Go.RowKit Go.ChangeShapes Go.WideShapes Go.ChangeAt

variable {H : Type} {enc : TypeId × Value → H} {P : Program} {W : World}

/-- What a call leaves of the old. -/
abbrev OldOf (W : World) : Nat → Prop := fun b => b < W.heap.size

theorem cell_old {a : Addr} {u : Value} (h : W.cell? a = some u) : a.block < W.heap.size := by
  unfold World.cell? at h
  split at h
  · rename_i hb
    exact (Array.getElem?_eq_some_iff.1 hb).1
  · cases h

/-- A slice of integers, read. -/
theorem rv_ints {t e : TypeId} {k : IntKind} {v : Value} {d : DataW H} {ps : List MemPlace} (ht : P.underlying t = some (.slice e)) (he : P.underlying e = some (.int k)) (hc : P.cellsOf e = 1)
    (h1 : v.cells.toList = [v]) (h : DataW.Trod enc P W 0 (fun _ => true) true t v d ps) : ∃ l : List Int, (∀ n ∈ l, (Lit.int k n).wf = true) ∧ RV W (OldOf W) (.sl 1 (l.map (V.int k))) v ∧ v.cells.toList = [v] := by
  obtain ⟨fuel, hf⟩ := h
  rcases open_ints ht he hc hf with ⟨hcs, _⟩ | ⟨a, len, cap, zs, hcs, _, hlc, hcm, hzl, _, hcell, hwf⟩
  · rw [h1] at hcs
    simp only [List.cons.injEq, and_true] at hcs
    subst hcs
    exact ⟨[], by simp, .sl0 1, rfl⟩
  · rw [h1] at hcs
    simp only [List.cons.injEq, and_true] at hcs
    subst hcs
    simp only [if_true] at hzl
    refine ⟨zs.take len, fun n hn => hwf n (List.mem_of_mem_take hn), ?_, rfl⟩
    have hlen : ((zs.take len).map (V.int k)).length = len := by simp; omega
    have := RV.sl (w := W) (F := OldOf W) 1 ((zs.take len).map (V.int k)) a cap (fun i _ => .int k (zs.getD i 0)) (fun hne => ?_) (by rw [hlen]; exact hlc) hcm (fun x hx => by
        obtain ⟨y, _, rfl⟩ := List.mem_map.1 hx; rfl) (fun i c x y hx hy => ?_) (fun i c x y hx hy => rfl) (fun i c x y hx hy => ?_)
    · rw [hlen] at this
      exact this
    · have h0 : 0 < zs.length := by
        rcases Nat.eq_zero_or_pos zs.length with h | h
        · exact absurd (by rw [List.eq_nil_of_length_eq_zero h]; simp) hne
        · exact h
      have := cell_old (hcell 0 h0)
      rwa [block_add] at this
    · simp only [List.getElem?_map, Option.map_eq_some_iff] at hx
      obtain ⟨z, hz, rfl⟩ := hx
      have hi := (List.getElem?_eq_some_iff.1 hz).1
      simp only [List.length_take] at hi
      have hc0 : c = 0 := by
        have := (List.getElem?_eq_some_iff.1 hy).1
        simp [V.cells] at this
        exact this
      subst hc0
      simpa using hcell i (by omega)
    · simp only [List.getElem?_map, Option.map_eq_some_iff] at hx
      obtain ⟨z, hz, rfl⟩ := hx
      have hc0 : c = 0 := by
        have := (List.getElem?_eq_some_iff.1 hy).1
        simp [V.cells] at this
        exact this
      subst hc0
      simp only [V.cells, List.getElem?_cons_zero, Option.some.injEq] at hy
      subst hy
      rw [List.getElem?_take] at hz
      split at hz
      · rw [List.getD_eq_getElem?_getD, hz]
        exact .int k z
      · cases hz

/-- A law that answers true, of a world that has grown. -/
theorem sound_law {f : FuncId} {c : List V → Ans} {ms : List Mode} {rk zk : List (List CK)} (hs : Sound P f (Con.mk ⟨ms, [.plain [none]], true, c⟩ rk zk none).spec) {xs : List V} (hc : c xs = some ([.bool true], [])) {vals : List Value}
    (ha : ArgsOk W (OldOf W) ms xs vals [] []) : Calls P f vals.toArray W fun e w' => e = .returned (.bool true) ∧ Below W.heap.size W w' := by
  have := hs.2 xs [.bool true] [] hc W (OldOf W) vals [] [] (fun _ h => h) (by simp) List.nodup_nil ha
  refine this.mono fun e w' he => ?_
  obtain ⟨vs, F', rfl, h1, h2, h3, h4, h5, _, _, _, _, hr, _⟩ := he
  cases hr with
  | plain hv hrest =>
    cases hrest
    rw [hv.bool_inv]
    exact ⟨rfl, h1, h2, h3, h4, fun k hk => h5 k hk (by simp)⟩

end Go.Proofs.Ytdhdhcllgkddnaa.Va

namespace Go.Proofs.Ytdhdhcllgkddnaa.Va
open Go Go.RowKit Go.ChangeShapes Go.WideShapes Go.ChangeAt

variable {H : Type} {enc : TypeId × Value → H} {P : Program} {W : World}

/-- A slice of elements of one cell each, read. 'good': what reading tells of an element. -/
theorem rv_elems {α : Type} {t e : TypeId} {v : Value} {d : DataW H} {ps : List MemPlace} (toV : α → V) (toVal : α → Value) (good : α → Prop) (ht : P.underlying t = some (.slice e)) (hc : P.cellsOf e = 1)
    (he : ∀ n cs y, DataW.trod enc P W 0 (fun _ => true) true n e cs = some y → ∃ x : α, cs = [toVal x] ∧ good x)
    (hcells : ∀ x, (toV x).cells = [toV x]) (hone : ∀ x, (toVal x).oneCell' = true) (hrv : ∀ x, RV W (OldOf W) (toV x) (toVal x))
    (h1 : v.cells.toList = [v]) (h : DataW.Trod enc P W 0 (fun _ => true) true t v d ps) : ∃ l : List α, (∀ x ∈ l, good x) ∧ RV W (OldOf W) (.sl 1 (l.map toV)) v ∧ v.cells.toList = [v] := by
  obtain ⟨fuel, hf⟩ := h
  rcases DataW.trod_slice ht hf with ⟨hcs, _⟩ | ⟨a, len, cap, elems, rest, n, _, hcs, _, _, hlc, hcm, hlen, hel, _, _⟩
  · rw [h1] at hcs
    simp only [List.cons.injEq, and_true] at hcs
    subst hcs
    exact ⟨[], by simp, .sl0 1, rfl⟩
  · rw [h1] at hcs
    simp only [List.cons.injEq, and_true] at hcs
    subst hcs
    have each : ∀ i, i < len → ∃ x : α, W.cell? (a.add i) = some (toVal x) ∧ good x := by
      intro i hi
      have hb := hel i hi
      rw [List.getElem?_eq_getElem (by omega), hc, Nat.mul_one, Option.bind_eq_some_iff] at hb
      obtain ⟨cs', hcs, hy⟩ := hb
      obtain ⟨x, rfl, hg⟩ := he _ _ _ hy
      exact ⟨x, cell_of_cells?_one hcs, hg⟩
    have all : ∀ m, m ≤ len → ∃ l : List α, l.length = m ∧ (∀ x ∈ l, good x) ∧ ∀ i x, l[i]? = some x → W.cell? (a.add i) = some (toVal x) := by
      intro m
      induction m with
      | zero => intro _; exact ⟨[], rfl, by simp, by simp⟩
      | succ m ih =>
        intro hm
        obtain ⟨l, hl, hg, hl2⟩ := ih (by omega)
        obtain ⟨x, hx, hgx⟩ := each m (by omega)
        refine ⟨l ++ [x], by simp [hl], fun y hy => ?_, fun i y hy => ?_⟩
        · rcases List.mem_append.1 hy with hy | hy
          · exact hg y hy
          · simp only [List.mem_singleton] at hy; rw [hy]; exact hgx
        · rw [List.getElem?_append] at hy
          split at hy
          · exact hl2 i y hy
          · rename_i hi
            have hi0 : i - l.length = 0 := by
              have := (List.getElem?_eq_some_iff.1 hy).1
              simp at this
              omega
            rw [hi0] at hy
            simp only [List.getElem?_cons_zero, Option.some.injEq] at hy
            subst hy
            have : i = m := by omega
            rw [this]
            exact hx
    obtain ⟨l, hl, hg, hcell⟩ := all len (Nat.le_refl _)
    refine ⟨l, hg, ?_, rfl⟩
    have hlm : (l.map toV).length = len := by simp [hl]
    have c0 : ∀ (x : α) (c : Nat) (y : V), (toV x).cells[c]? = some y → c = 0 ∧ y = toV x := by
      intro x c y hy
      rw [hcells] at hy
      have := (List.getElem?_eq_some_iff.1 hy).1
      simp at this
      subst this
      simp at hy
      exact ⟨rfl, hy.symm⟩
    by_cases h0 : l = []
    · subst h0
      simp only [List.length_nil] at hl
      subst hl
      exact .sl (w := W) (F := OldOf W) 1 [] a cap (fun _ _ => .bool true) (fun h => absurd rfl h) (Nat.zero_le _) hcm (by simp) (by simp) (by simp) (by simp)
    · obtain ⟨x0, hx0⟩ : ∃ x, x ∈ l := by
        cases l with
        | nil => exact absurd rfl h0
        | cons x l => exact ⟨x, by simp⟩
      have := RV.sl (w := W) (F := OldOf W) 1 (l.map toV) a cap (fun i _ => toVal (l[i]?.getD x0)) (fun _ => ?_) (by rw [hlm]; exact hlc) hcm (fun x hx => by
          obtain ⟨y, _, rfl⟩ := List.mem_map.1 hx; rw [hcells]; rfl) (fun i c x y hx hy => ?_) (fun i c x y hx hy => hone _) (fun i c x y hx hy => ?_)
      · rw [hlm] at this
        exact this
      · have hp : 0 < l.length := List.length_pos_of_mem hx0
        have := cell_old (hcell 0 _ (List.getElem?_eq_getElem hp))
        rwa [block_add] at this
      · simp only [List.getElem?_map, Option.map_eq_some_iff] at hx
        obtain ⟨z, hz, rfl⟩ := hx
        obtain ⟨rfl, _⟩ := c0 z c y hy
        have := hcell i z hz
        rw [hz]
        simpa using this
      · simp only [List.getElem?_map, Option.map_eq_some_iff] at hx
        obtain ⟨z, hz, rfl⟩ := hx
        obtain ⟨_, rfl⟩ := c0 z c y hy
        rw [hz]
        exact hrv z

/-- A slice of bools, read. -/
theorem rv_bools {t e : TypeId} {v : Value} {d : DataW H} {ps : List MemPlace} (ht : P.underlying t = some (.slice e)) (he : P.underlying e = some .bool) (hc : P.cellsOf e = 1)
    (h1 : v.cells.toList = [v]) (h : DataW.Trod enc P W 0 (fun _ => true) true t v d ps) : ∃ l : List Bool, RV W (OldOf W) (.sl 1 (l.map V.bool)) v := by
  obtain ⟨l, _, h, _⟩ := rv_elems V.bool Value.bool (fun _ => True) ht hc (fun n cs y hy => by
    obtain ⟨b, rfl, _⟩ := DataW.trod_bool he hy
    exact ⟨b, rfl, trivial⟩) (fun _ => rfl) (fun _ => rfl) (fun b => .bool b) h1 h
  exact ⟨l, h⟩

end Go.Proofs.Ytdhdhcllgkddnaa.Va

namespace Go.Proofs.Ytdhdhcllgkddnaa
open Go.ChangeShapes Go.WideShapes Go.ChangeAt Go.RowKit
open Va

theorem Try.own : ownKnob Try.prog.godebug = none := by kernel_rfl
theorem Try.laidOut : laidOutB Try.prog = true := by kernel_rfl

set_option maxRecDepth 100000 in
theorem columnShort_lifted (os : Os) (started : os.Started) (H : Type) (enc : TypeId × Value → H) :
    ReturnsInHanded {} Try.checked os 4 .any (Rows.columnShortSpec.pre6 enc Try.prog Try.f4 Rows.columnShortRow.domain false) (Rows.columnShortSpec.post enc Try.prog Try.f4 false true false false) := by
  refine returnsInHanded_of_change (C := Try.checked) Try.own started (by kernel_rfl) Try.func4
    (ChangeSpec.witness6 (enc := enc) (C := Try.checked) false ⟨#[], #[.int .i64 0, .int .i64 0, .int .u8 0, .slice none 0 0], []⟩ 8 (by kernel_rfl) (by kernel_rfl) (by kernel_rfl) (by kernel_rfl)) ?_
  intro W base args ds gs before hval0 hW hcnd _
  have hval : ∀ (j : Nat) t v, Try.f4.params[j]? = some t → args[j]? = some v → Value.okWide Try.prog W .any base t v := hval0
  have hW' := hW
  obtain ⟨p, q, hA0, hV, rfl, hfz, hnd⟩ := hW
  have hA : DataW.TrodAll enc Try.prog W 0 (fun _ => true) true Try.f4.params.toList args.toList ds p := hA0
  rw [Try.params4] at hA hval
  obtain ⟨v0, v1, v2, v3, d0, d1, d2, d3, p0, p1, p2, p3, rfl, rfl, rfl, h0, h1, h2, h3⟩ := trodAll_four hA
  obtain ⟨rfl, rfl⟩ := trodVars_none hV
  simp only [List.append_nil] at hW'
  have hlt : ∀ x ∈ p0 ++ p1 ++ p2 ++ p3, x.block < W.heap.size := fun x hx => by have := hW'.lt x (by simpa using hx); simpa using this
  obtain ⟨a3, n3, c3, rfl⟩ := okWide_slice Try.underlying29 (hval 3 29 v3 rfl rfl)
  obtain ⟨x0, rfl, hd0, hp0, w0⟩ := open_int Try.underlying3 (hval 0 3 v0 rfl rfl) h0
  obtain ⟨x1, rfl, hd1, hp1, w1⟩ := open_int Try.underlying3 (hval 1 3 v1 rfl rfl) h1
  obtain ⟨x2, rfl, hd2, hp2, w2⟩ := open_int Try.underlying5 (hval 2 5 v2 rfl rfl) h2
  obtain ⟨l, r3⟩ := rv_bools Try.underlying29 Try.underlying4 (by kernel_rfl) rfl h3
  have e1 : IntKind.i64.min = -9223372036854775808 := rfl
  have e2 : IntKind.i64.max = 9223372036854775807 := rfl
  have e3 : IntKind.u8.min = 0 := rfl
  have e4 : IntKind.u8.max = 255 := rfl
  have i0 : I64 x0 := by simp [Lit.wf, e1, e2] at w0; unfold I64; omega
  have i1 : I64 x1 := by simp [Lit.wf, e1, e2] at w1; unfold I64; omega
  have i2 : 0 ≤ x2 ∧ x2 < 256 := by simp [Lit.wf, e3, e4] at w2; omega
  refine (sound_law flagstonelaw31_ColumnShort_ok (flagstonelaw31_ColumnShort_eq' (l := l) i0 i1 i2) (.rd (.int .i64 x0) (.rd (.int .i64 x1) (.rd (.int .u8 x2) (.rd r3 .nil))))).mono fun e W' ⟨he, hb⟩ => ?_
  subst he
  have k0 := Below.trod Try.laidOut (by kernel_rfl) (of_decide_eq_true (by kernel_rfl)) h0 hb fun x hx => hlt x (by simp [hx])
  have k1 := Below.trod Try.laidOut (by kernel_rfl) (of_decide_eq_true (by kernel_rfl)) h1 hb fun x hx => hlt x (by simp [hx])
  have k2 := Below.trod Try.laidOut (by kernel_rfl) (of_decide_eq_true (by kernel_rfl)) h2 hb fun x hx => hlt x (by simp [hx])
  have k3 := Below.trod Try.laidOut (by kernel_rfl) (of_decide_eq_true (by kernel_rfl)) h3 hb fun x hx => hlt x (by simp [hx])
  exact ⟨_, rfl, ⟨_, _, _, [], _, [], hW', trodAll_mk1 (shut_bool Try.underlying4 _), trodAll_mk4 k0 k1 k2 k3, rfl, hb.frame _, fun h => by cases h⟩⟩

theorem columnShort_holds : Rows.ColumnShortSaid :=
  OpenClaim.holds_of_wide 4 Try.f4 rfl rfl rfl rfl rfl rfl rfl ⟨rfl, rfl, rfl, rfl, rfl⟩ rfl rfl rfl rfl rfl (by kernel_rfl) Try.func4 (by kernel_rfl)
    (of_decide_eq_true (by kernel_rfl)) (by unfold Func.isWrapper; first | (rw [if_pos (by decide +kernel)]; kernel_rfl) | (rw [if_neg (by decide +kernel)]; exact ⟨rfl, rfl⟩))
    (fun os started H enc _ => columnShort_lifted os started H enc)

#print axioms columnShort_holds
end Go.Proofs.Ytdhdhcllgkddnaa
