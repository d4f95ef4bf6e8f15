/-
  Laws of the functions: what each returns.
-/
import Derived.Test.YtdhdhcllgkddnaaGreatWm
import Derived.Test.YtdhdhcllgkddnaaGreatWp
namespace Go.Proofs.YtdhdhcllgkddnaaGreat.Va
open Go Go.RowKit

theorem groups_loop (N : Nat) (G : Nat → List V → Ans) : ∀ (j u : Nat) (e : List UInt8) (k : Nat), u < 128 ^ (j + 1) → u < 18446744073709551616 → j < k → e.length + j ≤ 100 →
    Lwire_groups_0 N G k u (byV e) = some ([.sl 1 (byV (e ++ grp u))], []) := by
  intro j
  induction j with
  | zero =>
    intro u e k hu hu2 hk he
    obtain ⟨k, rfl, _⟩ := rounds hk
    have hu : u < 128 := by simpa using hu
    rw [Lwire_groups_0_eq, grp, if_pos hu]
    simp only [List.take_length]
    have hw : IntKind.u8.wrap u = ((UInt8.ofNat u).toNat : Int) := by rw [wrap_u8, UInt8.toNat_ofNat']; omega
    have hr : room (e.length + 1) 1 := room1 (by omega)
    have hb : ¬ (128 : Int) ≤ u := by omega
    simp [hb, hr, hw, byV]
  | succ j ih =>
    intro u e k hu hu2 hk he
    obtain ⟨k, rfl, hk⟩ := rounds hk
    rw [Lwire_groups_0_eq, grp]
    simp only [List.take_length]
    have hr : room (e.length + 1) 1 := room1 (by omega)
    by_cases hb : u < 128
    · have hw : IntKind.u8.wrap u = ((UInt8.ofNat u).toNat : Int) := by rw [wrap_u8, UInt8.toNat_ofNat']; omega
      have hb' : ¬ (128 : Int) ≤ u := by omega
      simp [hb, hb', hr, hw, byV]
    · have hor : bits BinOp.or IntKind.u8 (IntKind.u8.wrap u) 128 = ((UInt8.ofNat (u % 128 + 128)).toNat : Int) := by rw [or128, UInt8.toNat_ofNat']; omega
      have hsh : (u : Int).fdiv 128 = ((u / 128 : Nat) : Int) := fdiv_pow u 7
      have hb' : (128 : Int) ≤ u := by omega
      have hih := ih (u / 128) (e ++ [UInt8.ofNat (u % 128 + 128)]) k (by rw [Nat.pow_succ] at hu; omega) (by omega) (by omega) (by simp; omega)
      have he1 : byV e ++ [V.int .u8 ((UInt8.ofNat (u % 128 + 128)).toNat : Int)] = byV (e ++ [UInt8.ofNat (u % 128 + 128)]) := by simp [byV]
      rw [if_neg hb]
      simp only [hor, hsh, he1, hih]
      simp [hb', hr]

theorem wire_groups_eq {n : Int} (h : I64 n) : wire_groups [.int .i64 n] = some ([.sl 1 (byV (grp (zig n)))], []) := by
  have hz := zig_lt h.1 h.2
  have hb := zig_bits h.1 h.2
  have e1 : (2 : Int) ^ (min 1 IntKind.u64.bits) = 2 := by decide
  have e2 : (2 : Int) ^ (min 63 IntKind.i64.bits) = 9223372036854775808 := by decide
  rw [e1, e2] at hb
  unfold wire_groups
  rw [Rwire_groups_eq]
  have := groups_loop N0 wire_groups_G 9 (zig n) [] N0 (Nat.lt_trans hz (by decide)) hz (N0_pos (by decide)) (by simp)
  simp only [asInt_int, Option.bind_some, hb]
  simpa using this

theorem wire_own_eq {a b : List UInt8} (h : a.length + b.length ≤ 140737488355328) : wire_own [.sl 1 (byV a), .sl 1 (byV b)] = some ([.sl 1 (byV (a ++ b))], []) := by
  have e1 : IntKind.i64.wrap ((a.length : Int) + (b.length : Int)) = ((a.length + b.length : Nat) : Int) := by rw [wrap_i64] <;> omega
  have e2 : (0 : Int) ≤ (a.length : Int) + (b.length : Int) := by omega
  have e3 : (a.length : Int) + (b.length : Int) ≤ 281474976710656 := by omega
  have e4 : (a.length : Int) + (b.length : Int) ≤ 9223372036854775807 := by omega
  have r1 : room a.length 1 := room1 (by omega)
  have r2 : room (a.length + b.length) 1 := room1 h
  unfold wire_own
  rw [Rwire_own_eq]
  simp only [List.take_length]
  simp [e1, e2, e3, e4, r1, r2, -List.all_eq_true]

theorem wire_PutNumber_eq {a : List UInt8} {n : Int} (h : I64 n) (ha : a.length ≤ 100000000000000) : wire_PutNumber [.sl 1 (byV a), .int .i64 n] = some ([.sl 1 (byV (a ++ grp (zig n)))], []) := by
  have hg := grp_len 9 (zig n) (Nat.lt_trans (zig_lt h.1 h.2) (by decide))
  have h1 : wire_PutNumber_G 0 [.int .i64 n] = some ([.sl 1 (byV (grp (zig n)))], []) := wire_groups_eq h
  have h2 : wire_PutNumber_G 1 [.sl 1 (byV a), .sl 1 (byV (grp (zig n)))] = some ([.sl 1 (byV (a ++ grp (zig n)))], []) := wire_own_eq (by omega)
  unfold wire_PutNumber
  rw [Rwire_PutNumber_eq]
  simp only [List.take_length]
  simp [h1, h2, -List.all_eq_true]

end Go.Proofs.YtdhdhcllgkddnaaGreat.Va

namespace Go.Proofs.YtdhdhcllgkddnaaGreat.Va
open Go Go.RowKit

theorem intV_get {l : List Int} {i : Nat} (h : i < l.length) : (intV l)[i]? = some (.int .i64 l[i]) := by simp [intV, h]
theorem byV_get {l : List UInt8} {i : Nat} (h : i < l.length) : (byV l)[i]? = some (.int .u8 l[i].toNat) := by simp [byV, h]
theorem wrap_succ {i : Nat} (h : i < 9223372036854775807) : IntKind.i64.wrap ((i : Int) + 1) = (i : Int) + 1 := by rw [wrap_i64] <;> omega

theorem column_putPlain_loop {l : List Int} (hI : ∀ x ∈ l, I64 x) (hl : l.length ≤ 1000000) : ∀ (d i : Nat) (b : List UInt8) (k : Nat), i + d = l.length → d < k → b.length + 10 * d ≤ 90000000000000 →
    Lcolumn_putPlain_0 N0 column_putPlain_G k (byV b) (intV l) l.length i = some ([.sl 1 (byV (b ++ plainB (l.drop i)))], []) := by
  intro d
  induction d with
  | zero =>
    intro i b k hd hk hb
    obtain ⟨k, rfl, _⟩ := rounds hk
    rw [Lcolumn_putPlain_0_eq]
    have hi : ¬ i < l.length := by omega
    rw [List.drop_of_length_le (by omega)]
    simp [hi, plainB]
  | succ d ih =>
    intro i b k hd hk hb
    obtain ⟨k, rfl, hk⟩ := rounds hk
    have hi : i < l.length := by omega
    have hx := hI _ (List.getElem_mem hi)
    have hgl := grp_zig_len hx
    have hcall : column_putPlain_G 0 [.sl 1 (byV b), .int .i64 l[i]] = some ([.sl 1 (byV (b ++ grp (zig l[i])))], []) := wire_PutNumber_eq hx (by omega)
    have := ih (i + 1) (b ++ grp (zig l[i])) k (by omega) (by omega) (by simp; omega)
    rw [Lcolumn_putPlain_0_eq, List.drop_eq_getElem_cons hi, plainB_cons]
    simp only [List.take_length, List.drop_zero]
    simp [hi, intV_get hi, hcall, wrap_succ (i := i) (by omega)]
    simpa using this

theorem column_putPlain_eq' {l : List Int} {b : List UInt8} (hI : ∀ x ∈ l, I64 x) (hl : l.length ≤ 1000000) (hb : b.length ≤ 1000000) : column_putPlain [.sl 1 (byV b), .sl 1 (intV l)] = some ([.sl 1 (byV (b ++ plainB l))], []) := by
  unfold column_putPlain
  rw [Rcolumn_putPlain_eq]
  simpa using column_putPlain_loop hI hl l.length 0 b N0 (by omega) (N0_pos (by omega)) (by omega)

theorem column_putSteps_loop {l : List Int} (hI : ∀ x ∈ l, I64 x) (hl : l.length ≤ 1000000) : ∀ (d i : Nat) (p : Int) (b : List UInt8) (k : Nat), i + d = l.length → d < k → b.length + 10 * d ≤ 90000000000000 →
    Lcolumn_putSteps_0 N0 column_putSteps_G k (byV b) p (intV l) l.length i = some ([.sl 1 (byV (b ++ stepsFrom p (l.drop i)))], []) := by
  intro d
  induction d with
  | zero =>
    intro i p b k hd hk hb
    obtain ⟨k, rfl, _⟩ := rounds hk
    rw [Lcolumn_putSteps_0_eq]
    have hi : ¬ i < l.length := by omega
    rw [List.drop_of_length_le (by omega)]
    simp [hi, stepsFrom]
  | succ d ih =>
    intro i p b k hd hk hb
    obtain ⟨k, rfl, hk⟩ := rounds hk
    have hi : i < l.length := by omega
    have hx := wrap_in (l[i] - p)
    have hgl := grp_zig_len hx
    have hcall : column_putSteps_G 0 [.sl 1 (byV b), .int .i64 (IntKind.i64.wrap (l[i] - p))] = some ([.sl 1 (byV (b ++ grp (zig (IntKind.i64.wrap (l[i] - p)))))], []) := wire_PutNumber_eq hx (by omega)
    have := ih (i + 1) l[i] (b ++ grp (zig (IntKind.i64.wrap (l[i] - p)))) k (by omega) (by omega) (by simp; omega)
    rw [Lcolumn_putSteps_0_eq, List.drop_eq_getElem_cons hi, stepsFrom]
    simp only [List.take_length, List.drop_zero]
    simp [hi, intV_get hi, hcall, wrap_succ (i := i) (by omega)]
    simpa using this

theorem column_putSteps_eq' {l : List Int} {b : List UInt8} (hI : ∀ x ∈ l, I64 x) (hl : l.length ≤ 1000000) (hb : b.length ≤ 1000000) : column_putSteps [.sl 1 (byV b), .sl 1 (intV l)] = some ([.sl 1 (byV (b ++ stepsB l))], []) := by
  unfold column_putSteps
  rw [Rcolumn_putSteps_eq]
  simpa [stepsB] using column_putSteps_loop hI hl l.length 0 0 b N0 (by omega) (N0_pos (by omega)) (by omega)

theorem column_putRuns_inner {l : List Int} (hI : ∀ x ∈ l, I64 x) (hl : l.length ≤ 1000000) {b : List UInt8} {i m : Nat} (hi : i < l.length) (hb : b.length ≤ 90000000000000) : ∀ (d j k : Nat), j + d = l.length → d < k → i ≤ j → (i = j → 0 < d) →
    l.drop i = List.replicate (j - i) l[i] ++ l.drop j →
    ∃ j', i < j' ∧ j' ≤ l.length ∧ l.drop i = List.replicate (j' - i) l[i] ++ l.drop j' ∧ (∀ y, (l.drop j').head? = some y → y ≠ l[i]) ∧
      Lcolumn_putRuns_2 N0 column_putRuns_G k m (byV b) (intV l) i j = Lcolumn_putRuns_0 N0 column_putRuns_G m (byV (b ++ (grp (zig l[i]) ++ grp (zig ((j' - i : Nat) : Int))))) (intV l) j' := by
  intro d
  have hx := hI _ (List.getElem_mem hi)
  have hgl := grp_zig_len hx
  have fin : ∀ j, i < j → j ≤ l.length → column_putRuns_G 0 [.sl 1 (byV b), .int .i64 l[i]] = some ([.sl 1 (byV (b ++ grp (zig l[i])))], []) ∧
      column_putRuns_G 0 [.sl 1 (byV (b ++ grp (zig l[i]))), .int .i64 (IntKind.i64.wrap ((j : Int) - (i : Int)))] = some ([.sl 1 (byV (b ++ grp (zig l[i]) ++ grp (zig ((j - i : Nat) : Int))))], []) := fun j h1 h2 => by
    have e : IntKind.i64.wrap ((j : Int) - (i : Int)) = ((j - i : Nat) : Int) := by rw [wrap_i64] <;> omega
    rw [e]
    exact ⟨wire_PutNumber_eq hx (by omega), wire_PutNumber_eq (I64_nat (by omega)) (by simp; omega)⟩
  induction d with
  | zero =>
    intro j k hd hk hij h0 hrep
    have hne : i ≠ j := fun e => absurd (h0 e) (by omega)
    obtain ⟨k, rfl, _⟩ := rounds hk
    obtain ⟨c1, c2⟩ := fin j (by omega) (by omega)
    refine ⟨j, by omega, by omega, hrep, ?_, ?_⟩
    · intro y hy
      rw [List.drop_of_length_le (by omega)] at hy
      cases hy
    · rw [Lcolumn_putRuns_2_eq]
      have hj : ¬ j < l.length := by omega
      simp only [List.take_length, List.drop_zero]
      simp [hj, hi, intV_get hi, c1, c2]
  | succ d ih =>
    intro j k hd hk hij h0 hrep
    obtain ⟨k, rfl, hk⟩ := rounds hk
    have hj : j < l.length := by omega
    by_cases he : l[j] = l[i]
    · obtain ⟨j', h1, h2, h3, h4, h5⟩ := ih (j + 1) k (by omega) (by omega) (by omega) (by omega) (by
        rw [hrep, List.drop_eq_getElem_cons hj, he, Nat.succ_sub hij, List.replicate_succ', List.append_assoc]; rfl)
      refine ⟨j', h1, h2, h3, h4, ?_⟩
      rw [Lcolumn_putRuns_2_eq]
      simp only [List.take_length, List.drop_zero]
      simp [hj, hi, intV_get hi, intV_get hj, he, wrap_succ (i := j) (by omega)]
      simpa using h5
    · have hlt : i < j := by
        rcases Nat.lt_or_ge i j with h | h
        · exact h
        · have : i = j := by omega
          subst this
          exact absurd rfl he
      obtain ⟨c1, c2⟩ := fin j hlt (by omega)
      refine ⟨j, hlt, by omega, hrep, fun y hy => ?_, ?_⟩
      · rw [List.head?_drop, List.getElem?_eq_getElem hj] at hy
        cases hy
        exact he
      · rw [Lcolumn_putRuns_2_eq]
        simp only [List.take_length, List.drop_zero]
        have hbe : (l[j] == l[i]) = false := by simpa using he
        simp [hj, hi, hbe, c1, c2]

theorem column_putRuns_loop {l : List Int} (hI : ∀ x ∈ l, I64 x) (hl : l.length ≤ 1000000) : ∀ (d i : Nat) (b : List UInt8) (k : Nat), i + d = l.length → d < k → b.length + 20 * d ≤ 90000000000000 →
    Lcolumn_putRuns_0 N0 column_putRuns_G k (byV b) (intV l) i = some ([.sl 1 (byV (b ++ runsB (l.drop i)))], []) := by
  intro d
  induction d using Nat.strongRecOn with
  | _ d ih =>
    intro i b k hd hk hb
    obtain ⟨k, rfl, hk⟩ := rounds hk
    by_cases h0 : d = 0
    · rw [Lcolumn_putRuns_0_eq]
      have hi : ¬ i < l.length := by omega
      rw [List.drop_of_length_le (by omega)]
      simp [hi, runsB]
    · have hi : i < l.length := by omega
      have hx := hI _ (List.getElem_mem hi)
      have hgl := grp_zig_len hx
      obtain ⟨j, h1, h2, h3, h4, h5⟩ := column_putRuns_inner (m := k) hI hl hi (b := b) (by omega) d i N0 hd (N0_pos (by omega)) (by omega) (by omega) (by simp)
      have hgl2 := grp_zig_len (I64_nat (n := j - i) (by omega))
      have := ih (d - (j - i)) (by omega) j (b ++ (grp (zig l[i]) ++ grp (zig ((j - i : Nat) : Int)))) k (by omega) (by omega) (by simp; omega)
      rw [Lcolumn_putRuns_0_eq]
      have e : l.drop i = List.replicate (j - i - 1 + 1) l[i] ++ l.drop j := by rw [h3]; congr 2; omega
      have e2 : runsB (l.drop i) = grp (zig l[i]) ++ grp (zig ((j - i : Nat) : Int)) ++ runsB (l.drop j) := by
        rw [e, runsB_rep _ _ h4]
        congr 4; omega
      rw [e2]
      simp [hi, h5, this]

theorem column_putRuns_eq' {l : List Int} {b : List UInt8} (hI : ∀ x ∈ l, I64 x) (hl : l.length ≤ 1000000) (hb : b.length ≤ 1000000) : column_putRuns [.sl 1 (byV b), .sl 1 (intV l)] = some ([.sl 1 (byV (b ++ runsB l))], []) := by
  unfold column_putRuns
  rw [Rcolumn_putRuns_eq]
  simpa using column_putRuns_loop hI hl l.length 0 b N0 (by omega) (N0_pos (by omega)) (by omega)

end Go.Proofs.YtdhdhcllgkddnaaGreat.Va

namespace Go.Proofs.YtdhdhcllgkddnaaGreat.Va
open Go Go.RowKit

theorem slices_Min_loop {l : List Int} (hl : l.length ≤ 1000000) : ∀ (d i : Nat) (a : Int) (k : Nat), i + d = l.length → d < k →
    Lslices_Min_sint_int_0 N0 slices_Min_sint_int_G k (intV l) a i = some ([.int .i64 ((l.drop i).foldl (fun a b => if b < a then b else a) a)], []) := by
  intro d
  induction d with
  | zero =>
    intro i a k hd hk
    obtain ⟨k, rfl, _⟩ := rounds hk
    rw [Lslices_Min_sint_int_0_eq, List.drop_of_length_le (by omega)]
    have hi : ¬ i < l.length := by omega
    simp [hi]
  | succ d ih =>
    intro i a k hd hk
    obtain ⟨k, rfl, hk⟩ := rounds hk
    have hi : i < l.length := by omega
    have := ih (i + 1) (if l[i] < a then l[i] else a) k (by omega) (by omega)
    rw [Lslices_Min_sint_int_0_eq, List.drop_eq_getElem_cons hi, List.foldl_cons]
    simp [hi, wrap_succ (i := i) (by omega)]
    simpa using this
theorem slices_Max_loop {l : List Int} (hl : l.length ≤ 1000000) : ∀ (d i : Nat) (a : Int) (k : Nat), i + d = l.length → d < k →
    Lslices_Max_sint_int_0 N0 slices_Max_sint_int_G k (intV l) a i = some ([.int .i64 ((l.drop i).foldl (fun a b => if b > a then b else a) a)], []) := by
  intro d
  induction d with
  | zero =>
    intro i a k hd hk
    obtain ⟨k, rfl, _⟩ := rounds hk
    rw [Lslices_Max_sint_int_0_eq, List.drop_of_length_le (by omega)]
    have hi : ¬ i < l.length := by omega
    simp [hi]
  | succ d ih =>
    intro i a k hd hk
    obtain ⟨k, rfl, hk⟩ := rounds hk
    have hi : i < l.length := by omega
    have := ih (i + 1) (if l[i] > a then l[i] else a) k (by omega) (by omega)
    rw [Lslices_Max_sint_int_0_eq, List.drop_eq_getElem_cons hi, List.foldl_cons]
    simp [hi, wrap_succ (i := i) (by omega)]
    simpa using this
theorem slices_Min_sint_int_eq' {l : List Int} (h0 : l ≠ []) (hl : l.length ≤ 1000000) : slices_Min_sint_int [.sl 1 (intV l)] = some ([.int .i64 (foldL (fun a b => if b < a then b else a) l)], []) := by
  cases l with
  | nil => exact absurd rfl h0
  | cons x l =>
    have hp : ¬ ((l.length : Int) + 1 < 1) := by omega
    have h1 : (0 : Int) < (l.length : Int) + 1 := by omega
    have := slices_Min_loop (l := x :: l) hl l.length 1 x N0 (by simp; omega) (N0_pos (by simp at hl; omega))
    unfold slices_Min_sint_int
    rw [Rslices_Min_sint_int_eq]
    simp [Jslices_Min_sint_int_3_eq, hp, h1, intV_cons]
    simpa [foldL, intV_cons] using this
theorem slices_Max_sint_int_eq' {l : List Int} (h0 : l ≠ []) (hl : l.length ≤ 1000000) : slices_Max_sint_int [.sl 1 (intV l)] = some ([.int .i64 (foldL (fun a b => if b > a then b else a) l)], []) := by
  cases l with
  | nil => exact absurd rfl h0
  | cons x l =>
    have hp : ¬ ((l.length : Int) + 1 < 1) := by omega
    have h1 : (0 : Int) < (l.length : Int) + 1 := by omega
    have := slices_Max_loop (l := x :: l) hl l.length 1 x N0 (by simp; omega) (N0_pos (by simp at hl; omega))
    unfold slices_Max_sint_int
    rw [Rslices_Max_sint_int_eq]
    simp [Jslices_Max_sint_int_3_eq, hp, h1, intV_cons]
    simpa [foldL, intV_cons] using this

theorem slices_Clone_sint_int_eq' {l : List Int} (h0 : l ≠ []) (hl : l.length ≤ 1000000) : slices_Clone_sint_int [.sl 1 (intV l)] = some ([.sl 1 (intV l)], []) := by
  have r : room l.length 8 := room8 (by omega)
  unfold slices_Clone_sint_int
  rw [Rslices_Clone_sint_int_eq]
  simp only [List.take_length]
  simp [h0, r, -List.all_eq_true]

theorem cmp_Less_int_eq' (a b : Int) : cmp_Less_int [.int .i64 a, .int .i64 b] = some ([.bool (decide (a < b))], []) := by
  have h1 : cmp_Less_int_G 0 [.int .i64 a] = some ([.bool false], []) := by
    show cmp_isNaN_int [.int .i64 a] = _
    unfold cmp_isNaN_int
    rw [Rcmp_isNaN_int_eq]
    simp
  unfold cmp_Less_int
  rw [Rcmp_Less_int_eq]
  simp [h1]
theorem slices_isNaN_int_eq' (a : Int) : slices_isNaN_int [.int .i64 a] = some ([.bool false], []) := by
  unfold slices_isNaN_int
  rw [Rslices_isNaN_int_eq]
  simp

theorem half {i j : Nat} (h : i + j < 9223372036854775808) : IntKind.i64.wrap ((IntKind.u64.wrap (IntKind.i64.wrap ((i : Int) + (j : Int)))).fdiv 2) = (((i + j) / 2 : Nat) : Int) := by
  have e1 : IntKind.i64.wrap ((i : Int) + (j : Int)) = ((i + j : Nat) : Int) := by rw [wrap_i64] <;> omega
  rw [e1, wrap_u64, show ((i + j : Nat) : Int) % 18446744073709551616 = ((i + j : Nat) : Int) by omega, show ((i + j : Nat) : Int).fdiv 2 = (((i + j) / 2 : Nat) : Int) from fdiv_pow (i + j) 1]
  rw [wrap_i64] <;> omega

theorem slices_BinarySearch_loop {s : List Int} {v : Int} (hs : Asc s) (hl : s.length ≤ 1000000) : ∀ (d i j : Nat) (k : Nat), j - i ≤ d → i ≤ posOf v s → posOf v s ≤ j → j ≤ s.length → d < k →
    ∃ b, Lslices_BinarySearch_sint_int_0 N0 slices_BinarySearch_sint_int_G k (intV s) v s.length i j = some ([.int .i64 (posOf v s), .bool b], []) := by
  intro d
  have g0 : ∀ a, slices_BinarySearch_sint_int_G 0 [.int .i64 a, .int .i64 v] = some ([.bool (decide (a < v))], []) := fun a => cmp_Less_int_eq' a v
  have g1 : ∀ a, slices_BinarySearch_sint_int_G 1 [.int .i64 a] = some ([.bool false], []) := fun a => slices_isNaN_int_eq' a
  induction d with
  | zero =>
    intro i j k hd h1 h2 h3 hk
    obtain ⟨k, rfl, _⟩ := rounds hk
    have e : i = posOf v s := by omega
    have e2 : j = i := by omega
    subst e2
    rw [Lslices_BinarySearch_sint_int_0_eq]
    by_cases hi : j < s.length
    · by_cases hv : s[j] = v
      · exact ⟨true, by simp [hi, hv, ← e]⟩
      · have hvb : (s[j] == v) = false := by simpa using hv
        exact ⟨false, by simp [hi, hvb, g1, ← e]⟩
    · exact ⟨false, by simp [hi, ← e]⟩
  | succ d ih =>
    intro i j k hd h1 h2 h3 hk
    obtain ⟨k, rfl, hk⟩ := rounds hk
    by_cases hij : i < j
    · have hm : (i + j) / 2 < s.length := by omega
      have hmj : (i + j) / 2 < j := by omega
      have hmi : i ≤ (i + j) / 2 := by omega
      have hh := half (i := i) (j := j) (by omega)
      generalize (i + j) / 2 = m at *
      rw [Lslices_BinarySearch_sint_int_0_eq]
      by_cases hlt : s[m] < v
      · have hp : m < posOf v s := by
          rcases Nat.lt_or_ge m (posOf v s) with h | h
          · exact h
          · have := posOf_ge hm hs h; omega
        obtain ⟨b, hb⟩ := ih (m + 1) j k (by omega) (by omega) h2 h3 (by omega)
        refine ⟨b, ?_⟩
        simp [hh, hij, hm, g0, hlt, wrap_succ (i := m) (by omega)]
        simpa using hb
      · have hp : posOf v s ≤ m := by
          rcases Nat.lt_or_ge m (posOf v s) with h | h
          · exact absurd (posOf_lt hm h) hlt
          · exact h
        obtain ⟨b, hb⟩ := ih i m k (by omega) h1 hp (by omega) (by omega)
        refine ⟨b, ?_⟩
        simp [hh, hij, hm, g0, hlt]
        simpa using hb
    · obtain ⟨b, hb⟩ := ih i j (k + 1) (by omega) h1 h2 h3 (by omega)
      exact ⟨b, hb⟩

theorem slices_BinarySearch_sint_int_eq' {s : List Int} {v : Int} (hs : Asc s) (hl : s.length ≤ 1000000) : ∃ b, slices_BinarySearch_sint_int [.sl 1 (intV s), .int .i64 v] = some ([.int .i64 (posOf v s), .bool b], []) := by
  obtain ⟨b, hb⟩ := slices_BinarySearch_loop (v := v) hs hl s.length 0 s.length N0 (by omega) (by omega) (posOf_le v s) (Nat.le_refl _) (N0_pos (by omega))
  refine ⟨b, ?_⟩
  unfold slices_BinarySearch_sint_int
  rw [Rslices_BinarySearch_sint_int_eq]
  simpa using hb

end Go.Proofs.YtdhdhcllgkddnaaGreat.Va

namespace Go.Proofs.YtdhdhcllgkddnaaGreat.Va
open Go Go.RowKit

theorem intV_set (l : List Int) (i : Nat) (x : Int) : (intV l).set i (.int .i64 x) = intV (l.set i x) := by simp [intV, List.map_set]
theorem intV_rep (n : Nat) (x : Int) : List.replicate n (V.int .i64 x) = intV (List.replicate n x) := by simp [intV]
theorem wrap_pred {i : Nat} (h0 : 1 ≤ i) (h : i < 9223372036854775807) : IntKind.i64.wrap ((i : Int) - 1) = ((i - 1 : Nat) : Int) := by rw [wrap_i64] <;> omega

theorem slices_Compact_loop2 {l : List Int} (hl : l.length ≤ 1000000) {k0 : Nat} (m : Nat) : ∀ (d q kk : Nat) (cur : List Int) (k : Nat), k0 + q + d = l.length → 1 ≤ q → cur.length = l.length → kk ≤ k0 + q - 1 →
    kk = (compactL (l.take (k0 + q))).length → cur.take kk = compactL (l.take (k0 + q)) → cur.drop (k0 + q - 1) = l.drop (k0 + q - 1) → d < k →
    Lslices_Compact_sint_int_2 N0 slices_Compact_sint_int_G k m 0 l.length kk k0 (l.length - k0) q (intV cur) = some ([.sl 1 (intV (compactL l))], []) := by
  intro d
  induction d with
  | zero =>
    intro q kk cur k hd hq hcl hkk hlen htake hdrop hk
    obtain ⟨k, rfl, _⟩ := rounds hk
    have e : l.take (k0 + q) = l := List.take_of_length_le (by omega)
    rw [e] at htake hlen
    have h1 : ¬ q < l.length - k0 := by omega
    have h2 : kk ≤ l.length := by omega
    have h3 : ((l.length : Int) - (kk : Int)).toNat = l.length - kk := by omega
    have h4 : kk + (l.length - kk) ≤ cur.length := by omega
    rw [Lslices_Compact_sint_int_2_eq]
    have h5 : min kk cur.length = kk := by omega
    simp only [intV_take, intV_drop, intV_rep, intV_app]
    simp [h1, h2, h3, h4, h5, -List.all_eq_true]
    exact ⟨by omega, by rw [htake]⟩
  | succ d ih =>
    intro q kk cur k hd hq hcl hkk hlen htake hdrop hk
    obtain ⟨k, rfl, hk⟩ := rounds hk
    have h1 : q < l.length - k0 := by omega
    have hp : k0 + q < l.length := by omega
    have hpc : k0 + q < cur.length := by omega
    have hc1 : cur[k0 + q] = l[k0 + q] := by
      have := congrArg (·[1]?) hdrop
      simp only [List.getElem?_drop] at this
      rw [show k0 + q - 1 + 1 = k0 + q by omega, List.getElem?_eq_getElem hpc, List.getElem?_eq_getElem hp] at this
      simpa using this
    have hc2 : cur[k0 + (q - 1)]'(by omega) = l[k0 + q - 1] := by
      have := congrArg (·[0]?) hdrop
      simp only [List.getElem?_drop, Nat.add_zero] at this
      rw [List.getElem?_eq_getElem (by omega), List.getElem?_eq_getElem (by omega)] at this
      simp only [Option.some.injEq] at this
      rw [← this]
      congr 1
      omega
    have h2 : q - 1 < l.length - k0 := by omega
    have h3 : k0 + (q - 1) < cur.length := by omega
    have hw := wrap_pred (i := q) hq (by omega)
    have hw2 := wrap_succ (i := q) (by omega)
    have hw3 := wrap_succ (i := kk) (by omega)
    have hT := compactL_take (l := l) (p := k0 + q) hp (by omega)
    have hkl : kk < l.length := by omega
    have hkc : kk < cur.length := by omega
    have hdrop' : cur.drop (k0 + q) = l.drop (k0 + q) := by
      have := congrArg (List.drop 1) hdrop
      simpa [List.drop_drop, show 1 + (k0 + q - 1) = k0 + q by omega, show k0 + q - 1 + 1 = k0 + q by omega] using this
    by_cases he : l[k0 + q] = l[k0 + q - 1]
    · rw [if_pos he] at hT
      have := ih (q + 1) kk cur k (by omega) (by omega) hcl (by omega) (by rw [← Nat.add_assoc, hT]; exact hlen) (by rw [← Nat.add_assoc, hT]; exact htake) (by rw [show k0 + (q + 1) - 1 = k0 + q by omega]; exact hdrop') (by omega)
      rw [Lslices_Compact_sint_int_2_eq]
      simp [h1, h2, h3, hpc, hw, hw2, hc1, hc2, he]
      simpa using this
    · rw [if_neg he] at hT
      have htake' : (cur.set kk l[k0 + q]).take (kk + 1) = compactL (l.take (k0 + q)) ++ [l[k0 + q]] := by
        rw [take_succ (by simpa using hkc), List.take_set_of_le (Nat.le_refl _), htake]
        simp
      have := ih (q + 1) (kk + 1) (cur.set kk l[k0 + q]) k (by omega) (by omega) (by simpa using hcl) (by omega) (by rw [← Nat.add_assoc, hT]; simp [hlen]) (by rw [← Nat.add_assoc, hT]; exact htake')
        (by rw [show k0 + (q + 1) - 1 = k0 + q by omega, List.drop_set_of_lt (by omega)]; exact hdrop') (by omega)
      have hb : (l[k0 + q] != l[k0 + q - 1]) = true := by simpa using he
      rw [Lslices_Compact_sint_int_2_eq]
      simp [h1, h2, h3, hpc, hw, hw2, hw3, hc1, hc2, hb, hkl, hkc, intV_set]
      simpa using this

theorem slices_Compact_loop0 {l : List Int} (hl : l.length ≤ 1000000) : ∀ (d i : Nat) (k : Nat), i + d = l.length → 1 ≤ i → (∀ (j : Nat) (hj : j < l.length), 1 ≤ j → j < i → l[j] ≠ l[j - 1]) → d < k →
    Lslices_Compact_sint_int_0 N0 slices_Compact_sint_int_G k 0 l.length i (intV l) = some ([.sl 1 (intV (compactL l))], []) := by
  intro d
  induction d with
  | zero =>
    intro i k hd hi hne hk
    obtain ⟨k, rfl, _⟩ := rounds hk
    have h1 : ¬ i < l.length := by omega
    have := compactL_id (l := l) (p := l.length) (Nat.le_refl _) (fun j hj h2 h3 => hne j hj h2 (by omega))
    rw [List.take_length] at this
    rw [Lslices_Compact_sint_int_0_eq]
    simp [h1, this, -List.all_eq_true]
  | succ d ih =>
    intro i k hd hi hne hk
    obtain ⟨k, rfl, hk⟩ := rounds hk
    have h1 : i < l.length := by omega
    have h2 : i - 1 < l.length := by omega
    have hw := wrap_pred (i := i) hi (by omega)
    have hw2 := wrap_succ (i := i) (by omega)
    rw [Lslices_Compact_sint_int_0_eq]
    by_cases he : l[i] = l[i - 1]
    · have hid := compactL_id (l := l) (p := i) (by omega) hne
      have hT := compactL_take (l := l) (p := i) h1 hi
      rw [if_pos he, hid] at hT
      have := slices_Compact_loop2 (l := l) hl (k0 := i) k d 1 i l N0 (by omega) (by omega) rfl (by omega) (by rw [hT]; simp; omega) hT.symm rfl (N0_pos (by omega))
      have h3 : ((l.length : Int) - (i : Int)).toNat = l.length - i := by omega
      have h4 : i ≤ l.length := by omega
      simp [h1, h2, hw, he, h3, h4]
      simpa using this
    · have := ih (i + 1) k (by omega) (by omega) (fun j hj h1 h2 => by
        rcases Nat.lt_or_ge j i with h | h
        · exact hne j hj h1 h
        · have : j = i := by omega
          subst this; exact he) (by omega)
      have hb : (l[i] == l[i - 1]) = false := by simpa using he
      simp [h1, h2, hw, hw2, hb]
      simpa using this

theorem slices_Compact_sint_int_eq' {l : List Int} (hl : l.length ≤ 1000000) : slices_Compact_sint_int [.sl 1 (intV l)] = some ([.sl 1 (intV (compactL l))], []) := by
  unfold slices_Compact_sint_int
  rw [Rslices_Compact_sint_int_eq]
  by_cases h : l.length < 2
  · have hc : compactL l = l := by
      match l, h with
      | [], _ => rfl
      | [x], _ => rfl
    have h2 : (l.length : Int) < 2 := by omega
    simp [V.len, h2, hc, -List.all_eq_true]
  · have h2 : ¬ (l.length : Int) < 2 := by omega
    simp [V.len, h2]
    simpa using slices_Compact_loop0 hl (l.length - 1) 1 N0 (by omega) (by omega) (fun j _ h1 h2 => by omega) (N0_pos (by omega))

/-- The body of the fourth encoding. -/
def indexB (l : List Int) : List UInt8 := grp (zig ((distinctL l).length : Int)) ++ plainB (distinctL l) ++ l.flatMap fun x => grp (zig (posOf x (distinctL l) : Int))
def posB (s : List Int) (l : List Int) : List UInt8 := l.flatMap fun x => grp (zig (posOf x s : Int))
theorem posB_cons (s : List Int) (x : Int) (l : List Int) : posB s (x :: l) = grp (zig (posOf x s : Int)) ++ posB s l := by simp [posB]

theorem column_putIndex_loop {s l : List Int} (hs : Asc s) (hsl : s.length ≤ 1000000) (hl : l.length ≤ 1000000) : ∀ (d i : Nat) (b : List UInt8) (k : Nat), i + d = l.length → d < k → b.length + 10 * d ≤ 90000000000000 →
    Lcolumn_putIndex_0 N0 column_putIndex_G k (byV b) (intV s) (intV l) l.length i = some ([.sl 1 (byV (b ++ posB s (l.drop i)))], []) := by
  intro d
  induction d with
  | zero =>
    intro i b k hd hk hb
    obtain ⟨k, rfl, _⟩ := rounds hk
    rw [Lcolumn_putIndex_0_eq, List.drop_of_length_le (by omega)]
    have hi : ¬ i < l.length := by omega
    simp [hi, posB]
  | succ d ih =>
    intro i b k hd hk hb
    obtain ⟨k, rfl, hk⟩ := rounds hk
    have hi : i < l.length := by omega
    have hp := posOf_le l[i] s
    have hx : I64 (posOf l[i] s : Int) := I64_nat (by omega)
    have hgl := grp_zig_len hx
    obtain ⟨f, hf⟩ := slices_BinarySearch_sint_int_eq' (v := l[i]) hs hsl
    have g1 : column_putIndex_G 1 [.sl 1 (intV s), .int .i64 l[i]] = some ([.int .i64 (posOf l[i] s), .bool f], []) := hf
    have g5 : column_putIndex_G 5 [.sl 1 (byV b), .int .i64 (posOf l[i] s)] = some ([.sl 1 (byV (b ++ grp (zig (posOf l[i] s : Int))))], []) := wire_PutNumber_eq hx (by omega)
    have := ih (i + 1) (b ++ grp (zig (posOf l[i] s : Int))) k (by omega) (by omega) (by simp; omega)
    rw [Lcolumn_putIndex_0_eq, List.drop_eq_getElem_cons hi, posB_cons]
    simp only [List.take_length, List.drop_zero]
    simp [hi, g1, g5, wrap_succ (i := i) (by omega)]
    simpa using this

theorem column_putIndex_eq' {l : List Int} {b : List UInt8} (hI : ∀ x ∈ l, I64 x) (h0 : l ≠ []) (hl : l.length ≤ 1000000) (hb : b.length ≤ 1000000) : column_putIndex [.sl 1 (byV b), .sl 1 (intV l)] = some ([.sl 1 (byV (b ++ indexB l))], []) := by
  have hdl := distinctL_len l
  have hx : I64 ((distinctL l).length : Int) := I64_nat (by omega)
  have hgl := grp_zig_len hx
  have hdI : ∀ x ∈ distinctL l, I64 x := fun x hx => hI x (mem_distinctL.1 hx)
  have g2 : column_putIndex_G 2 [.sl 1 (intV l)] = some ([.sl 1 (intV l)], []) := slices_Clone_sint_int_eq' h0 hl
  have g4 : column_putIndex_G 4 [.sl 1 (intV l)] = some ([], [.sl 1 (intV (sortL l))]) := slices_Sort_sint_int_eq hI (by omega)
  have g3 : column_putIndex_G 3 [.sl 1 (intV (sortL l))] = some ([.sl 1 (intV (distinctL l))], []) := by
    rw [← compact_sort]; exact slices_Compact_sint_int_eq' (by rw [sortL_length]; exact hl)
  have g5 : column_putIndex_G 5 [.sl 1 (byV b), .int .i64 (distinctL l).length] = some ([.sl 1 (byV (b ++ grp (zig ((distinctL l).length : Int))))], []) := wire_PutNumber_eq hx (by omega)
  have g0 : column_putIndex_G 0 [.sl 1 (byV (b ++ grp (zig ((distinctL l).length : Int)))), .sl 1 (intV (distinctL l))] = some ([.sl 1 (byV (b ++ grp (zig ((distinctL l).length : Int)) ++ plainB (distinctL l)))], []) := by
    have := column_putPlain_loop (l := distinctL l) hdI (by omega) (distinctL l).length 0 (b ++ grp (zig ((distinctL l).length : Int))) N0 (by omega) (N0_pos (by omega)) (by simp; omega)
    show column_putPlain _ = _
    unfold column_putPlain
    rw [Rcolumn_putPlain_eq]
    simpa using this
  have hpl := plainB_len hdI
  have := column_putIndex_loop (s := distinctL l) (l := l) (distinctL_asc l) (by omega) hl l.length 0 (b ++ grp (zig ((distinctL l).length : Int)) ++ plainB (distinctL l)) N0 (by omega) (N0_pos (by omega)) (by simp; omega)
  unfold column_putIndex
  rw [Rcolumn_putIndex_eq]
  have hsl := sortL_length l
  simp only [List.append_assoc] at g0 this
  simp [g2, g4, hsl, g3, g5, g0]
  simpa [indexB, posB] using this

end Go.Proofs.YtdhdhcllgkddnaaGreat.Va

namespace Go.Proofs.YtdhdhcllgkddnaaGreat.Va
open Go Go.RowKit

theorem at_wrap {i w k : Nat} (hi : i ≤ 1000000) (hw : w ≤ 64) (hk : k ≤ 64) : IntKind.i64.wrap (IntKind.i64.wrap ((i : Int) * (w : Int)) + (k : Int)) = ((i * w + k : Nat) : Int) := by
  have h1 : i * w ≤ 1000000 * 64 := Nat.mul_le_mul hi hw
  have e : (i : Int) * (w : Int) = ((i * w : Nat) : Int) := by simp
  have e1 : IntKind.i64.wrap ((i * w : Nat) : Int) = ((i * w : Nat) : Int) := wrap_i64 (by omega) (by omega)
  rw [e, e1, wrap_i64 (by omega) (by omega)]
  omega
theorem at_div {i w k : Nat} (hi : i ≤ 1000000) (hw : w ≤ 64) (hk : k ≤ 64) : IntKind.i64.wrap (((i * w + k : Nat) : Int).tdiv 8) = (((i * w + k) / 8 : Nat) : Int) := by
  have h1 : i * w ≤ 1000000 * 64 := Nat.mul_le_mul hi hw
  rw [Int.tdiv_eq_ediv_of_nonneg (by omega), wrap_i64 (by omega) (by omega)]
  omega
theorem at_mod {i w k : Nat} : ((i * w + k : Nat) : Int).tmod 8 = (((i * w + k) % 8 : Nat) : Int) := by
  rw [Int.tmod_eq_emod_of_nonneg (by omega)]
  omega
theorem bit_lt {i k w n : Nat} (hi : i < n) (hk : k < w) : (i * w + k) / 8 < (n * w + 7) / 8 := by
  have h1 : (i + 1) * w ≤ n * w := Nat.mul_le_mul_right _ hi
  rw [Nat.add_mul, Nat.one_mul] at h1
  have h2 : i * w + k < n * w := by omega
  generalize i * w + k = a at *
  generalize n * w = b at *
  omega
theorem size_wrap {n w : Nat} (hn : n ≤ 1000000) (hw : w ≤ 64) : IntKind.i64.wrap ((IntKind.i64.wrap (IntKind.i64.wrap ((n : Int) * (w : Int)) + 7)).tdiv 8) = (((n * w + 7) / 8 : Nat) : Int) := by
  have := at_wrap (i := n) (w := w) (k := 7) hn hw (by omega)
  rw [show ((7 : Nat) : Int) = 7 from rfl] at this
  rw [this]
  exact at_div hn hw (by omega)

theorem column_putBits_inner {l : List Int} {least : Int} {w : Nat} (hl : l.length ≤ 1000000) (hw : w ≤ 64) {i : Nat} (hi : i < l.length) {u : Int} {b : List UInt8} (m : Nat) : ∀ (d k : Nat) (p : List Int) (q : Nat), k + d = w → p.length = (l.length * w + 7) / 8 → d < q →
    Lcolumn_putBits_2 N0 column_putBits_G q m least w 0 ((l.length * w + 7) / 8 : Nat) i u (intV l) l.length i w k (byV b) (u8V p) =
      Lcolumn_putBits_0 N0 column_putBits_G m least w 0 ((l.length * w + 7) / 8 : Nat) (intV l) l.length ((i : Int) + 1) (byV b) (u8V (packIn u i w d k p)) := by
  intro d
  induction d with
  | zero =>
    intro k p q hd hp hq
    obtain ⟨q, rfl, _⟩ := rounds hq
    have h1 : ¬ k < w := by omega
    rw [Lcolumn_putBits_2_eq]
    simp [h1, packIn, wrap_succ (i := i) (by omega)]
  | succ d ih =>
    intro k p q hd hp hq
    obtain ⟨q, rfl, hq⟩ := rounds hq
    have h1 : k < w := by omega
    have ha := at_wrap (i := i) (w := w) (k := k) (by omega) hw (by omega)
    have hb := at_div (i := i) (w := w) (k := k) (by omega) hw (by omega)
    have hc := at_mod (i := i) (w := w) (k := k)
    have hlt : (i * w + k) / 8 < p.length := by rw [hp]; exact bit_lt hi h1
    have hlt2 : (i * w + k) / 8 < (l.length * w + 7) / 8 := by rw [← hp]; exact hlt
    have hg : p.getD ((i * w + k) / 8) 0 = p[(i * w + k) / 8] := by simp [List.getD_eq_getElem?_getD, hlt]
    have := ih (k + 1) (p.set ((i * w + k) / 8) (orB p[(i * w + k) / 8] u k (i * w + k))) q (by omega) (by simpa using hp) (by omega)
    rw [packIn, hg, Lcolumn_putBits_2_eq]
    rw [ha, hb, hc]
    generalize hat : i * w + k = a at *
    generalize hn : (l.length * w + 7) / 8 = n at *
    have hk0 : ¬ ((k : Int) < 0) := by omega
    have hm0 : ¬ (((a % 8 : Nat) : Int) < 0) := by omega
    have h2 : (0 : Int) ≤ ((a / 8 : Nat) : Int) ∧ ((a / 8 : Nat) : Int) < (n : Int) := by omega
    rw [if_pos h2]
    simp only [h1, Int.ofNat_lt, decide_true, cond_true, hk0, hm0, not_false_eq_true, if_true, h2, Int.toNat_natCast, Nat.zero_add]
    simp only [List.getElem?_eq_getElem (show a / 8 < (u8V p).length by simpa using hlt), u8V_getElem, Option.bind_some, cells_int, List.getElem?_cons_zero, asInt_int, setCells_int, u8V_set, wrap_succ (i := k) (by omega)]
    simpa [orB] using this

theorem u8V_take_all {p : List Int} {n : Nat} (h : p.length ≤ n) : List.take n (u8V p) = u8V p := List.take_of_length_le (by simpa using h)

theorem column_putBits_outer {l : List Int} {least : Int} {w : Nat} (hl : l.length ≤ 1000000) (hw : w ≤ 64) {b : List UInt8} (hb : b.length ≤ 2000000) : ∀ (d i : Nat) (p : List Int) (q : Nat), i + d = l.length → p.length = (l.length * w + 7) / 8 → Bytes p → d < q →
    Lcolumn_putBits_0 N0 column_putBits_G q least w 0 ((l.length * w + 7) / 8 : Nat) (intV l) l.length i (byV b) (u8V p) =
      some ([.sl 1 (byV (b ++ (packOut least w (l.drop i) i p).map fun x => UInt8.ofNat x.toNat))], []) := by
  have hsz : (l.length * w + 7) / 8 ≤ 8000001 := by
    have : l.length * w ≤ 1000000 * 64 := Nat.mul_le_mul hl hw
    omega
  intro d
  induction d with
  | zero =>
    intro i p q hd hp hB hq
    obtain ⟨q, rfl, _⟩ := rounds hq
    have hi : ¬ i < l.length := by omega
    have e : packOut least w (l.drop i) i p = p := by rw [List.drop_of_length_le (by omega)]; rfl
    rw [Lcolumn_putBits_0_eq, e]
    simp only [List.take_length, List.drop_zero]
    rw [u8V_take_all (by omega), u8V_byV hB, byV_app]
    have r : room (b.length + p.length) 1 := room1 (by omega)
    simp [hi, r, -List.all_eq_true]
  | succ d ih =>
    intro i p q hd hp hB hq
    obtain ⟨q, rfl, hq⟩ := rounds hq
    have hi : i < l.length := by omega
    have h1 := column_putBits_inner (least := least) hl hw hi (u := offU l[i] least) (b := b) q w 0 p N0 (by omega) hp (N0_pos (by omega))
    have h2 := ih (i + 1) (packIn (offU l[i] least) i w w 0 p) q (by omega) (by rw [packIn_length]; exact hp) (packIn_bytes _ _ _ _ _ _ hB) (by omega)
    rw [Lcolumn_putBits_0_eq, List.drop_eq_getElem_cons hi, packOut, ← h2]
    have hi2 : (i : Int) < (l.length : Int) := by omega
    simp only [hi2, decide_true, cond_true]
    simp only [List.getElem?_eq_getElem (show i < (intV l).length by simpa using hi), Int.toNat_natCast, intV_getElem, Option.bind_some, cells_int, List.getElem?_cons_zero, asInt_int]
    simp only [offU] at h1
    simp [hi, offU]
    simpa using h1

theorem column_putBits_eq' {l : List Int} {b : List UInt8} (hI : ∀ x ∈ l, I64 x) (h0 : l ≠ []) (hl : l.length ≤ 1000000) (hb : b.length ≤ 1000000) : column_putBits [.sl 1 (byV b), .sl 1 (intV l)] = some ([.sl 1 (byV (b ++ bitsB l))], []) := by
  obtain ⟨m1, m2⟩ := minL_facts h0
  obtain ⟨m3, m4⟩ := maxL_facts h0
  have hmin := hI _ m1
  have hmax := hI _ m3
  have hw := widthL_le hI h0
  have g2 : column_putBits_G 2 [.sl 1 (intV l)] = some ([.int .i64 (minL l)], []) := slices_Min_sint_int_eq' h0 hl
  have g1 : column_putBits_G 1 [.sl 1 (intV l)] = some ([.int .i64 (maxL l)], []) := slices_Max_sint_int_eq' h0 hl
  have hu : (maxL l - minL l).toNat < 18446744073709551616 := by have := hmax.2; have := hmin.1; omega
  have e := offU_eq hmax hmin (m2 _ m3)
  have g0 : column_putBits_G 0 [.int .u64 (offU (maxL l) (minL l))] = some ([.int .i64 (widthL l)], []) := by rw [e]; exact bits_Len64_eq' hu
  have hx : I64 (widthL l : Int) := I64_nat (by omega)
  have hgl := grp_zig_len hmin
  have hgl2 := grp_zig_len hx
  have g3 : column_putBits_G 3 [.sl 1 (byV b), .int .i64 (minL l)] = some ([.sl 1 (byV (b ++ grp (zig (minL l))))], []) := wire_PutNumber_eq hmin (by omega)
  have g3' : column_putBits_G 3 [.sl 1 (byV (b ++ grp (zig (minL l)))), .int .i64 (widthL l)] = some ([.sl 1 (byV (b ++ grp (zig (minL l)) ++ grp (zig (widthL l : Int))))], []) := wire_PutNumber_eq hx (by simp; omega)
  have hsw := size_wrap (n := l.length) (w := widthL l) hl hw
  have hsz : (l.length * widthL l + 7) / 8 ≤ 8000001 := by
    have : l.length * widthL l ≤ 1000000 * 64 := Nat.mul_le_mul hl hw
    omega
  have hloop := column_putBits_outer (l := l) (least := minL l) (w := widthL l) hl hw (b := b ++ grp (zig (minL l)) ++ grp (zig (widthL l : Int))) (by simp; omega) l.length 0 (List.replicate ((l.length * widthL l + 7) / 8) 0) N0 (by omega) (by simp) (rep_bytes _) (N0_pos (by omega))
  simp only [offU] at g0
  unfold column_putBits
  rw [Rcolumn_putBits_eq]
  generalize hn : (l.length * widthL l + 7) / 8 = n at *
  simp only [List.append_assoc] at g3' hloop
  have h1 : (n : Int) ≤ 281474976710656 := by omega
  have h2 : (n : Int) ≤ 9223372036854775807 := by omega
  simp [g2, g1, g0, g3, g3', hsw, h1, h2]
  rw [u8V_rep]
  simpa [bitsB, packB, hn] using hloop

end Go.Proofs.YtdhdhcllgkddnaaGreat.Va

namespace Go.Proofs.YtdhdhcllgkddnaaGreat.Va
open Go Go.RowKit

theorem xor_ones' {a : Nat} (h : a < 18446744073709551616) : bits .xor .u64 18446744073709551615 a = ((18446744073709551615 - a : Nat) : Int) := by
  show IntKind.u64.wrap ((BitVec.ofInt 64 18446744073709551615 ^^^ (BitVec.ofInt 64 (a : Int) : BitVec 64)).toNat : Int) = _
  have e : BitVec.ofInt 64 18446744073709551615 = BitVec.allOnes 64 := by decide
  rw [e, BitVec.xor_comm, BitVec.xor_allOnes, BitVec.toNat_not, BitVec.toNat_ofInt, wrap_u64]
  omega
theorem and_mask {u : Nat} (h : u < 18446744073709551616) : bits .and .u64 u 127 = ((u % 128 : Nat) : Int) := by
  show IntKind.u64.wrap ((BitVec.ofInt 64 (u : Int) &&& (BitVec.ofInt 64 127 : BitVec 64)).toNat : Int) = _
  have e : (BitVec.ofInt 64 127).toNat = 2 ^ 7 - 1 := by decide
  rw [BitVec.toNat_and, e, Nat.and_two_pow_sub_one_eq_mod, BitVec.toNat_ofInt, wrap_u64]
  omega
theorem or_top_all : ((List.range 128).all fun b => bits .or .u8 (b : Int) 128 == ((b + 128 : Nat) : Int)) = true := by kernel_rfl
theorem or_top {u : Nat} (h : u < 128) : bits .or .u8 u 128 = ((u + 128 : Nat) : Int) := eq_of_beq (List.all_eq_true.1 or_top_all u (List.mem_range.2 h))

theorem ref_PutNumber_loop : ∀ (j u : Nat) (e : List UInt8) (k : Nat), u < 128 ^ (j + 1) → u < 18446744073709551616 → j < k → e.length + j ≤ 140737488355000 →
    Lflagstoneref4_PutNumber_0 N0 flagstoneref4_PutNumber_G k u (byV e) = some ([.sl 1 (byV (e ++ grp u))], []) := by
  intro j
  induction j with
  | zero =>
    intro u e k hu hu2 hk he
    obtain ⟨k, rfl, _⟩ := rounds hk
    have hu : u < 128 := by simpa using hu
    rw [Lflagstoneref4_PutNumber_0_eq, grp, if_pos hu]
    simp only [List.take_length]
    have hw : IntKind.u8.wrap u = ((UInt8.ofNat u).toNat : Int) := by rw [wrap_u8, UInt8.toNat_ofNat']; omega
    have hr : room (e.length + 1) 1 := room1 (by omega)
    have hb : ¬ (127 : Int) < u := by omega
    simp [hb, hr, hw, byV]
  | succ j ih =>
    intro u e k hu hu2 hk he
    obtain ⟨k, rfl, hk⟩ := rounds hk
    rw [Lflagstoneref4_PutNumber_0_eq, grp]
    simp only [List.take_length]
    have hr : room (e.length + 1) 1 := room1 (by omega)
    by_cases hb : u < 128
    · have hw : IntKind.u8.wrap u = ((UInt8.ofNat u).toNat : Int) := by rw [wrap_u8, UInt8.toNat_ofNat']; omega
      have hb' : ¬ (127 : Int) < u := by omega
      simp [hb, hb', hr, hw, byV]
    · have hor : bits BinOp.or IntKind.u8 (IntKind.u8.wrap (bits .and .u64 u 127)) 128 = ((UInt8.ofNat (u % 128 + 128)).toNat : Int) := by
        rw [and_mask hu2, wrap_u8, show ((u % 128 : Nat) : Int) % 256 = ((u % 128 : Nat) : Int) by omega, or_top (Nat.mod_lt _ (by decide)), UInt8.toNat_ofNat']; omega
      have hsh : (u : Int).fdiv 128 = ((u / 128 : Nat) : Int) := fdiv_pow u 7
      have hb' : (127 : Int) < u := by omega
      have hih := ih (u / 128) (e ++ [UInt8.ofNat (u % 128 + 128)]) k (by rw [Nat.pow_succ] at hu; omega) (by omega) (by omega) (by simp; omega)
      have he1 : byV e ++ [V.int .u8 ((UInt8.ofNat (u % 128 + 128)).toNat : Int)] = byV (e ++ [UInt8.ofNat (u % 128 + 128)]) := by simp [byV]
      rw [if_neg hb]
      simp only [hor, hsh, he1, hih]
      simp [hb', hr]

theorem flagstoneref4_PutNumber_eq' {a : List UInt8} {n : Int} (h : I64 n) (ha : a.length ≤ 100000000000000) : flagstoneref4_PutNumber [.sl 1 (byV a), .int .i64 n] = some ([.sl 1 (byV (a ++ grp (zig n)))], []) := by
  have hz := zig_lt h.1 h.2
  have hr : room a.length 1 := room1 (by omega)
  have := ref_PutNumber_loop 9 (zig n) a N0 (Nat.lt_trans hz (by decide)) hz (N0_pos (by decide)) (by omega)
  unfold flagstoneref4_PutNumber
  rw [Rflagstoneref4_PutNumber_eq]
  have h1 := h.1
  have h2 := h.2
  by_cases hn : n < 0
  · have e : IntKind.u64.wrap (IntKind.u64.wrap n * 2) = ((18446744073709551616 + 2 * n).toNat : Int) := by rw [wrap_u64, wrap_u64]; omega
    have e2 : bits .xor .u64 18446744073709551615 (IntKind.u64.wrap (IntKind.u64.wrap n * 2)) = (zig n : Int) := by
      rw [e, xor_ones' (by omega)]; unfold zig; rw [if_pos hn]; omega
    simp only [asSl_sl, asInt_int, Option.bind_some, e2]
    simpa [hr, hn] using this
  · have e : IntKind.u64.wrap (IntKind.u64.wrap n * 2) = (zig n : Int) := by rw [wrap_u64, wrap_u64]; unfold zig; rw [if_neg hn]; omega
    simp only [asSl_sl, asInt_int, Option.bind_some, e]
    simpa [hr, hn] using this

theorem ref_index_loop {l : List Int} (v : Int) (hl : l.length ≤ 1000000) : ∀ (d i k : Nat), i + d = l.length → d < k → Lflagstoneref31_index_0 N0 flagstoneref31_index_G k (intV l) v i = some ([.int .i64 (idxFrom i v (l.drop i))], []) := by
  intro d
  induction d with
  | zero =>
    intro i k hd hk
    obtain ⟨k, rfl, _⟩ := rounds hk
    have hi : ¬ i < l.length := by omega
    rw [Lflagstoneref31_index_0_eq, List.drop_of_length_le (by omega)]
    simp [hi, idxFrom]
  | succ d ih =>
    intro i k hd hk
    obtain ⟨k, rfl, hk⟩ := rounds hk
    have hi : i < l.length := by omega
    have := ih (i + 1) k (by omega) (by omega)
    rw [Lflagstoneref31_index_0_eq, List.drop_eq_getElem_cons hi, idxFrom]
    by_cases he : l[i] = v
    · simp [hi, he]
    · have hb : (l[i] == v) = false := by simpa using he
      rw [if_neg he]
      simp [hi, hb, wrap_succ (i := i) (by omega)]
      simpa using this
theorem flagstoneref31_index_eq' {l : List Int} (v : Int) (hl : l.length ≤ 1000000) : flagstoneref31_index [.sl 1 (intV l), .int .i64 v] = some ([.int .i64 (idxFrom 0 v l)], []) := by
  unfold flagstoneref31_index
  rw [Rflagstoneref31_index_eq]
  simpa using ref_index_loop v hl l.length 0 N0 (by omega) (N0_pos (by omega))

theorem ref_width_loop : ∀ (j u c k : Nat), u < 2 ^ j → j < k → c + j ≤ 1000 → Lflagstoneref31_width_0 N0 flagstoneref31_width_G k u c = some ([.int .i64 (c + wid u : Nat)], []) := by
  intro j
  induction j with
  | zero =>
    intro u c k hu hk hc
    obtain ⟨k, rfl, _⟩ := rounds hk
    have : u = 0 := by simpa using hu
    subst this
    rw [Lflagstoneref31_width_0_eq, wid]
    simp
  | succ j ih =>
    intro u c k hu hk hc
    obtain ⟨k, rfl, hk⟩ := rounds hk
    rw [Lflagstoneref31_width_0_eq, wid]
    by_cases h0 : u = 0
    · subst h0; simp
    · have hp : 0 < u := by omega
      have hsh : (u : Int).fdiv 2 = ((u / 2 : Nat) : Int) := fdiv_pow u 1
      have := ih (u / 2) (c + 1) k (by rw [Nat.pow_succ] at hu; omega) (by omega) (by omega)
      rw [if_neg h0, show c + (wid (u / 2) + 1) = c + 1 + wid (u / 2) by omega]
      simp [hp, hsh, wrap_succ (i := c) (by omega)]
      simpa using this
theorem flagstoneref31_width_eq' {u : Nat} (h : u < 18446744073709551616) : flagstoneref31_width [.int .u64 u] = some ([.int .i64 (wid u)], []) := by
  unfold flagstoneref31_width
  rw [Rflagstoneref31_width_eq]
  simpa using ref_width_loop 64 u 0 N0 h (N0_pos (by decide)) (by decide)

theorem ref_distinct_inner {l s : List Int} (hl : l.length ≤ 1000000) (hsl : s.length ≤ 1000000) {i : Nat} (hi : i < l.length) (m : Nat) : ∀ (d j k : Nat), j + d = s.length → j ≤ posOf l[i] s → d < k →
    Lflagstoneref31_distinct_2 N0 flagstoneref31_distinct_G k m (intV l) i j (intV s) = Lflagstoneref31_distinct_0 N0 flagstoneref31_distinct_G m (intV l) ((i : Int) + 1) (intV (insD s l[i])) := by
  intro d
  have hple := posOf_le l[i] s
  have hw := wrap_succ (i := i) (by omega)
  have r0 : ∀ j, j ≤ s.length → room j 8 ∧ room (j + 1) 8 ∧ room (j + 1 + (s.length - j)) 8 := fun j hj => ⟨room8 (by omega), room8 (by omega), room8 (by omega)⟩
  -- the insertion at j
  induction d with
  | zero =>
    intro j k hd hj hk
    obtain ⟨k, rfl, _⟩ := rounds hk
    have hjs : j = s.length := by omega
    subst hjs
    have hp : posOf l[i] s = s.length := by omega
    obtain ⟨r1, r2, r3⟩ := r0 s.length (Nat.le_refl _)
    have e : insD s l[i] = s ++ [l[i]] := by
      unfold insD
      rw [hp, List.getElem?_eq_none (Nat.le_refl _), if_neg (by simp)]
      simp
    rw [Lflagstoneref31_distinct_2_eq, e]
    simp only [List.take_length, List.drop_zero, List.nil_append, Int.sub_zero, Int.toNat_natCast]
    have e3 : [V.int .i64 l[i]] = intV [l[i]] := rfl
    simp [hi, hw, r1, r2, intV_take, e3]
  | succ d ih =>
    intro j k hd hj hk
    obtain ⟨k, rfl, hk⟩ := rounds hk
    have hjs : j < s.length := by omega
    have hwj := wrap_succ (i := j) (by omega)
    obtain ⟨r1, r2, r3⟩ := r0 j (by omega)
    rw [Lflagstoneref31_distinct_2_eq]
    by_cases hlt : s[j] < l[i]
    · have hj' : j + 1 ≤ posOf l[i] s := posOf_step hjs hj hlt
      have := ih (j + 1) k (by omega) hj' (by omega)
      simp [hi, hjs, hlt, hwj]
      simpa using this
    · have hp : j = posOf l[i] s := posOf_stop hjs hj hlt
      have hne : ((j : Int) == (s.length : Int)) = false := by simp; omega
      by_cases he : s[j] = l[i]
      · have hb : (s[j] != l[i]) = false := by simpa using he
        have e : insD s l[i] = s := by
          unfold insD
          rw [← hp, List.getElem?_eq_getElem hjs, if_pos (by rw [he])]
        rw [e]
        simp [hi, hjs, hlt, hne, hb, hw]
      · have hb : (s[j] != l[i]) = true := by simpa using he
        have e : insD s l[i] = s.take j ++ [l[i]] ++ s.drop j := by
          unfold insD
          rw [← hp, List.getElem?_eq_getElem hjs, if_neg (by simpa using he)]
        have hjl : min j s.length = j := by omega
        have hsub : ((s.length : Int) - (j : Int)).toNat = s.length - j := by omega
        have hle : j ≤ s.length := by omega
        have e3 : [V.int .i64 l[i]] = intV [l[i]] := rfl
        rw [e]
        simp only [List.take_length, List.drop_zero, List.nil_append, Int.sub_zero, Int.toNat_natCast, Nat.zero_add]
        simp [hi, hjs, hlt, hne, hb, hw, r1, r2, r3, hjl, hsub, hle, intV_take, intV_drop]
        rw [intV_append, intV_cons]

theorem ref_distinct_loop {l : List Int} (hl : l.length ≤ 1000000) : ∀ (d i : Nat) (s : List Int) (k : Nat), i + d = l.length → s.length ≤ i → d < k →
    Lflagstoneref31_distinct_0 N0 flagstoneref31_distinct_G k (intV l) i (intV s) = some ([.sl 1 (intV ((l.drop i).foldl insD s))], []) := by
  intro d
  induction d with
  | zero =>
    intro i s k hd hs hk
    obtain ⟨k, rfl, _⟩ := rounds hk
    have hi : ¬ i < l.length := by omega
    rw [Lflagstoneref31_distinct_0_eq, List.drop_of_length_le (show l.length ≤ i by omega)]
    simp only [List.take_length]
    simp [hi, -List.all_eq_true]
  | succ d ih =>
    intro i s k hd hs hk
    obtain ⟨k, rfl, hk⟩ := rounds hk
    have hi : i < l.length := by omega
    have h1 := insD_len s l[i]
    have h2 := ref_distinct_inner (s := s) hl (by omega) hi k s.length 0 N0 (by omega) (by omega) (N0_pos (by omega))
    have := ih (i + 1) (insD s l[i]) k (by omega) (by omega) (by omega)
    rw [Lflagstoneref31_distinct_0_eq, List.drop_eq_getElem_cons hi, List.foldl_cons, ← this]
    simp only [Int.natCast_zero] at h2
    simp [hi, h2]
theorem flagstoneref31_distinct_eq' {l : List Int} (hl : l.length ≤ 1000000) : flagstoneref31_distinct [.sl 1 (intV l)] = some ([.sl 1 (intV (distinctL l))], []) := by
  unfold flagstoneref31_distinct
  rw [Rflagstoneref31_distinct_eq]
  simpa [distinctL] using ref_distinct_loop hl l.length 0 [] N0 (by omega) (by simp) (N0_pos (by omega))

end Go.Proofs.YtdhdhcllgkddnaaGreat.Va

namespace Go.Proofs.YtdhdhcllgkddnaaGreat.Va
open Go Go.RowKit

theorem enc_get (l : List Int) {i : Nat} (h : i < l.length) : (intV l)[i]? = some (.int .i64 l[i]) := intV_get h

theorem enc_plain {l : List Int} (hI : ∀ x ∈ l, I64 x) (hl : l.length ≤ 1000000) : ∀ (d i : Nat) (b : List UInt8) (k : Nat), i + d = l.length → d < k → b.length + 10 * d ≤ 90000000000000 →
    Lflagstoneref31_encode_5 N0 flagstoneref31_encode_G k (intV l) i (byV b) = some ([.sl 1 (byV (b ++ plainB (l.drop i)))], []) := by
  intro d
  induction d with
  | zero =>
    intro i b k hd hk hb
    obtain ⟨k, rfl, _⟩ := rounds hk
    rw [Lflagstoneref31_encode_5_eq, List.drop_of_length_le (show l.length ≤ i by omega)]
    have hi : ¬ i < l.length := by omega
    simp only [List.take_length]
    simp [hi, plainB, -List.all_eq_true]
  | succ d ih =>
    intro i b k hd hk hb
    obtain ⟨k, rfl, hk⟩ := rounds hk
    have hi : i < l.length := by omega
    have hx := hI _ (List.getElem_mem hi)
    have hgl := grp_zig_len hx
    have hcall : flagstoneref31_encode_G 3 [.sl 1 (byV b), .int .i64 l[i]] = some ([.sl 1 (byV (b ++ grp (zig l[i])))], []) := flagstoneref4_PutNumber_eq' hx (by omega)
    have := ih (i + 1) (b ++ grp (zig l[i])) k (by omega) (by omega) (by simp; omega)
    rw [Lflagstoneref31_encode_5_eq, List.drop_eq_getElem_cons hi, plainB_cons]
    simp only [List.take_length, List.drop_zero]
    simp [hi, hcall, wrap_succ (i := i) (by omega)]
    simpa using this

theorem sub_wrap {a b : Int} : IntKind.i64.wrap (IntKind.u64.wrap (IntKind.u64.wrap a - IntKind.u64.wrap b)) = IntKind.i64.wrap (a - b) := by
  have e : ∀ n : Int, IntKind.i64.wrap n = if n % 18446744073709551616 ≥ 9223372036854775808 then n % 18446744073709551616 - 18446744073709551616 else n % 18446744073709551616 := fun n => by simp [IntKind.wrap, IntKind.bits, IntKind.signed]
  rw [e, e, wrap_u64, wrap_u64, wrap_u64]
  have : (a % 18446744073709551616 - b % 18446744073709551616) % 18446744073709551616 % 18446744073709551616 = (a - b) % 18446744073709551616 := by omega
  rw [this]

theorem enc_steps {l : List Int} (hI : ∀ x ∈ l, I64 x) (hl : l.length ≤ 1000000) : ∀ (d i : Nat) (b : List UInt8) (k : Nat) (h1 : 1 ≤ i) (hil : i ≤ l.length), i + d = l.length → d < k → b.length + 10 * d ≤ 90000000000000 →
    Lflagstoneref31_encode_11 N0 flagstoneref31_encode_G k (intV l) i (byV b) = some ([.sl 1 (byV (b ++ stepsFrom (l[i - 1]'(by omega)) (l.drop i)))], []) := by
  intro d
  induction d with
  | zero =>
    intro i b k h1 hil hd hk hb
    obtain ⟨k, rfl, _⟩ := rounds hk
    have e : stepsFrom (l[i - 1]'(by omega)) (l.drop i) = [] := by rw [List.drop_of_length_le (show l.length ≤ i by omega)]; rfl
    rw [Lflagstoneref31_encode_11_eq, e]
    have hi : ¬ i < l.length := by omega
    simp only [List.take_length]
    simp [hi, -List.all_eq_true]
  | succ d ih =>
    intro i b k h1 hil hd hk hb
    obtain ⟨k, rfl, hk⟩ := rounds hk
    have hi : i < l.length := by omega
    have hi2 : i - 1 < l.length := by omega
    have hx := wrap_in (l[i] - l[i - 1])
    have hgl := grp_zig_len hx
    have hcall : flagstoneref31_encode_G 3 [.sl 1 (byV b), .int .i64 (IntKind.i64.wrap (l[i] - l[i - 1]))] = some ([.sl 1 (byV (b ++ grp (zig (IntKind.i64.wrap (l[i] - l[i - 1])))))], []) := flagstoneref4_PutNumber_eq' hx (by omega)
    have := ih (i + 1) (b ++ grp (zig (IntKind.i64.wrap (l[i] - l[i - 1])))) k (by omega) (by omega) (by omega) (by omega) (by simp; omega)
    have e : l.drop i = l[i] :: l.drop (i + 1) := List.drop_eq_getElem_cons hi
    have e2 : stepsFrom l[i - 1] (l.drop i) = grp (zig (IntKind.i64.wrap (l[i] - l[i - 1]))) ++ stepsFrom l[i] (l.drop (i + 1)) := by rw [e, stepsFrom]
    rw [Lflagstoneref31_encode_11_eq, e2]
    simp only [List.take_length, List.drop_zero, sub_wrap]
    simp [hi, hi2, hcall, wrap_succ (i := i) (by omega), wrap_pred (i := i) h1 (by omega)]
    simpa using this

theorem enc_runs_inner {l : List Int} (hI : ∀ x ∈ l, I64 x) (hl : l.length ≤ 1000000) {b : List UInt8} {i m : Nat} (hi : i < l.length) (hb : b.length ≤ 90000000000000) : ∀ (d j k : Nat), j + d = l.length → d < k → i ≤ j → (i = j → 0 < d) →
    l.drop i = List.replicate (j - i) l[i] ++ l.drop j →
    ∃ j', i < j' ∧ j' ≤ l.length ∧ l.drop i = List.replicate (j' - i) l[i] ++ l.drop j' ∧ (∀ y, (l.drop j').head? = some y → y ≠ l[i]) ∧
      Lflagstoneref31_encode_9 N0 flagstoneref31_encode_G k m (intV l) i j (byV b) = Lflagstoneref31_encode_7 N0 flagstoneref31_encode_G m (intV l) j' (byV (b ++ (grp (zig l[i]) ++ grp (zig ((j' - i : Nat) : Int))))) := by
  intro d
  have hx := hI _ (List.getElem_mem hi)
  have hgl := grp_zig_len hx
  have fin : ∀ j, i < j → j ≤ l.length → flagstoneref31_encode_G 3 [.sl 1 (byV b), .int .i64 l[i]] = some ([.sl 1 (byV (b ++ grp (zig l[i])))], []) ∧
      flagstoneref31_encode_G 3 [.sl 1 (byV (b ++ grp (zig l[i]))), .int .i64 (IntKind.i64.wrap ((j : Int) - (i : Int)))] = some ([.sl 1 (byV (b ++ grp (zig l[i]) ++ grp (zig ((j - i : Nat) : Int))))], []) := fun j h1 h2 => by
    have e : IntKind.i64.wrap ((j : Int) - (i : Int)) = ((j - i : Nat) : Int) := by rw [wrap_i64] <;> omega
    rw [e]
    exact ⟨flagstoneref4_PutNumber_eq' hx (by omega), flagstoneref4_PutNumber_eq' (I64_nat (by omega)) (by simp; omega)⟩
  induction d with
  | zero =>
    intro j k hd hk hij h0 hrep
    have hne : i ≠ j := fun e => absurd (h0 e) (by omega)
    obtain ⟨k, rfl, _⟩ := rounds hk
    obtain ⟨c1, c2⟩ := fin j (by omega) (by omega)
    refine ⟨j, by omega, by omega, hrep, ?_, ?_⟩
    · intro y hy
      rw [List.drop_of_length_le (by omega)] at hy
      cases hy
    · rw [Lflagstoneref31_encode_9_eq]
      have hj : ¬ j < l.length := by omega
      simp only [List.take_length, List.drop_zero]
      simp [hj, hi, c1, c2]
  | succ d ih =>
    intro j k hd hk hij h0 hrep
    obtain ⟨k, rfl, hk⟩ := rounds hk
    have hj : j < l.length := by omega
    by_cases he : l[j] = l[i]
    · obtain ⟨j', h1, h2, h3, h4, h5⟩ := ih (j + 1) k (by omega) (by omega) (by omega) (by omega) (by
        rw [hrep, List.drop_eq_getElem_cons hj, he, Nat.succ_sub hij, List.replicate_succ', List.append_assoc]; rfl)
      refine ⟨j', h1, h2, h3, h4, ?_⟩
      rw [Lflagstoneref31_encode_9_eq]
      simp only [List.take_length, List.drop_zero]
      simp [hj, hi, he, wrap_succ (i := j) (by omega)]
      simpa using h5
    · have hlt : i < j := by
        rcases Nat.lt_or_ge i j with h | h
        · exact h
        · have : i = j := by omega
          subst this
          exact absurd rfl he
      obtain ⟨c1, c2⟩ := fin j hlt (by omega)
      have hbe : (l[j] == l[i]) = false := by simpa using he
      refine ⟨j, hlt, by omega, hrep, fun y hy => ?_, ?_⟩
      · rw [List.head?_drop, List.getElem?_eq_getElem hj] at hy
        cases hy
        exact he
      · rw [Lflagstoneref31_encode_9_eq]
        simp only [List.take_length, List.drop_zero]
        simp [hj, hi, hbe, c1, c2]

theorem enc_runs {l : List Int} (hI : ∀ x ∈ l, I64 x) (hl : l.length ≤ 1000000) : ∀ (d i : Nat) (b : List UInt8) (k : Nat), i + d = l.length → d < k → b.length + 20 * d ≤ 90000000000000 →
    Lflagstoneref31_encode_7 N0 flagstoneref31_encode_G k (intV l) i (byV b) = some ([.sl 1 (byV (b ++ runsB (l.drop i)))], []) := by
  intro d
  induction d using Nat.strongRecOn with
  | _ d ih =>
    intro i b k hd hk hb
    obtain ⟨k, rfl, hk⟩ := rounds hk
    by_cases h0 : d = 0
    · have e : runsB (l.drop i) = [] := by rw [List.drop_of_length_le (show l.length ≤ i by omega), runsB]
      rw [Lflagstoneref31_encode_7_eq, e]
      have hi : ¬ i < l.length := by omega
      simp only [List.take_length]
      simp [hi, -List.all_eq_true]
    · have hi : i < l.length := by omega
      have hx := hI _ (List.getElem_mem hi)
      have hgl := grp_zig_len hx
      obtain ⟨j, h1, h2, h3, h4, h5⟩ := enc_runs_inner (m := k) hI hl hi (b := b) (by omega) d i N0 hd (N0_pos (by omega)) (by omega) (by omega) (by simp)
      have hgl2 := grp_zig_len (I64_nat (n := j - i) (by omega))
      have := ih (d - (j - i)) (by omega) j (b ++ (grp (zig l[i]) ++ grp (zig ((j - i : Nat) : Int)))) k (by omega) (by omega) (by simp; omega)
      rw [Lflagstoneref31_encode_7_eq]
      have e : l.drop i = List.replicate (j - i - 1 + 1) l[i] ++ l.drop j := by rw [h3]; congr 2; omega
      have e2 : runsB (l.drop i) = grp (zig l[i]) ++ grp (zig ((j - i : Nat) : Int)) ++ runsB (l.drop j) := by
        rw [e, runsB_rep _ _ h4]
        congr 4; omega
      rw [e2]
      simp [hi, h5, this]

theorem enc_keys {l s : List Int} (m : Nat) (hI : ∀ x ∈ s, I64 x) (hl : s.length ≤ 1000000) : ∀ (d i : Nat) (b : List UInt8) (k : Nat), i + d = s.length → d < k → b.length + 10 * d ≤ 90000000000000 →
    Lflagstoneref31_encode_13 N0 flagstoneref31_encode_G k (intV l) i (byV b) (intV s) = Lflagstoneref31_encode_15 N0 flagstoneref31_encode_G N0 (intV l) 0 (byV (b ++ plainB (s.drop i))) (intV s) := by
  intro d
  induction d with
  | zero =>
    intro i b k hd hk hb
    obtain ⟨k, rfl, _⟩ := rounds hk
    rw [Lflagstoneref31_encode_13_eq, List.drop_of_length_le (show s.length ≤ i by omega)]
    have hi : ¬ i < s.length := by omega
    simp [hi, plainB]
  | succ d ih =>
    intro i b k hd hk hb
    obtain ⟨k, rfl, hk⟩ := rounds hk
    have hi : i < s.length := by omega
    have hx := hI _ (List.getElem_mem hi)
    have hgl := grp_zig_len hx
    have hcall : flagstoneref31_encode_G 3 [.sl 1 (byV b), .int .i64 s[i]] = some ([.sl 1 (byV (b ++ grp (zig s[i])))], []) := flagstoneref4_PutNumber_eq' hx (by omega)
    have := ih (i + 1) (b ++ grp (zig s[i])) k (by omega) (by omega) (by simp; omega)
    rw [Lflagstoneref31_encode_13_eq, List.drop_eq_getElem_cons hi, plainB_cons]
    simp only [List.take_length, List.drop_zero]
    simp [hi, hcall, wrap_succ (i := i) (by omega)]
    simpa using this

theorem enc_index {l s : List Int} (hs : Asc s) (hm : ∀ x ∈ l, x ∈ s) (hsl : s.length ≤ 1000000) (hl : l.length ≤ 1000000) : ∀ (d i : Nat) (b : List UInt8) (k : Nat), i + d = l.length → d < k → b.length + 10 * d ≤ 90000000000000 →
    Lflagstoneref31_encode_15 N0 flagstoneref31_encode_G k (intV l) i (byV b) (intV s) = some ([.sl 1 (byV (b ++ posB s (l.drop i)))], []) := by
  intro d
  induction d with
  | zero =>
    intro i b k hd hk hb
    obtain ⟨k, rfl, _⟩ := rounds hk
    rw [Lflagstoneref31_encode_15_eq, List.drop_of_length_le (show l.length ≤ i by omega)]
    have hi : ¬ i < l.length := by omega
    simp only [List.take_length]
    simp [hi, posB, -List.all_eq_true]
  | succ d ih =>
    intro i b k hd hk hb
    obtain ⟨k, rfl, hk⟩ := rounds hk
    have hi : i < l.length := by omega
    have hp := posOf_le l[i] s
    have hx : I64 (posOf l[i] s : Int) := I64_nat (by omega)
    have hgl := grp_zig_len hx
    have hidx := (idxFrom_pos (k := 0) hs (hm _ (List.getElem_mem hi))).1
    have g1 : flagstoneref31_encode_G 1 [.sl 1 (intV s), .int .i64 l[i]] = some ([.int .i64 (posOf l[i] s)], []) := by
      have := flagstoneref31_index_eq' (l := s) l[i] hsl
      rw [hidx, Nat.zero_add] at this
      exact this
    have g3 : flagstoneref31_encode_G 3 [.sl 1 (byV b), .int .i64 (posOf l[i] s)] = some ([.sl 1 (byV (b ++ grp (zig (posOf l[i] s : Int))))], []) := flagstoneref4_PutNumber_eq' hx (by omega)
    have := ih (i + 1) (b ++ grp (zig (posOf l[i] s : Int))) k (by omega) (by omega) (by simp; omega)
    rw [Lflagstoneref31_encode_15_eq, List.drop_eq_getElem_cons hi, posB_cons]
    simp only [List.take_length, List.drop_zero]
    simp [hi, g1, g3, wrap_succ (i := i) (by omega)]
    simpa using this

end Go.Proofs.YtdhdhcllgkddnaaGreat.Va

namespace Go.Proofs.YtdhdhcllgkddnaaGreat.Va
open Go Go.RowKit

theorem nat_u64 {k : Nat} (h : k ≤ 64) : IntKind.u64.wrap (k : Int) = k := by rw [wrap_u64]; omega
theorem nat_u64' {a : Nat} : IntKind.u64.wrap ((a % 8 : Nat) : Int) = ((a % 8 : Nat) : Int) := by rw [wrap_u64]; omega

theorem enc_bits_inner {l s : List Int} {w : Nat} (hl : l.length ≤ 1000000) (hw : w ≤ 64) {i : Nat} (hi : i < l.length) {u : Int} {b : List UInt8} (m : Nat) : ∀ (d k : Nat) (p : List Int) (q : Nat), k + d = w → p.length = (l.length * w + 7) / 8 → d < q →
    Lflagstoneref31_encode_3 N0 flagstoneref31_encode_G q m (intV l) w 0 ((l.length * w + 7) / 8 : Nat) i u k (byV b) (intV s) (u8V p) =
      Lflagstoneref31_encode_1 N0 flagstoneref31_encode_G m (intV l) w 0 ((l.length * w + 7) / 8 : Nat) ((i : Int) + 1) (byV b) (intV s) (u8V (packIn u i w d k p)) := by
  intro d
  induction d with
  | zero =>
    intro k p q hd hp hq
    obtain ⟨q, rfl, _⟩ := rounds hq
    have h1 : ¬ k < w := by omega
    rw [Lflagstoneref31_encode_3_eq]
    simp [h1, packIn, wrap_succ (i := i) (by omega)]
  | succ d ih =>
    intro k p q hd hp hq
    obtain ⟨q, rfl, hq⟩ := rounds hq
    have h1 : k < w := by omega
    have ha := at_wrap (i := i) (w := w) (k := k) (by omega) hw (by omega)
    have hb := at_div (i := i) (w := w) (k := k) (by omega) hw (by omega)
    have hc := at_mod (i := i) (w := w) (k := k)
    have hlt : (i * w + k) / 8 < p.length := by rw [hp]; exact bit_lt hi h1
    have hlt2 : (i * w + k) / 8 < (l.length * w + 7) / 8 := by rw [← hp]; exact hlt
    have hg : p.getD ((i * w + k) / 8) 0 = p[(i * w + k) / 8] := by simp [List.getD_eq_getElem?_getD, hlt]
    have := ih (k + 1) (p.set ((i * w + k) / 8) (orB p[(i * w + k) / 8] u k (i * w + k))) q (by omega) (by simpa using hp) (by omega)
    rw [packIn, hg, Lflagstoneref31_encode_3_eq]
    rw [ha, hb, hc, nat_u64 (k := k) (by omega), nat_u64' (a := i * w + k)]
    generalize hat : i * w + k = a at *
    generalize hn : (l.length * w + 7) / 8 = n at *
    have hk0 : ¬ ((k : Int) < 0) := by omega
    have hm0 : ¬ (((a % 8 : Nat) : Int) < 0) := by omega
    have h2 : (0 : Int) ≤ ((a / 8 : Nat) : Int) ∧ ((a / 8 : Nat) : Int) < (n : Int) := by omega
    rw [if_pos h2]
    simp only [h1, Int.ofNat_lt, decide_true, cond_true, hk0, hm0, not_false_eq_true, if_true, h2, Int.toNat_natCast, Nat.zero_add]
    simp only [List.getElem?_eq_getElem (show a / 8 < (u8V p).length by simpa using hlt), u8V_getElem, Option.bind_some, cells_int, List.getElem?_cons_zero, asInt_int, setCells_int, u8V_set, wrap_succ (i := k) (by omega)]
    simpa [orB] using this

theorem enc_bits_outer {l s : List Int} {w : Nat} (hl : l.length ≤ 1000000) (hw : w ≤ 64) (hs : 0 < s.length) {b : List UInt8} (hb : b.length ≤ 2000000) : ∀ (d i : Nat) (p : List Int) (q : Nat), i + d = l.length → p.length = (l.length * w + 7) / 8 → Bytes p → d < q →
    Lflagstoneref31_encode_1 N0 flagstoneref31_encode_G q (intV l) w 0 ((l.length * w + 7) / 8 : Nat) i (byV b) (intV s) (u8V p) =
      some ([.sl 1 (byV (b ++ (packOut s[0] w (l.drop i) i p).map fun x => UInt8.ofNat x.toNat))], []) := by
  have hsz : (l.length * w + 7) / 8 ≤ 8000001 := by
    have : l.length * w ≤ 1000000 * 64 := Nat.mul_le_mul hl hw
    omega
  intro d
  induction d with
  | zero =>
    intro i p q hd hp hB hq
    obtain ⟨q, rfl, _⟩ := rounds hq
    have hi : ¬ i < l.length := by omega
    have e : packOut s[0] w (l.drop i) i p = p := by rw [List.drop_of_length_le (by omega)]; rfl
    rw [Lflagstoneref31_encode_1_eq, e]
    simp only [List.take_length, List.drop_zero]
    rw [u8V_take_all (by omega), u8V_byV hB, byV_app]
    have r : room (b.length + p.length) 1 := room1 (by omega)
    simp [hi, r, -List.all_eq_true]
  | succ d ih =>
    intro i p q hd hp hB hq
    obtain ⟨q, rfl, hq⟩ := rounds hq
    have hi : i < l.length := by omega
    have h1 := enc_bits_inner (s := s) hl hw hi (u := offU l[i] s[0]) (b := b) q w 0 p N0 (by omega) hp (N0_pos (by omega))
    have h2 := ih (i + 1) (packIn (offU l[i] s[0]) i w w 0 p) q (by omega) (by rw [packIn_length]; exact hp) (packIn_bytes _ _ _ _ _ _ hB) (by omega)
    rw [Lflagstoneref31_encode_1_eq, List.drop_eq_getElem_cons hi, packOut, ← h2]
    have hi2 : (i : Int) < (l.length : Int) := by omega
    simp only [offU] at h1
    simp [hi, hs, offU]
    simpa using h1

/-- The five bodies. -/
def bodyB (kind : Nat) (l : List Int) : List UInt8 := if kind = 1 then plainB l else if kind = 2 then runsB l else if kind = 3 then stepsB l else if kind = 4 then indexB l else bitsB l
def headB (kind : Nat) (l : List Int) : List UInt8 := grp (zig (kind : Int)) ++ grp (zig (l.length : Int))
def encB (kind : Nat) (l : List Int) : List UInt8 := headB kind l ++ bodyB kind l

theorem flagstoneref31_encode_eq' {l : List Int} {kind : Nat} (hk1 : 1 ≤ kind) (hk5 : kind ≤ 5) (hI : ∀ x ∈ l, I64 x) (h0 : l ≠ []) (hl : l.length ≤ 1000000) :
    flagstoneref31_encode [.int .i64 kind, .sl 1 (intV l)] = some ([.sl 1 (byV (encB kind l))], []) := by
  have hx1 : I64 (kind : Int) := I64_nat (by omega)
  have hx2 : I64 (l.length : Int) := I64_nat (by omega)
  have hg1 := grp_zig_len hx1
  have hg2 := grp_zig_len hx2
  have hpos : 0 < l.length := List.length_pos_iff.2 h0
  have c1 : flagstoneref31_encode_G 3 [.sl 1 [], .int .i64 kind] = some ([.sl 1 (byV (grp (zig (kind : Int))))], []) := flagstoneref4_PutNumber_eq' (a := []) hx1 (by simp)
  have c2 : flagstoneref31_encode_G 3 [.sl 1 (byV (grp (zig (kind : Int)))), .int .i64 l.length] = some ([.sl 1 (byV (headB kind l))], []) := flagstoneref4_PutNumber_eq' hx2 (by omega)
  have hh : (headB kind l).length ≤ 20 := by simp [headB]; omega
  unfold flagstoneref31_encode
  rw [Rflagstoneref31_encode_eq]
  simp only [List.take_length, List.drop_zero]
  have hcases : kind = 1 ∨ kind = 2 ∨ kind = 3 ∨ kind = 4 ∨ kind = 5 := by omega
  rcases hcases with rfl | rfl | rfl | rfl | rfl
  · have := enc_plain hI hl l.length 0 (headB 1 l) N0 (by omega) (N0_pos (by omega)) (by omega)
    simp only [Int.natCast_zero, Int.natCast_one] at c1 c2 this
    simp [c1, c2]
    simpa [encB, bodyB] using this
  · have := enc_runs hI hl l.length 0 (headB 2 l) N0 (by omega) (N0_pos (by omega)) (by omega)
    have e : ((2 : Nat) : Int) = 2 := rfl
    simp only [Int.natCast_zero, e] at c1 c2 this
    simp [c1, c2]
    simpa [encB, bodyB] using this
  · have hx := hI _ (List.getElem_mem hpos)
    have hgl := grp_zig_len hx
    have e : ((3 : Nat) : Int) = 3 := rfl
    have c3 : flagstoneref31_encode_G 3 [.sl 1 (byV (headB 3 l)), .int .i64 l[0]] = some ([.sl 1 (byV (headB 3 l ++ grp (zig l[0])))], []) := flagstoneref4_PutNumber_eq' hx (by omega)
    have := enc_steps hI hl (l.length - 1) 1 (headB 3 l ++ grp (zig l[0])) N0 (by omega) (by omega) (by omega) (N0_pos (by omega)) (by simp; omega)
    simp only [Int.natCast_one, e] at c1 c2 this
    simp [c1, c2, hpos, c3]
    have e2 : stepsB l = grp (zig l[0]) ++ stepsFrom l[0] (l.drop 1) := by
      cases l with
      | nil => exact absurd rfl h0
      | cons x l =>
        have hw : IntKind.i64.wrap x = x := wrap_i64 (by simpa using hx.1) (by simpa using hx.2)
        simp [stepsB, stepsFrom, hw]
    simpa [encB, bodyB, e2] using this
  · have e : ((4 : Nat) : Int) = 4 := rfl
    have hdl := distinctL_len l
    have hdI : ∀ x ∈ distinctL l, I64 x := fun x hx => hI x (mem_distinctL.1 hx)
    have hx : I64 ((distinctL l).length : Int) := I64_nat (by omega)
    have hgl := grp_zig_len hx
    have g0 : flagstoneref31_encode_G 0 [.sl 1 (intV l)] = some ([.sl 1 (intV (distinctL l))], []) := flagstoneref31_distinct_eq' hl
    have c3 : flagstoneref31_encode_G 3 [.sl 1 (byV (headB 4 l)), .int .i64 (distinctL l).length] = some ([.sl 1 (byV (headB 4 l ++ grp (zig ((distinctL l).length : Int))))], []) := flagstoneref4_PutNumber_eq' hx (by omega)
    have h1 := enc_keys (l := l) 0 hdI (by omega) (distinctL l).length 0 (headB 4 l ++ grp (zig ((distinctL l).length : Int))) N0 (by omega) (N0_pos (by omega)) (by simp; omega)
    have hpl := plainB_len hdI
    have h2 := enc_index (l := l) (distinctL_asc l) (fun x hx => mem_distinctL.2 hx) (by omega) hl l.length 0 (headB 4 l ++ grp (zig ((distinctL l).length : Int)) ++ plainB (distinctL l)) N0 (by omega) (N0_pos (by omega)) (by simp; omega)
    simp only [Int.natCast_zero, e, List.drop_zero] at c1 c2 h1 h2
    simp [c1, c2, g0, c3, h1]
    simpa [encB, bodyB, indexB, posB] using h2
  · have e : ((5 : Nat) : Int) = 5 := rfl
    obtain ⟨d0, d1, d2⟩ := distinct_ends h0
    obtain ⟨m1, m2⟩ := minL_facts h0
    obtain ⟨m3, m4⟩ := maxL_facts h0
    have hmin := hI _ m1
    have hmax := hI _ m3
    have hw := widthL_le hI h0
    have hdl := distinctL_len l
    have hu : (maxL l - minL l).toNat < 18446744073709551616 := by have := hmax.2; have := hmin.1; omega
    have eo := offU_eq hmax hmin (m2 _ m3)
    have hx : I64 (widthL l : Int) := I64_nat (by omega)
    have hgl := grp_zig_len hmin
    have hgl2 := grp_zig_len hx
    have g0 : flagstoneref31_encode_G 0 [.sl 1 (intV l)] = some ([.sl 1 (intV (distinctL l))], []) := flagstoneref31_distinct_eq' hl
    have g2 : flagstoneref31_encode_G 2 [.int .u64 (offU (maxL l) (minL l))] = some ([.int .i64 (widthL l)], []) := by rw [eo]; exact flagstoneref31_width_eq' hu
    have c3 : flagstoneref31_encode_G 3 [.sl 1 (byV (headB 5 l)), .int .i64 (minL l)] = some ([.sl 1 (byV (headB 5 l ++ grp (zig (minL l))))], []) := flagstoneref4_PutNumber_eq' hmin (by omega)
    have c4 : flagstoneref31_encode_G 3 [.sl 1 (byV (headB 5 l ++ grp (zig (minL l)))), .int .i64 (widthL l)] = some ([.sl 1 (byV (headB 5 l ++ grp (zig (minL l)) ++ grp (zig (widthL l : Int))))], []) := flagstoneref4_PutNumber_eq' hx (by simp; omega)
    have hsw := size_wrap (n := l.length) (w := widthL l) hl hw
    have hsz : (l.length * widthL l + 7) / 8 ≤ 8000001 := by
      have : l.length * widthL l ≤ 1000000 * 64 := Nat.mul_le_mul hl hw
      omega
    have hloop := enc_bits_outer (l := l) (s := distinctL l) (w := widthL l) hl hw d0 (b := headB 5 l ++ grp (zig (minL l)) ++ grp (zig (widthL l : Int))) (by simp; omega) l.length 0 (List.replicate ((l.length * widthL l + 7) / 8) 0) N0 (by omega) (by simp) (rep_bytes _) (N0_pos (by omega))
    rw [d1] at hloop
    have hlast := wrap_pred (i := (distinctL l).length) d0 (by omega)
    have hlast2 : (distinctL l).length - 1 < (distinctL l).length := by omega
    simp only [offU] at g2
    simp only [Int.natCast_zero, e, List.drop_zero] at c1 c2 hloop
    generalize hn : (l.length * widthL l + 7) / 8 = n at *
    simp only [List.append_assoc] at c4 hloop
    have h1 : (n : Int) ≤ 281474976710656 := by omega
    have h2 : (n : Int) ≤ 9223372036854775807 := by omega
    simp [c1, c2, g0, hlast, hlast2, d0, d1, d2, g2, c3, c4, hsw, h1, h2]
    rw [u8V_rep]
    simpa [encB, bodyB, bitsB, packB, hn] using hloop

end Go.Proofs.YtdhdhcllgkddnaaGreat.Va

namespace Go.Proofs.YtdhdhcllgkddnaaGreat.Va
open Go Go.RowKit

def pick (best b : List UInt8) : List UInt8 := if b.length < best.length then b else best
def intsB (l : List Int) : List UInt8 :=
  if l = [] then [2, 0] else pick (pick (pick (pick (encB 1 l) (encB 2 l)) (encB 3 l)) (encB 4 l)) (encB 5 l)

theorem zig_two : grp (zig (1 : Int)) ++ grp (zig (0 : Int)) = [2, 0] := by
  have e1 : zig 1 = 2 := by decide
  have e2 : zig 0 = 0 := by decide
  rw [e1, e2, grp, grp]
  decide

theorem flagstoneref31_Ints_eq' {l : List Int} (hI : ∀ x ∈ l, I64 x) (hl : l.length ≤ 1000000) : flagstoneref31_Ints [.sl 1 (intV l)] = some ([.sl 1 (byV (intsB l))], []) := by
  unfold flagstoneref31_Ints
  rw [Rflagstoneref31_Ints_eq]
  by_cases h0 : l = []
  · subst h0
    simp [intsB, byV]
  · have g : ∀ kind : Nat, 1 ≤ kind → kind ≤ 5 → flagstoneref31_Ints_G 0 [.int .i64 kind, .sl 1 (intV l)] = some ([.sl 1 (byV (encB kind l))], []) := fun kind h1 h5 => flagstoneref31_encode_eq' h1 h5 hI h0 hl
    have hne : ((l.length : Int) == 0) = false := by simp [h0]
    have hend : ∀ (b : List UInt8) (k : Nat), Lflagstoneref31_Ints_0 N0 flagstoneref31_Ints_G (k + 1) (intV l) 6 (byV b) = some ([.sl 1 (byV b)], []) := fun b k => by
      rw [Lflagstoneref31_Ints_0_eq]
      simp only [List.take_length]
      simp [-List.all_eq_true]
    have hstep : ∀ (kind : Nat) (b : List UInt8) (k : Nat), 2 ≤ kind → kind ≤ 5 → Lflagstoneref31_Ints_0 N0 flagstoneref31_Ints_G (k + 1) (intV l) kind (byV b) = Lflagstoneref31_Ints_0 N0 flagstoneref31_Ints_G k (intV l) ((kind : Int) + 1) (byV (pick b (encB kind l))) := fun kind b k h1 h5 => by
      have h5' : (kind : Int) ≤ 5 := by omega
      rw [Lflagstoneref31_Ints_0_eq]
      simp only [List.take_length]
      simp only [h5', decide_true, cond_true, g kind (by omega) h5, wrap_succ (i := kind) (by omega)]
      by_cases h : (encB kind l).length < b.length <;> simp [pick, h]
    obtain ⟨k, hk⟩ : ∃ k, N0 = k + 1 + 1 + 1 + 1 + 1 := ⟨N0 - 5, by have := N0_pos (k := 10) (by decide); omega⟩
    have g1 := g 1 (by decide) (by decide)
    have s2 := hstep 2 (encB 1 l) (k + 1 + 1 + 1) (by decide) (by decide)
    have s3 := hstep 3 (pick (encB 1 l) (encB 2 l)) (k + 1 + 1) (by decide) (by decide)
    have s4 := hstep 4 (pick (pick (encB 1 l) (encB 2 l)) (encB 3 l)) (k + 1) (by decide) (by decide)
    have s5 := hstep 5 (pick (pick (pick (encB 1 l) (encB 2 l)) (encB 3 l)) (encB 4 l)) k (by decide) (by decide)
    have key : Lflagstoneref31_Ints_0 N0 flagstoneref31_Ints_G N0 (intV l) 2 (byV (encB 1 l)) = some ([.sl 1 (byV (intsB l))], []) := by
      conv => lhs; arg 3; rw [hk]
      rw [show (2 : Int) = ((2 : Nat) : Int) from rfl, hstep 2 _ _ (by decide) (by decide), show ((2 : Nat) : Int) + 1 = ((3 : Nat) : Int) from rfl, hstep 3 _ _ (by decide) (by decide), show ((3 : Nat) : Int) + 1 = ((4 : Nat) : Int) from rfl,
        hstep 4 _ _ (by decide) (by decide), show ((4 : Nat) : Int) + 1 = ((5 : Nat) : Int) from rfl, hstep 5 _ _ (by decide) (by decide), show ((5 : Nat) : Int) + 1 = 6 from rfl, hend]
      rw [intsB, if_neg h0]
    simp only [Int.natCast_one] at g1
    simp [h0, hne, g1]
    exact key

theorem grp_ne (u : Nat) : grp u ≠ [] := by rw [grp]; split <;> simp
theorem encB_ne (kind : Nat) (l : List Int) : encB kind l ≠ [] := by simp [encB, headB, grp_ne]
theorem pick_chain {α : Type} (F : List UInt8 → α) (b e : List UInt8) : (bif decide (e.length < b.length) then F e else F b) = F (pick b e) := by
  by_cases h : e.length < b.length <;> simp [pick, h]

theorem column_Ints_eq' {l : List Int} (hI : ∀ x ∈ l, I64 x) (hl : l.length ≤ 1000000) : column_Ints [.sl 1 (intV l)] = some ([.sl 1 (byV (intsB l))], []) := by
  have hx2 : I64 (l.length : Int) := I64_nat (by omega)
  have hg2 := grp_zig_len hx2
  have g0 : ∃ c, column_Ints_G 0 [] = some ([c], []) := ⟨_, Rcolumn_codecs_eq N0 column_codecs_G⟩
  obtain ⟨c, g0⟩ := g0
  have hk : ∀ kind : Nat, kind ≤ 5 → column_Ints_G 6 [.sl 1 [], .int .i64 kind] = some ([.sl 1 (byV (grp (zig (kind : Int))))], []) ∧
      column_Ints_G 6 [.sl 1 (byV (grp (zig (kind : Int)))), .int .i64 l.length] = some ([.sl 1 (byV (headB kind l))], []) ∧ (headB kind l).length ≤ 20 := fun kind h => by
    have hx : I64 (kind : Int) := I64_nat (by omega)
    have hg := grp_zig_len hx
    exact ⟨wire_PutNumber_eq (a := []) hx (by simp), wire_PutNumber_eq hx2 (by omega), by simp [headB]; omega⟩
  obtain ⟨a1, b1, l1⟩ := hk 1 (by decide)
  obtain ⟨a2, b2, l2⟩ := hk 2 (by decide)
  obtain ⟨a3, b3, l3⟩ := hk 3 (by decide)
  obtain ⟨a4, b4, l4⟩ := hk 4 (by decide)
  obtain ⟨a5, b5, l5⟩ := hk 5 (by decide)
  unfold column_Ints
  rw [Rcolumn_Ints_eq]
  simp only [List.take_length, List.drop_zero]
  by_cases h0 : l = []
  · subst h0
    simp only [Int.natCast_one, intV_nil, List.length_nil, Int.natCast_zero] at a1 b1
    have e : headB 1 [] = [2, 0] := zig_two
    rw [e] at b1
    simp [g0, a1, b1, intsB, -List.all_eq_true]
  · have p1 : column_Ints_G 3 [.sl 1 (byV (headB 1 l)), .sl 1 (intV l)] = some ([.sl 1 (byV (encB 1 l))], []) := column_putPlain_eq' hI hl (by omega)
    have p2 : column_Ints_G 4 [.sl 1 (byV (headB 2 l)), .sl 1 (intV l)] = some ([.sl 1 (byV (encB 2 l))], []) := column_putRuns_eq' hI hl (by omega)
    have p3 : column_Ints_G 5 [.sl 1 (byV (headB 3 l)), .sl 1 (intV l)] = some ([.sl 1 (byV (encB 3 l))], []) := column_putSteps_eq' hI hl (by omega)
    have p4 : column_Ints_G 2 [.sl 1 (byV (headB 4 l)), .sl 1 (intV l)] = some ([.sl 1 (byV (encB 4 l))], []) := column_putIndex_eq' hI h0 hl (by omega)
    have p5 : column_Ints_G 1 [.sl 1 (byV (headB 5 l)), .sl 1 (intV l)] = some ([.sl 1 (byV (encB 5 l))], []) := column_putBits_eq' hI h0 hl (by omega)
    have hn1 := encB_ne 1 l
    have hn2 := encB_ne 2 l
    have hn3 := encB_ne 3 l
    have hn4 := encB_ne 4 l
    have hn5 := encB_ne 5 l
    have hi : intsB l = pick (pick (pick (pick (encB 1 l) (encB 2 l)) (encB 3 l)) (encB 4 l)) (encB 5 l) := by rw [intsB, if_neg h0]
    rw [hi]
    simp only [Int.natCast_one, show ((2 : Nat) : Int) = 2 from rfl, show ((3 : Nat) : Int) = 3 from rfl, show ((4 : Nat) : Int) = 4 from rfl, show ((5 : Nat) : Int) = 5 from rfl] at a1 b1 a2 b2 a3 b3 a4 b4 a5 b5
    have hne : ((l.length : Int) == 0) = false := by simp [h0]
    generalize encB 1 l = e1 at *
    generalize encB 2 l = e2 at *
    generalize encB 3 l = e3 at *
    generalize encB 4 l = e4 at *
    generalize encB 5 l = e5 at *
    simp [h0, hne, g0, a1, b1, a2, b2, a3, b3, a4, b4, a5, b5, p1, p2, p3, p4, p5, hn1, hn2, hn3, hn4, -List.all_eq_true]
    have q1 : ∀ b e : List UInt8, (bif decide (e.length < b.length) then (some ([V.sl 1 (byV e)], []) : Ans) else some ([V.sl 1 (byV b)], [])) = some ([V.sl 1 (byV (pick b e))], []) := pick_chain fun t => some ([V.sl 1 (byV t)], [])
    have q2 : ∀ x b e : List UInt8, (bif decide (e.length < b.length) then (some ([V.sl 1 (byV (pick e x))], []) : Ans) else some ([V.sl 1 (byV (pick b x))], [])) = some ([V.sl 1 (byV (pick (pick b e) x))], []) := fun x => pick_chain fun t => some ([V.sl 1 (byV (pick t x))], [])
    have q3 : ∀ x y b e : List UInt8, (bif decide (e.length < b.length) then (some ([V.sl 1 (byV (pick (pick e x) y))], []) : Ans) else some ([V.sl 1 (byV (pick (pick b x) y))], [])) = some ([V.sl 1 (byV (pick (pick (pick b e) x) y))], []) := fun x y => pick_chain fun t => some ([V.sl 1 (byV (pick (pick t x) y))], [])
    have q4 : ∀ x y z b e : List UInt8, (bif decide (e.length < b.length) then (some ([V.sl 1 (byV (pick (pick (pick e x) y) z))], []) : Ans) else some ([V.sl 1 (byV (pick (pick (pick b x) y) z))], [])) = some ([V.sl 1 (byV (pick (pick (pick (pick b e) x) y) z))], []) := fun x y z => pick_chain fun t => some ([V.sl 1 (byV (pick (pick (pick t x) y) z))], [])
    simp only [q1, q2, q3, q4]

end Go.Proofs.YtdhdhcllgkddnaaGreat.Va

namespace Go.Proofs.YtdhdhcllgkddnaaGreat.Va
open Go Go.RowKit

theorem grp_small {u : Nat} (h : u < 128) : grp u = [UInt8.ofNat u] := by rw [grp, if_pos h]
theorem g_of {n : Int} {u : Nat} (e : zig n = u) (h : u < 128) : grp (zig n) = [UInt8.ofNat u] := by rw [e, grp_small h]

theorem ints7 : intsB [7, 7, 7, 7] = [4, 8, 14, 8] := by
  have g0 : grp (zig 0) = [0] := g_of (u := 0) (by decide) (by decide)
  have g1 : grp (zig 1) = [2] := g_of (u := 2) (by decide) (by decide)
  have g2 : grp (zig 2) = [4] := g_of (u := 4) (by decide) (by decide)
  have g3 : grp (zig 3) = [6] := g_of (u := 6) (by decide) (by decide)
  have g4 : grp (zig 4) = [8] := g_of (u := 8) (by decide) (by decide)
  have g5 : grp (zig 5) = [10] := g_of (u := 10) (by decide) (by decide)
  have g7 : grp (zig 7) = [14] := g_of (u := 14) (by decide) (by decide)
  have hd : distinctL [7, 7, 7, 7] = [7] := by decide
  have hr : runsB [7, 7, 7, 7] = [14, 8] := by
    have := runsB_rep 7 [] (by simp) 3
    simp only [show List.replicate (3 + 1) (7 : Int) ++ [] = [7, 7, 7, 7] from rfl] at this
    rw [this, g7, runsB]
    have e : ((3 + 1 : Nat) : Int) = 4 := rfl
    rw [e, g4]
    rfl
  have hs : stepsB [7, 7, 7, 7] = [14, 0, 0, 0] := by
    have w7 : IntKind.i64.wrap 7 = 7 := by decide
    have w0 : IntKind.i64.wrap 0 = 0 := by decide
    simp [stepsB, stepsFrom, w7, w0, g7, g0]
  have hw : widthL [7, 7, 7, 7] = 0 := by
    have : (maxL [7, 7, 7, 7] - minL [7, 7, 7, 7]).toNat = 0 := by decide
    rw [widthL, this, wid]; rfl
  have hm : minL [7, 7, 7, 7] = 7 := by decide
  have e1 : encB 1 [7, 7, 7, 7] = [2, 8, 14, 14, 14, 14] := by simp [encB, headB, bodyB, plainB, g1, g4, g7]
  have e2 : encB 2 [7, 7, 7, 7] = [4, 8, 14, 8] := by simp [encB, headB, bodyB, hr, g2, g4]
  have e3 : encB 3 [7, 7, 7, 7] = [6, 8, 14, 0, 0, 0] := by simp [encB, headB, bodyB, hs, g3, g4]
  have e4 : (encB 4 [7, 7, 7, 7]).length = 8 := by simp [encB, headB, bodyB, indexB, hd, plainB, posOf, g4, g1, g7, g0]
  have e5 : (encB 5 [7, 7, 7, 7]).length = 4 := by simp [encB, headB, bodyB, bitsB, hw, hm, packB, packOut_length, g5, g4, g7, g0]
  rw [intsB, if_neg (by simp), e1, e2, e3]
  simp [pick, e4, e5]

theorem flagstonelaw31_awake_eq' : flagstonelaw31_awake [] = some ([.bool true], []) := by
  have g1 : flagstonelaw31_awake_G 0 [.sl 1 (intV [7, 7, 7, 7])] = some ([.sl 1 (byV [4, 8, 14, 8])], []) := by
    rw [← ints7]; exact column_Ints_eq' (by decide) (by decide)
  have g2 : flagstonelaw31_awake_G 0 [.sl 1 (intV [])] = some ([.sl 1 (byV [2, 0])], []) := by
    have := column_Ints_eq' (l := []) (by simp) (by simp)
    rwa [intsB, if_pos rfl] at this
  unfold flagstonelaw31_awake
  rw [Rflagstonelaw31_awake_eq]
  simp only [intV, List.map_cons, List.map_nil] at g1 g2
  simp [g1, g2, -List.all_eq_true]

end Go.Proofs.YtdhdhcllgkddnaaGreat.Va

namespace Go.Proofs.YtdhdhcllgkddnaaGreat.Va
open Go Go.RowKit

theorem pick_le (a b : List UInt8) : (pick a b).length ≤ a.length ∧ (pick a b).length ≤ b.length := by unfold pick; split <;> omega
theorem intsB_le {l : List Int} (h : l ≠ []) {k : Nat} (h1 : 1 ≤ k) (h5 : k ≤ 5) : (intsB l).length ≤ (encB k l).length := by
  unfold intsB
  rw [if_neg h]
  have a2 := pick_le (encB 1 l) (encB 2 l)
  have a3 := pick_le (pick (encB 1 l) (encB 2 l)) (encB 3 l)
  have a4 := pick_le (pick (pick (encB 1 l) (encB 2 l)) (encB 3 l)) (encB 4 l)
  have a5 := pick_le (pick (pick (pick (encB 1 l) (encB 2 l)) (encB 3 l)) (encB 4 l)) (encB 5 l)
  rcases (by omega : k = 1 ∨ k = 2 ∨ k = 3 ∨ k = 4 ∨ k = 5) with rfl | rfl | rfl | rfl | rfl <;> omega
theorem zig_nat (n : Nat) : zig (n : Int) = 2 * n := by unfold zig; rw [if_neg (by omega)]; omega
theorem zig_small {s : Int} (h : -60 ≤ s ∧ s ≤ 60) : zig s < 128 := by unfold zig; split <;> omega
theorem grp1 {n : Int} {u : Nat} (e : zig n = u) (h : u < 128) : (grp (zig n)).length = 1 := by rw [g_of e h]; rfl
theorem grp2 {u : Nat} (h : u < 16384) : (grp u).length ≤ 2 := grp_len 1 u h
theorem headB_len {k : Nat} {l : List Int} (h1 : 1 ≤ k) (h5 : k ≤ 5) (hl : l.length ≤ 200) : (headB k l).length ≤ 3 := by
  have e1 : (grp (zig (k : Int))).length = 1 := grp1 (zig_nat k) (by omega)
  have e2 : (grp (zig (l.length : Int))).length ≤ 2 := grp2 (by rw [zig_nat]; omega)
  simp only [headB, List.length_append]
  omega
theorem short_same {a : Int} {k : Nat} (ha : I64 a) (h1 : 1 ≤ k) (hk : k ≤ 200) : (intsB (List.replicate k a)).length ≤ 16 := by
  obtain ⟨m, rfl⟩ : ∃ m, k = m + 1 := ⟨k - 1, by omega⟩
  have h0 : List.replicate (m + 1) a ≠ [] := by simp
  have h := intsB_le h0 (k := 2) (by omega) (by omega)
  have hh := headB_len (k := 2) (l := List.replicate (m + 1) a) (by omega) (by omega) (by simpa using hk)
  have hr := runsB_rep a [] (by simp) m
  rw [List.append_nil] at hr
  have g1 := grp_zig_len ha
  have g2 : (grp (zig ((m + 1 : Nat) : Int))).length ≤ 2 := grp2 (by rw [zig_nat]; omega)
  have e : (encB 2 (List.replicate (m + 1) a)).length ≤ 15 := by
    have hb : bodyB 2 (List.replicate (m + 1) a) = runsB (List.replicate (m + 1) a) := rfl
    have hn : (runsB []).length = 0 := by rw [runsB]; rfl
    rw [encB, hb, hr]
    simp only [List.length_append, hn]
    omega
  omega
theorem short_plain {l : List Int} (hI : ∀ x ∈ l, I64 x) (h0 : l ≠ []) (hl : l.length ≤ 200) : (intsB l).length ≤ 3 + 10 * l.length := by
  have h := intsB_le h0 (k := 1) (by omega) (by omega)
  have hh := headB_len (k := 1) (l := l) (by omega) (by omega) hl
  have hp := plainB_len hI
  have e : (encB 1 l).length ≤ 3 + 10 * l.length := by
    simp only [encB, bodyB, List.length_append]
    simp
    omega
  omega
theorem stepsFrom_short {step : Int} (hs : -60 ≤ step ∧ step ≤ 60) : ∀ (l : List Int) (p : Int), (∀ i (h : i < l.length), IntKind.i64.wrap (l[i] - (p :: l)[i]'(by simp; omega)) = step) → (stepsFrom p l).length ≤ l.length := by
  intro l
  induction l with
  | nil => intro p _; simp [stepsFrom]
  | cons x l ih =>
    intro p h
    have h0 := h 0 (by simp)
    simp only [List.getElem_cons_zero] at h0
    have := ih x fun i hi => h (i + 1) (by simpa using hi)
    have e : (grp (zig step)).length = 1 := grp1 (u := zig step) rfl (zig_small hs)
    simp only [stepsFrom, List.length_append, h0, e, List.length_cons]
    omega
theorem short_steps {step x : Int} {l : List Int} (hs : -60 ≤ step ∧ step ≤ 60) (hl : (x :: l).length ≤ 200) (h : ∀ i (h : i < l.length), IntKind.i64.wrap (l[i] - (x :: l)[i]'(by simp; omega)) = step) : (intsB (x :: l)).length ≤ 13 + (x :: l).length := by
  have h3 := intsB_le (l := x :: l) (by simp) (k := 3) (by omega) (by omega)
  have hh := headB_len (k := 3) (l := x :: l) (by omega) (by omega) hl
  have hp := stepsFrom_short hs l x h
  have g1 := grp_zig_len (wrap_in (x - 0))
  have e : (encB 3 (x :: l)).length ≤ 13 + l.length := by
    simp only [encB, bodyB, List.length_append]
    simp [stepsB, stepsFrom] at g1 ⊢
    omega
  simp only [List.length_cons]
  omega
theorem wid_one {u : Nat} (h : u ≤ 1) : wid u ≤ 1 := wid_le 1 u (by omega)
theorem short_bits {y : Int} {l : List Int} (hI : ∀ x ∈ l, I64 x) (h : ∀ x ∈ l, x = y ∨ x = y + 1) (hl : l.length ≤ 200) : (intsB l).length ≤ 14 + (l.length + 7) / 8 := by
  by_cases h0 : l = []
  · subst h0; simp [intsB]
  have h5 := intsB_le h0 (k := 5) (by omega) (by omega)
  have hh := headB_len (k := 5) (l := l) (by omega) (by omega) hl
  have m1 := minL_facts h0
  have m2 := maxL_facts h0
  have a1 := h _ m1.1
  have a2 := h _ m2.1
  have hw : widthL l ≤ 1 := wid_one (by omega)
  have g1 := grp_zig_len (hI _ m1.1)
  have g2 : (grp (zig (widthL l : Int))).length = 1 := grp1 (zig_nat _) (by omega)
  have hm : l.length * widthL l ≤ l.length := by
    have := Nat.mul_le_mul_left l.length hw
    omega
  have hp : (packB (minL l) (widthL l) l).length ≤ (l.length + 7) / 8 := by
    simp only [packB, List.length_map, packOut_length, List.length_replicate]
    exact Nat.div_le_div_right (by omega)
  have e : (encB 5 l).length ≤ 14 + (l.length + 7) / 8 := by
    simp only [encB, bodyB, List.length_append]
    simp [bitsB]
    omega
  omega

end Go.Proofs.YtdhdhcllgkddnaaGreat.Va
