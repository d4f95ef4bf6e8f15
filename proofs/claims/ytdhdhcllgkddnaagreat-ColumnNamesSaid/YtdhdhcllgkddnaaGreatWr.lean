/-
  Laws of functions: readers of numbers, column's read functions.
-/
import Derived.Test.YtdhdhcllgkddnaaGreatWm
import Derived.Test.YtdhdhcllgkddnaaGreatWq
import Derived.Test.YtdhdhcllgkddnaaGreatWu
namespace Go.Proofs.YtdhdhcllgkddnaaGreat.Va
open Go Go.RowKit

/-- What a reader of numbers does at byte i of a number: the number's bits from there on and how many bytes they take, or an error. -/
def prs : Nat → List UInt8 → Except Int (Nat × Nat)
  | _, [] => .error 16
  | i, c :: r => if i = 9 ∧ 1 < c.toNat then .error 3 else if 128 ≤ c.toNat then (match prs (i + 1) r with | .error e => .error e | .ok (u, n) => .ok (c.toNat - 128 + 128 * u, n + 1)) else if c.toNat = 0 ∧ 0 < i then .error 1 else .ok (c.toNat, 1)

def unzig (u : Nat) : Int := if u % 2 = 1 then -((u / 2 : Nat) : Int) - 1 else ((u / 2 : Nat) : Int)
theorem unzig_zig (n : Int) : unzig (zig n) = n := by unfold unzig zig; split <;> split <;> omega
theorem zig_unzig (u : Nat) : zig (unzig u) = u := by unfold unzig zig; split <;> split <;> omega
theorem unzig_I64 {u : Nat} (h : u < 18446744073709551616) : I64 (unzig u) := by unfold unzig I64; split <;> omega

theorem grp_ne' (u : Nat) : ∃ c r, grp u = c :: r := by rw [grp]; split <;> exact ⟨_, _, rfl⟩

theorem u8_small {u : Nat} (h : u < 256) : (UInt8.ofNat u).toNat = u := by simp; omega

theorem prs_grp : ∀ (j i u : Nat) (r : List UInt8), i + j = 9 → u < 2 * 128 ^ j → (i = 0 ∨ 0 < u) → prs i (grp u ++ r) = .ok (u, (grp u).length)
  | 0, i, u, r, hi, hu, h0 => by
    have hi9 : i = 9 := by omega
    have hu2 : u < 2 := by simpa using hu
    rw [grp, if_pos (by omega)]
    simp only [List.cons_append, List.nil_append, prs, u8_small (show u < 256 by omega)]
    rw [if_neg (by omega), if_neg (by omega), if_neg (by omega)]
    rfl
  | j + 1, i, u, r, hi, hu, h0 => by
    rw [grp]
    split
    · simp only [List.cons_append, List.nil_append, prs, u8_small (show u < 256 by omega)]
      rw [if_neg (by omega), if_neg (by omega), if_neg (by omega)]
      rfl
    · rename_i h
      have ih := prs_grp j (i + 1) (u / 128) r (by omega) (by
        rw [Nat.pow_succ] at hu
        omega) (.inr (by omega))
      simp only [List.cons_append, prs, u8_small (show u % 128 + 128 < 256 by omega), ih]
      rw [if_neg (by omega), if_pos (by omega)]
      simp only [List.length_cons, Except.ok.injEq, Prod.mk.injEq, and_true]
      omega

theorem prs_of : ∀ (b : List UInt8) (i u n : Nat), prs i b = .ok (u, n) → i ≤ 9 → b.take n = grp u ∧ n = (grp u).length ∧ u < 2 * 128 ^ (9 - i) ∧ (i = 0 ∨ 0 < u)
  | [], i, u, n, h, _ => by simp [prs] at h
  | c :: r, i, u, n, h, hi => by
    have hc : c.toNat < 256 := c.toNat_lt
    rw [prs] at h
    split at h
    · cases h
    rename_i h9
    split at h
    · rename_i hc2
      have hi8 : i ≤ 8 := by omega
      split at h
      · cases h
      · rename_i v m hv
        have ih := prs_of r (i + 1) v m hv (by omega)
        simp only [Except.ok.injEq, Prod.mk.injEq] at h
        obtain ⟨rfl, rfl⟩ := h
        have hv0 : 0 < v := by rcases ih.2.2.2 with h | h <;> omega
        have hg : grp (c.toNat - 128 + 128 * v) = c :: grp v := by
          rw [grp, if_neg (by omega)]
          congr 1
          · rw [show (c.toNat - 128 + 128 * v) % 128 + 128 = c.toNat by omega]
            exact UInt8.ofNat_toNat
          · rw [show (c.toNat - 128 + 128 * v) / 128 = v by omega]
        refine ⟨by rw [hg, List.take_succ_cons, ih.1], by rw [hg, List.length_cons, ← ih.2.1], ?_, .inr (by omega)⟩
        have e : 128 ^ (9 - i) = 128 ^ (9 - (i + 1)) * 128 := by rw [← Nat.pow_succ]; congr 1; omega
        rw [e]
        omega
    · rename_i hc2
      split at h
      · cases h
      rename_i h0
      simp only [Except.ok.injEq, Prod.mk.injEq] at h
      obtain ⟨rfl, rfl⟩ := h
      have hg : grp c.toNat = [c] := by
        rw [grp, if_pos (by omega)]
        congr 1
        exact UInt8.ofNat_toNat
      refine ⟨by rw [hg]; rfl, by rw [hg]; rfl, ?_, by omega⟩
      by_cases h9' : i = 9
      · subst h9'
        have : c.toNat ≤ 1 := by omega
        simp only [Nat.sub_self, Nat.pow_zero]
        omega
      · have e : 128 ^ (9 - i) = 128 ^ (8 - i) * 128 := by rw [← Nat.pow_succ]; congr 1; omega
        have := Nat.one_le_pow (8 - i) 128 (by omega)
        rw [e]
        omega

/-- A number's encoding at the beginning of bytes is read as that number. -/
theorem prs_zig {n : Int} (h : I64 n) (r : List UInt8) : prs 0 (grp (zig n) ++ r) = .ok (zig n, (grp (zig n)).length) :=
  prs_grp 9 0 (zig n) r rfl (Nat.lt_of_lt_of_le (zig_lt h.1 h.2) (by decide)) (.inl rfl)
theorem prs_used {b : List UInt8} {u n : Nat} (h : prs 0 b = .ok (u, n)) : b = grp u ++ b.drop n ∧ n = (grp u).length ∧ n ≤ b.length ∧ 0 < n ∧ u < 18446744073709551616 := by
  obtain ⟨h1, h2, h3, _⟩ := prs_of b 0 u n h (by omega)
  obtain ⟨c, r, hc⟩ := grp_ne' u
  have hl : (b.take n).length = n := by rw [h1, ← h2]
  refine ⟨by rw [← h1, List.take_append_drop], h2, ?_, by rw [h2, hc]; simp, Nat.lt_of_lt_of_le h3 (by decide)⟩
  rw [List.length_take] at hl
  omega

end Go.Proofs.YtdhdhcllgkddnaaGreat.Va

namespace Go.Proofs.YtdhdhcllgkddnaaGreat.Va
open Go Go.RowKit

theorem and127_all : ((List.range 256).all fun b => bits .and .u8 (b : Int) 127 == ((b % 128 : Nat) : Int)) = true := by kernel_rfl
theorem and127 {c : Nat} (h : c < 256) : bits .and .u8 (c : Int) 127 = ((c % 128 : Nat) : Int) := eq_of_beq (List.all_eq_true.1 and127_all c (List.mem_range.2 h))

theorem ofInt_nat {a : Nat} (h : a < 18446744073709551616) : (BitVec.ofInt 64 (a : Int)).toNat = a := by
  rw [BitVec.toNat_ofInt]
  omega
theorem or_nat {a b : Nat} (ha : a < 18446744073709551616) (hb : b < 18446744073709551616) : bits .or .u64 (a : Int) (b : Int) = ((a ||| b : Nat) : Int) := by
  show IntKind.u64.wrap ((BitVec.ofInt 64 (a : Int) ||| (BitVec.ofInt 64 (b : Int) : BitVec 64)).toNat : Int) = _
  have h : (a ||| b) < 2 ^ 64 := Nat.or_lt_two_pow ha hb
  rw [BitVec.toNat_or, ofInt_nat ha, ofInt_nat hb, wrap_u64]
  omega
theorem and_one {a : Nat} (ha : a < 18446744073709551616) : bits .and .u64 (a : Int) 1 = ((a % 2 : Nat) : Int) := by
  show IntKind.u64.wrap ((BitVec.ofInt 64 (a : Int) &&& (BitVec.ofInt 64 1 : BitVec 64)).toNat : Int) = _
  have e : (BitVec.ofInt 64 1).toNat = 1 := by decide
  rw [BitVec.toNat_and, ofInt_nat ha, e, Nat.and_one_is_mod, wrap_u64]
  omega
theorem xor_i64_zero {a : Nat} (h : a < 9223372036854775808) : bits .xor .i64 (a : Int) 0 = a := by
  show IntKind.i64.wrap ((BitVec.ofInt 64 (a : Int) ^^^ (BitVec.ofInt 64 0 : BitVec 64)).toNat : Int) = _
  have e : BitVec.ofInt 64 0 = 0#64 := by decide
  rw [e, BitVec.xor_zero, ofInt_nat (by omega), wrap_i64 (by omega) (by omega)]
theorem xor_i64_ones {a : Nat} (h : a < 9223372036854775808) : bits .xor .i64 (a : Int) (-1) = -(a : Int) - 1 := by
  show IntKind.i64.wrap ((BitVec.ofInt 64 (a : Int) ^^^ (BitVec.ofInt 64 (-1) : BitVec 64)).toNat : Int) = _
  have e : BitVec.ofInt 64 (-1) = BitVec.allOnes 64 := by decide
  have w : ∀ n : Int, IntKind.i64.wrap n = if n % 18446744073709551616 ≥ 9223372036854775808 then n % 18446744073709551616 - 18446744073709551616 else n % 18446744073709551616 := fun n => by simp [IntKind.wrap, IntKind.bits, IntKind.signed]
  rw [e, BitVec.xor_allOnes, BitVec.toNat_not, ofInt_nat (by omega), w]
  split <;> omega

/-- One more group. -/
theorem or_group {u c i : Nat} (hi : i ≤ 9) (hu : u < 128 ^ i) (hc : c < 256) (h9 : i = 9 → c ≤ 1) :
    bits .or .u64 (u : Int) (IntKind.u64.wrap (IntKind.u64.wrap (bits .and .u8 (c : Int) 127) * 2 ^ min (7 * i) 64)) = ((u + c % 128 * 128 ^ i : Nat) : Int) ∧ u + c % 128 * 128 ^ i < 18446744073709551616 := by
  have e7 : (128 : Nat) ^ i = 2 ^ (7 * i) := by rw [Nat.pow_mul]
  have hm : min (7 * i) 64 = 7 * i := by omega
  have hb : c % 128 * 128 ^ i + 128 ^ i ≤ 18446744073709551616 := by
    rcases (by omega : i = 0 ∨ i = 1 ∨ i = 2 ∨ i = 3 ∨ i = 4 ∨ i = 5 ∨ i = 6 ∨ i = 7 ∨ i = 8 ∨ i = 9) with rfl | rfl | rfl | rfl | rfl | rfl | rfl | rfl | rfl | rfl <;> first | omega | (have := h9 rfl; omega)
  have hpos : 0 < 128 ^ i := Nat.pow_pos (by decide)
  have es : IntKind.u64.wrap (IntKind.u64.wrap (bits .and .u8 (c : Int) 127) * 2 ^ min (7 * i) 64) = ((c % 128 * 128 ^ i : Nat) : Int) := by
    have p : (2 : Int) ^ (7 * i) = ((128 ^ i : Nat) : Int) := by rw [e7]; simp
    rw [and127 hc, hm, wrap_u64 ((c % 128 : Nat) : Int), p, wrap_u64]
    have : ((c % 128 : Nat) : Int) % 18446744073709551616 = ((c % 128 : Nat) : Int) := by omega
    rw [this, ← Int.natCast_mul]
    omega
  rw [es, or_nat (by omega) (by omega)]
  refine ⟨?_, by omega⟩
  have h := Nat.shiftLeft_add_eq_or_of_lt (i := 7 * i) (b := u) (by rw [← e7]; exact hu) (c % 128)
  rw [Nat.shiftLeft_eq, ← e7] at h
  rw [Nat.or_comm, ← h, Nat.add_comm]

theorem value_xor {u : Nat} (h : u < 18446744073709551616) : bits .xor .i64 (IntKind.i64.wrap ((u : Int).fdiv 2)) (IntKind.i64.wrap (0 - IntKind.i64.wrap (bits .and .u64 (u : Int) 1))) = unzig u := by
  have e2 : (u : Int).fdiv 2 = ((u / 2 : Nat) : Int) := by simpa using fdiv_pow u 1
  rw [e2, and_one h, wrap_i64 (n := ((u / 2 : Nat) : Int)) (by omega) (by omega), wrap_i64 (n := ((u % 2 : Nat) : Int)) (by omega) (by omega), wrap_i64 (by omega) (by omega)]
  unfold unzig
  by_cases hu : u % 2 = 1
  · rw [if_pos hu, hu]
    exact xor_i64_ones (by omega)
  · have h0 : u % 2 = 0 := by omega
    rw [if_neg hu, h0]
    exact xor_i64_zero (by omega)

theorem value_not {u : Nat} (h : u < 18446744073709551616) (hu : u % 2 = 1) : IntKind.i64.wrap (bits .xor .u64 18446744073709551615 ((u : Int).fdiv 2)) = unzig u := by
  have e2 : (u : Int).fdiv 2 = ((u / 2 : Nat) : Int) := by simpa using fdiv_pow u 1
  have ex : bits .xor .u64 18446744073709551615 ((u / 2 : Nat) : Int) = ((18446744073709551615 - u / 2 : Nat) : Int) := by
    show IntKind.u64.wrap ((BitVec.ofInt 64 18446744073709551615 ^^^ (BitVec.ofInt 64 ((u / 2 : Nat) : Int) : BitVec 64)).toNat : Int) = _
    have e : BitVec.ofInt 64 18446744073709551615 = BitVec.allOnes 64 := by decide
    rw [e, BitVec.allOnes_xor, BitVec.toNat_not, ofInt_nat (by omega), wrap_u64]
    omega
  have w : ∀ n : Int, IntKind.i64.wrap n = if n % 18446744073709551616 ≥ 9223372036854775808 then n % 18446744073709551616 - 18446744073709551616 else n % 18446744073709551616 := fun n => by simp [IntKind.wrap, IntKind.bits, IntKind.signed]
  rw [e2, ex, w]
  unfold unzig
  rw [if_pos hu]
  split <;> omega
theorem value_half {u : Nat} (h : u < 18446744073709551616) (hu : ¬ u % 2 = 1) : IntKind.i64.wrap ((u : Int).fdiv 2) = unzig u := by
  have e2 : (u : Int).fdiv 2 = ((u / 2 : Nat) : Int) := by simpa using fdiv_pow u 1
  rw [e2, wrap_i64 (by omega) (by omega)]
  unfold unzig
  rw [if_neg hu]

end Go.Proofs.YtdhdhcllgkddnaaGreat.Va

namespace Go.Proofs.YtdhdhcllgkddnaaGreat.Va
open Go Go.RowKit

/-- wire.Reader's state. -/
def rdV (b : List UInt8) (e : Int) : V := .agg [.sl 1 (byV b), .int .i64 e]
/-- What reading a number leaves of a reader's bytes and error, and the number. -/
def numS (b : List UInt8) (e : Int) : Int × List UInt8 × Int :=
  if e ≠ 0 then (0, b, e) else match prs 0 b with
    | .error x => (0, b, x)
    | .ok (u, n) => (unzig u, b.drop n, 0)

theorem wire_Number_step {b : List UInt8} (hb : b.length ≤ 100000000000000) {i u : Nat} (k : Nat) (hi : i ≤ 9) (hu : u < 128 ^ i) (h : i < b.length) :
    Lwire_Reader_Number_0 N0 wire_Reader_Number_G (k + 1) u i (byV b) 0 =
      if i = 9 ∧ 1 < (b[i]).toNat then some ([.int .i64 0], [rdV b 3])
      else if 128 ≤ (b[i]).toNat then Lwire_Reader_Number_0 N0 wire_Reader_Number_G k ((u + (b[i]).toNat % 128 * 128 ^ i : Nat) : Int) ((i + 1 : Nat) : Int) (byV b) 0
      else if (b[i]).toNat = 0 ∧ 0 < i then some ([.int .i64 0], [rdV b 1])
      else some ([.int .i64 (unzig (u + (b[i]).toNat % 128 * 128 ^ i))], [rdV (b.drop (i + 1)) 0]) := by
  rw [Lwire_Reader_Number_0_eq]
  have hc := (b[i]).toNat_lt
  have ew : IntKind.i64.wrap (7 * (i : Int)) = ((7 * i : Nat) : Int) := by rw [wrap_i64 (by omega) (by omega)]; omega
  have e1 : IntKind.i64.wrap ((i : Int) + 1) = ((i + 1 : Nat) : Int) := by rw [wrap_succ (by omega)]; omega
  have g : (byV b)[i]? = some (.int .u8 ((b[i]).toNat : Int)) := byV_get h
  have hlt : ¬ ((i : Int) ≥ (b.length : Int)) := by omega
  have hr : 0 ≤ (i : Int) ∧ (i : Int) < (b.length : Int) := by omega
  have hs : 0 ≤ ((i + 1 : Nat) : Int) ∧ ((i + 1 : Nat) : Int) ≤ (b.length : Int) ∧ (b.length : Int) ≤ (b.length : Int) := by omega
  have hn : ¬ ((7 * i : Nat) : Int) < 0 := by omega
  simp only [ew, e1, byV_length, Int.toNat_natCast, g, Option.bind_some, cells_int, List.getElem?_cons_zero, asInt_int, if_pos hr, if_pos hs, if_pos hn, decide_eq_false hlt, cond_false, byV_take_all, byV_drop]
  by_cases h9 : i = 9 ∧ 1 < (b[i]).toNat
  · have d1 : (((i : Int) == 9) = true) := by simp; omega
    have d2 : decide (((b[i]).toNat : Int) > 1) = true := decide_eq_true (by omega)
    rw [if_pos h9, d1, d2]
    rfl
  · rw [if_neg h9]
    obtain ⟨ho, hlt2⟩ := or_group (u := u) hi hu hc (fun e => by omega)
    simp only [ho, value_xor hlt2]
    have q : ∀ {α : Type} (x y : α), (bif ((i : Int) == 9) then (bif decide (((b[i]).toNat : Int) > 1) then x else y) else y) = y := by
      intro α x y
      by_cases hh : i = 9
      · have d2 : decide (((b[i]).toNat : Int) > 1) = false := decide_eq_false (by omega)
        rw [d2]; cases ((i : Int) == 9) <;> rfl
      · have d1 : (((i : Int) == 9) = false) := by simp; omega
        rw [d1]; rfl
    rw [q]
    by_cases c1 : 128 ≤ (b[i]).toNat
    · rw [if_pos c1, decide_eq_true (show ((b[i]).toNat : Int) ≥ 128 by omega)]
      rfl
    · rw [if_neg c1, decide_eq_false (show ¬ ((b[i]).toNat : Int) ≥ 128 by omega)]
      by_cases c2 : (b[i]).toNat = 0 ∧ 0 < i
      · rw [if_pos c2, show ((((b[i]).toNat : Int) == 0) = true) by simp; omega, decide_eq_true (show (i : Int) > 0 by omega)]
        rfl
      · rw [if_neg c2]
        by_cases c3 : (b[i]).toNat = 0
        · rw [show ((((b[i]).toNat : Int) == 0) = true) by simp; omega, decide_eq_false (show ¬ (i : Int) > 0 by omega)]
          rfl
        · rw [show ((((b[i]).toNat : Int) == 0) = false) by simp; omega]
          rfl

theorem wire_Number_end {b : List UInt8} (i u k : Nat) (h : ¬ i < b.length) :
    Lwire_Reader_Number_0 N0 wire_Reader_Number_G (k + 1) u i (byV b) 0 = some ([.int .i64 0], [rdV b 16]) := by
  rw [Lwire_Reader_Number_0_eq]
  simp only [byV_length, decide_eq_true (show (i : Int) ≥ (b.length : Int) by omega)]
  rfl

theorem wire_Number_loop {b : List UInt8} (hb : b.length ≤ 100000000000000) : ∀ (j i u k : Nat), i + j = 9 → u < 128 ^ i → j < k →
    Lwire_Reader_Number_0 N0 wire_Reader_Number_G k u i (byV b) 0 = (match prs i (b.drop i) with
      | .error x => some ([.int .i64 0], [rdV b x])
      | .ok (v, n) => some ([.int .i64 (unzig (u + 128 ^ i * v))], [rdV (b.drop (i + n)) 0])) := by
  intro j
  induction j with
  | zero =>
    intro i u k hi hu hk
    obtain ⟨k, rfl, _⟩ := rounds hk
    by_cases h : i < b.length
    · have hc := (b[i]).toNat_lt
      rw [wire_Number_step hb k (by omega) hu h, List.drop_eq_getElem_cons h, prs]
      by_cases h9 : i = 9 ∧ 1 < (b[i]).toNat
      · rw [if_pos h9, if_pos h9]
      · have c1 : ¬ 128 ≤ (b[i]).toNat := by omega
        rw [if_neg h9, if_neg h9, if_neg c1, if_neg c1]
        by_cases c2 : (b[i]).toNat = 0 ∧ 0 < i
        · rw [if_pos c2, if_pos c2]
        · rw [if_neg c2, if_neg c2, show (b[i]).toNat % 128 = (b[i]).toNat by omega, Nat.mul_comm]
    · rw [wire_Number_end i u k h, List.drop_of_length_le (by omega)]
      rfl
  | succ j ih =>
    intro i u k hi hu hk
    obtain ⟨k, rfl, hk⟩ := rounds hk
    by_cases h : i < b.length
    · have hc := (b[i]).toNat_lt
      rw [wire_Number_step hb k (by omega) hu h, List.drop_eq_getElem_cons h, prs]
      have h9 : ¬ (i = 9 ∧ 1 < (b[i]).toNat) := by omega
      rw [if_neg h9, if_neg h9]
      by_cases c1 : 128 ≤ (b[i]).toNat
      · rw [if_pos c1, if_pos c1]
        have hp : 128 ^ (i + 1) = 128 ^ i * 128 := Nat.pow_succ ..
        have hu2 : u + (b[i]).toNat % 128 * 128 ^ i < 128 ^ (i + 1) := by
          have h1 : (b[i]).toNat % 128 * 128 ^ i ≤ 127 * 128 ^ i := Nat.mul_le_mul_right _ (by omega)
          rw [hp]
          omega
        rw [ih (i + 1) _ k (by omega) hu2 (by omega)]
        cases hp2 : prs (i + 1) (List.drop (i + 1) b) with
        | error e => rfl
        | ok w =>
          obtain ⟨v, n⟩ := w
          have e1 : u + (b[i]).toNat % 128 * 128 ^ i + 128 ^ (i + 1) * v = u + 128 ^ i * ((b[i]).toNat - 128 + 128 * v) := by
            rw [hp, show (b[i]).toNat % 128 = (b[i]).toNat - 128 by omega, Nat.mul_add, Nat.mul_assoc, Nat.mul_comm ((b[i]).toNat - 128), Nat.add_assoc]
          have e2 : i + 1 + n = i + (n + 1) := by omega
          simp only [e1, e2]
      · rw [if_neg c1, if_neg c1]
        by_cases c2 : (b[i]).toNat = 0 ∧ 0 < i
        · rw [if_pos c2, if_pos c2]
        · rw [if_neg c2, if_neg c2, show (b[i]).toNat % 128 = (b[i]).toNat by omega, Nat.mul_comm]
    · rw [wire_Number_end i u k h, List.drop_of_length_le (by omega)]
      rfl

theorem wire_Reader_Number_eq' {b : List UInt8} (hb : b.length ≤ 100000000000000) (e : Int) :
    wire_Reader_Number [rdV b e] = some ([.int .i64 (numS b e).1], [rdV (numS b e).2.1 (numS b e).2.2]) := by
  unfold wire_Reader_Number
  rw [rdV, Rwire_Reader_Number_eq]
  unfold numS
  by_cases he : e = 0
  · subst he
    have w := wire_Number_loop hb 9 0 0 N0 rfl (by decide) (N0_pos (by decide))
    simp only [Int.natCast_zero, Nat.pow_zero, Nat.one_mul, Nat.zero_add, List.drop_zero] at w
    simp [w]
    cases prs 0 b with
    | error x => rfl
    | ok w => rfl
  · have h1 : (e != 0) = true := by simpa using he
    simp [he, h1, rdV]

theorem wire_New_eq' {b : List UInt8} (hb : b.length ≤ 100000000000000) : wire_New [.sl 1 (byV b)] = some ([rdV b 0], []) := by
  have g : wire_New_G 0 [.sl 1 (byV b), .sl 1 (byV [])] = some ([.sl 1 (byV (b ++ []))], []) := wire_own_eq (by simp; omega)
  rw [List.append_nil] at g
  unfold wire_New
  rw [Rwire_New_eq]
  simp only [byV_nil] at g
  simp [g, rdV]

theorem wire_Reader_Err_eq' (b : List UInt8) (e : Int) : wire_Reader_Err [rdV b e] = some ([.int .i64 e], [rdV b e]) := by
  unfold wire_Reader_Err
  rw [rdV, Rwire_Reader_Err_eq]
  simp

theorem wire_Reader_Fail_eq' (b : List UInt8) (e f : Int) : wire_Reader_Fail [rdV b e, .int .i64 f] = some ([], [rdV b (if e = 0 then f else e)]) := by
  unfold wire_Reader_Fail
  rw [rdV, Rwire_Reader_Fail_eq]
  by_cases h : e = 0
  · simp [h, rdV]
  · have h1 : (e == 0) = false := by simpa using h
    simp [h, h1, rdV]

/-- What reading a count leaves. -/
def countS (b : List UInt8) (e most : Int) : Int × List UInt8 × Int :=
  let s := numS b e
  let e' := if s.2.2 = 0 then (if s.1 < 0 then 3 else if most < s.1 then 5 else 0) else s.2.2
  (if e' = 0 then s.1 else 0, s.2.1, e')

theorem wire_Reader_Count_eq' {b : List UInt8} (hb : b.length ≤ 100000000000000) (e most : Int) :
    wire_Reader_Count [rdV b e, .int .i64 most] = some ([.int .i64 (countS b e most).1], [rdV (countS b e most).2.1 (countS b e most).2.2]) := by
  have g1 : wire_Reader_length_G 1 [rdV b e] = some ([.int .i64 (numS b e).1], [rdV (numS b e).2.1 (numS b e).2.2]) := wire_Reader_Number_eq' hb e
  have g0 : ∀ (c : List UInt8) (x f : Int), wire_Reader_length_G 0 [rdV c x, .int .i64 f] = some ([], [rdV c (if x = 0 then f else x)]) := wire_Reader_Fail_eq'
  have gl : wire_Reader_Count_G 0 [rdV b e, .int .i64 most, .int .i64 5] = some ([.int .i64 (countS b e most).1], [rdV (countS b e most).2.1 (countS b e most).2.2]) := by
    show wire_Reader_length [rdV b e, .int .i64 most, .int .i64 5] = _
    unfold wire_Reader_length
    rw [show rdV b e = V.agg [.sl 1 (byV b), .int .i64 e] from rfl, Rwire_Reader_length_eq]
    simp only [rdV] at g1 g0
    simp only [countS, rdV]
    generalize numS b e = s at g1 ⊢
    obtain ⟨n, c, x⟩ := s
    simp only at g1 ⊢
    by_cases hx : x = 0
    · subst hx
      have h3 : ((3 : Int) != 0) = true := by decide
      have h5 : ((5 : Int) != 0) = true := by decide
      by_cases h1 : n < 0
      · simp [g1, g0, h1, h3]
      · by_cases h2 : most < n
        · simp [g1, g0, h1, h2, h5]
        · simp [g1, h1, h2]
    · have hb1 : (x != 0) = true := by simpa using hx
      by_cases h1 : n < 0
      · simp [g1, g0, h1, hx, hb1]
      · by_cases h2 : most < n
        · simp [g1, g0, h1, h2, hx, hb1]
        · simp [g1, h1, h2, hx, hb1]
  unfold wire_Reader_Count
  rw [show rdV b e = V.agg [.sl 1 (byV b), .int .i64 e] from rfl, Rwire_Reader_Count_eq]
  simp only [rdV] at gl ⊢
  simp [gl]

end Go.Proofs.YtdhdhcllgkddnaaGreat.Va

namespace Go.Proofs.YtdhdhcllgkddnaaGreat.Va
open Go Go.RowKit

/-- flagstoneref4.Reader's state. -/
def rfV (b : List UInt8) (at_ : Nat) (e : Int) : V := .agg [.sl 1 (byV b), .int .i64 (at_ : Int), .int .i64 e]

theorem ref4_Fail_eq' (b : List UInt8) (a : Nat) (e f : Int) : flagstoneref4_Reader_Fail [rfV b a e, .int .i64 f] = some ([], [rfV b a (if e = 0 then f else e)]) := by
  unfold flagstoneref4_Reader_Fail
  rw [rfV, Rflagstoneref4_Reader_Fail_eq]
  by_cases h : e = 0
  · simp [h, rfV]
  · have h1 : (e == 0) = false := by simpa using h
    simp [h, h1, rfV]

theorem ref4_New_eq' (b : List UInt8) : flagstoneref4_New [.sl 1 (byV b)] = some ([rfV b 0 0], []) := by
  unfold flagstoneref4_New
  rw [Rflagstoneref4_New_eq]
  simp [rfV]

theorem ref4_Number_step {b : List UInt8} (hb : b.length ≤ 100000000000000) {a i u : Nat} (k : Nat) (hi : i ≤ 9) (hu : u < 128 ^ i) (h : a + i < b.length) :
    Lflagstoneref4_Reader_Number_0 N0 flagstoneref4_Reader_Number_G (k + 1) u i (byV b) a 0 =
      if i = 9 ∧ 1 < (b[a + i]).toNat then some ([.int .i64 0], [rfV b a 3])
      else if 128 ≤ (b[a + i]).toNat then Lflagstoneref4_Reader_Number_0 N0 flagstoneref4_Reader_Number_G k ((u + (b[a + i]).toNat % 128 * 128 ^ i : Nat) : Int) ((i + 1 : Nat) : Int) (byV b) a 0
      else if (b[a + i]).toNat = 0 ∧ 0 < i then some ([.int .i64 0], [rfV b a 1])
      else some ([.int .i64 (unzig (u + (b[a + i]).toNat % 128 * 128 ^ i))], [rfV b (a + (i + 1)) 0]) := by
  rw [Lflagstoneref4_Reader_Number_0_eq]
  have hc := (b[a + i]).toNat_lt
  have gf : ∀ (x : Int), flagstoneref4_Reader_Number_G 0 [V.agg [.sl 1 (byV b), .int .i64 (a : Int), .int .i64 0], .int .i64 x] = some ([], [rfV b a x]) := fun x => by
    have := ref4_Fail_eq' b a 0 x
    rwa [if_pos rfl] at this
  have ew : IntKind.u64.wrap (IntKind.i64.wrap (7 * (i : Int))) = ((7 * i : Nat) : Int) := by rw [wrap_i64 (by omega) (by omega), wrap_u64]; omega
  have ea : IntKind.i64.wrap ((a : Int) + (i : Int)) = ((a + i : Nat) : Int) := by rw [wrap_i64 (by omega) (by omega)]; omega
  have e1 : IntKind.i64.wrap ((i : Int) + 1) = ((i + 1 : Nat) : Int) := by rw [wrap_succ (by omega)]; omega
  have e3 : IntKind.i64.wrap ((a : Int) + ((i + 1 : Nat) : Int)) = ((a + (i + 1) : Nat) : Int) := by rw [wrap_i64 (by omega) (by omega)]; omega
  have g : (byV b)[a + i]? = some (.int .u8 ((b[a + i]).toNat : Int)) := byV_get h
  have hlt : ¬ (((a + i : Nat) : Int) ≥ (b.length : Int)) := by omega
  have hr : 0 ≤ ((a + i : Nat) : Int) ∧ ((a + i : Nat) : Int) < (b.length : Int) := by omega
  have hn : ¬ ((7 * i : Nat) : Int) < 0 := by omega
  have z0 : ((0 : Int) == 0) = true := rfl
  simp only [z0, cond_true, ew, ea, e1, e3, gf, byV_length, Int.toNat_natCast, g, Option.bind_some, cells_int, List.getElem?_cons_zero, asInt_int, if_pos hr, if_pos hn, decide_eq_false hlt, cond_false, byV_take_all]
  by_cases h9 : i = 9 ∧ 1 < (b[a + i]).toNat
  · have d1 : (((i : Int) == 9) = true) := by simp; omega
    have d2 : decide (((b[a + i]).toNat : Int) > 1) = true := decide_eq_true (by omega)
    rw [if_pos h9, d1, d2]
    simp [rfV]
  · rw [if_neg h9]
    obtain ⟨ho, hlt2⟩ := or_group (u := u) hi hu hc (fun e => by omega)
    simp only [ho, and_one hlt2]
    have q : ∀ {α : Type} (x y : α), (bif ((i : Int) == 9) then (bif decide (((b[a + i]).toNat : Int) > 1) then x else y) else y) = y := by
      intro α x y
      by_cases hh : i = 9
      · have d2 : decide (((b[a + i]).toNat : Int) > 1) = false := decide_eq_false (by omega)
        rw [d2]; cases ((i : Int) == 9) <;> rfl
      · have d1 : (((i : Int) == 9) = false) := by simp; omega
        rw [d1]; rfl
    rw [q]
    have hv : ∀ (w : Nat), w < 18446744073709551616 → (bif (((w % 2 : Nat) : Int) == 1) then some ([V.int .i64 (IntKind.i64.wrap (bits .xor .u64 18446744073709551615 ((w : Int).fdiv 2)))], [V.agg [.sl 1 (byV b), .int .i64 ((a + (i + 1) : Nat) : Int), .int .i64 0]])
        else some ([V.int .i64 (IntKind.i64.wrap ((w : Int).fdiv 2))], [V.agg [.sl 1 (byV b), .int .i64 ((a + (i + 1) : Nat) : Int), .int .i64 0]])) = some ([V.int .i64 (unzig w)], [rfV b (a + (i + 1)) 0]) := by
      intro w hw
      by_cases ho : w % 2 = 1
      · rw [show ((((w % 2 : Nat) : Int) == 1) = true) by simp; omega, value_not hw ho]; rfl
      · rw [show ((((w % 2 : Nat) : Int) == 1) = false) by simp; omega, value_half hw ho]; rfl
    by_cases c1 : 128 ≤ (b[a + i]).toNat
    · rw [if_pos c1, decide_eq_true (show ((b[a + i]).toNat : Int) > 127 by omega)]
      rfl
    · rw [if_neg c1, decide_eq_false (show ¬ ((b[a + i]).toNat : Int) > 127 by omega), cond_false]
      by_cases c2 : (b[a + i]).toNat = 0 ∧ 0 < i
      · rw [if_pos c2, show ((((b[a + i]).toNat : Int) == 0) = true) by simp; omega, decide_eq_true (show (i : Int) > 0 by omega)]
        simp [rfV]
      · rw [if_neg c2]
        by_cases c3 : (b[a + i]).toNat = 0
        · rw [show ((((b[a + i]).toNat : Int) == 0) = true) by simp; omega, decide_eq_false (show ¬ (i : Int) > 0 by omega), cond_true, cond_false]
          exact hv _ hlt2
        · rw [show ((((b[a + i]).toNat : Int) == 0) = false) by simp; omega, cond_false]
          exact hv _ hlt2

theorem ref4_Number_end {b : List UInt8} (hb : b.length ≤ 100000000000000) {a : Nat} (i u k : Nat) (hi : i ≤ 9) (ha : a ≤ b.length) (h : ¬ a + i < b.length) :
    Lflagstoneref4_Reader_Number_0 N0 flagstoneref4_Reader_Number_G (k + 1) u i (byV b) a 0 = some ([.int .i64 0], [rfV b a 16]) := by
  rw [Lflagstoneref4_Reader_Number_0_eq]
  have gf : flagstoneref4_Reader_Number_G 0 [V.agg [.sl 1 (byV b), .int .i64 (a : Int), .int .i64 0], .int .i64 16] = some ([], [rfV b a 16]) := by
    have := ref4_Fail_eq' b a 0 16
    rwa [if_pos rfl] at this
  have ea : IntKind.i64.wrap ((a : Int) + (i : Int)) = ((a + i : Nat) : Int) := by rw [wrap_i64 (by omega) (by omega)]; omega
  have z0 : ((0 : Int) == 0) = true := rfl
  simp only [z0, cond_true, ea, gf, byV_length, decide_eq_true (show ((a + i : Nat) : Int) ≥ (b.length : Int) by omega)]
  simp [rfV]

theorem ref4_Number_loop {b : List UInt8} (hb : b.length ≤ 100000000000000) {a : Nat} (ha : a ≤ b.length) : ∀ (j i u k : Nat), i + j = 9 → u < 128 ^ i → j < k →
    Lflagstoneref4_Reader_Number_0 N0 flagstoneref4_Reader_Number_G k u i (byV b) a 0 = (match prs i (b.drop (a + i)) with
      | .error x => some ([.int .i64 0], [rfV b a x])
      | .ok (v, n) => some ([.int .i64 (unzig (u + 128 ^ i * v))], [rfV b (a + (i + n)) 0])) := by
  intro j
  induction j with
  | zero =>
    intro i u k hi hu hk
    obtain ⟨k, rfl, _⟩ := rounds hk
    by_cases h : a + i < b.length
    · have hc := (b[a + i]).toNat_lt
      rw [ref4_Number_step hb k (by omega) hu h, List.drop_eq_getElem_cons h, prs]
      by_cases h9 : i = 9 ∧ 1 < (b[a + i]).toNat
      · rw [if_pos h9, if_pos h9]
      · have c1 : ¬ 128 ≤ (b[a + i]).toNat := by omega
        rw [if_neg h9, if_neg h9, if_neg c1, if_neg c1]
        by_cases c2 : (b[a + i]).toNat = 0 ∧ 0 < i
        · rw [if_pos c2, if_pos c2]
        · rw [if_neg c2, if_neg c2, show (b[a + i]).toNat % 128 = (b[a + i]).toNat by omega, Nat.mul_comm]
    · rw [ref4_Number_end hb i u k (by omega) ha h, List.drop_of_length_le (by omega)]
      rfl
  | succ j ih =>
    intro i u k hi hu hk
    obtain ⟨k, rfl, hk⟩ := rounds hk
    by_cases h : a + i < b.length
    · have hc := (b[a + i]).toNat_lt
      rw [ref4_Number_step hb k (by omega) hu h, List.drop_eq_getElem_cons h, prs]
      have h9 : ¬ (i = 9 ∧ 1 < (b[a + i]).toNat) := by omega
      rw [if_neg h9, if_neg h9]
      by_cases c1 : 128 ≤ (b[a + i]).toNat
      · rw [if_pos c1, if_pos c1]
        have hp : 128 ^ (i + 1) = 128 ^ i * 128 := Nat.pow_succ ..
        have hu2 : u + (b[a + i]).toNat % 128 * 128 ^ i < 128 ^ (i + 1) := by
          have h1 : (b[a + i]).toNat % 128 * 128 ^ i ≤ 127 * 128 ^ i := Nat.mul_le_mul_right _ (by omega)
          rw [hp]
          omega
        rw [ih (i + 1) _ k (by omega) hu2 (by omega), show a + (i + 1) = a + i + 1 by omega]
        cases hp2 : prs (i + 1) (List.drop (a + i + 1) b) with
        | error e => rfl
        | ok w =>
          obtain ⟨v, n⟩ := w
          have e1 : u + (b[a + i]).toNat % 128 * 128 ^ i + 128 ^ (i + 1) * v = u + 128 ^ i * ((b[a + i]).toNat - 128 + 128 * v) := by
            rw [hp, show (b[a + i]).toNat % 128 = (b[a + i]).toNat - 128 by omega, Nat.mul_add, Nat.mul_assoc, Nat.mul_comm ((b[a + i]).toNat - 128), Nat.add_assoc]
          have e2 : a + (i + 1 + n) = a + (i + (n + 1)) := by omega
          simp only [e1, e2]
      · rw [if_neg c1, if_neg c1]
        by_cases c2 : (b[a + i]).toNat = 0 ∧ 0 < i
        · rw [if_pos c2, if_pos c2]
        · rw [if_neg c2, if_neg c2, show (b[a + i]).toNat % 128 = (b[a + i]).toNat by omega, Nat.mul_comm]
    · rw [ref4_Number_end hb i u k (by omega) ha h, List.drop_of_length_le (by omega)]
      rfl

/-- What reading a number leaves of the reference's place and error, and the number. -/
def numR (b : List UInt8) (a : Nat) (e : Int) : Int × Nat × Int :=
  if e ≠ 0 then (0, a, e) else match prs 0 (b.drop a) with
    | .error x => (0, a, x)
    | .ok (u, n) => (unzig u, a + n, 0)

theorem ref4_Number_eq' {b : List UInt8} (hb : b.length ≤ 100000000000000) {a : Nat} (ha : a ≤ b.length) (e : Int) :
    flagstoneref4_Reader_Number [rfV b a e] = some ([.int .i64 (numR b a e).1], [rfV b (numR b a e).2.1 (numR b a e).2.2]) := by
  unfold flagstoneref4_Reader_Number
  rw [rfV, Rflagstoneref4_Reader_Number_eq]
  unfold numR
  by_cases he : e = 0
  · subst he
    have w := ref4_Number_loop hb ha 9 0 0 N0 rfl (by decide) (N0_pos (by decide))
    simp only [Int.natCast_zero, Nat.pow_zero, Nat.one_mul, Nat.zero_add, Nat.add_zero] at w
    simp [w]
    cases prs 0 (b.drop a) with
    | error x => rfl
    | ok w => rfl
  · have h1 : (e == 0) = false := by simpa using he
    have hN : ∃ k, N0 = k + 1 := by obtain ⟨k, h, _⟩ := rounds (N0_pos (k := 0) (by decide)); exact ⟨k, h⟩
    have w : ∀ k, Lflagstoneref4_Reader_Number_0 N0 flagstoneref4_Reader_Number_G (k + 1) 0 0 (byV b) a e = some ([.int .i64 0], [rfV b a e]) := fun k => by
      rw [Lflagstoneref4_Reader_Number_0_eq]
      simp [h1, rfV]
    obtain ⟨k, hk⟩ := hN
    have w' : Lflagstoneref4_Reader_Number_0 N0 flagstoneref4_Reader_Number_G N0 0 0 (byV b) a e = some ([.int .i64 0], [rfV b a e]) := by
      have := w k
      rw [← hk] at this
      exact this
    simp [he, w', rfV]

/-- What reading a count leaves. -/
def countR (b : List UInt8) (a : Nat) (e most : Int) : Int × Nat × Int :=
  let s := numR b a e
  let e' := if s.2.2 = 0 then (if s.1 < 0 then 3 else if most < s.1 then 5 else 0) else s.2.2
  (if e' = 0 then s.1 else 0, s.2.1, e')

theorem ref4_Count_eq' {b : List UInt8} (hb : b.length ≤ 100000000000000) {a : Nat} (ha : a ≤ b.length) (e most : Int) :
    flagstoneref4_Reader_Count [rfV b a e, .int .i64 most] = some ([.int .i64 (countR b a e most).1], [rfV b (countR b a e most).2.1 (countR b a e most).2.2]) := by
  have g1 : flagstoneref4_Reader_Count_G 1 [rfV b a e] = some ([.int .i64 (numR b a e).1], [rfV b (numR b a e).2.1 (numR b a e).2.2]) := ref4_Number_eq' hb ha e
  have g0 : ∀ (c : List UInt8) (a : Nat) (x f : Int), flagstoneref4_Reader_Count_G 0 [rfV c a x, .int .i64 f] = some ([], [rfV c a (if x = 0 then f else x)]) := ref4_Fail_eq'
  unfold flagstoneref4_Reader_Count
  rw [show rfV b a e = V.agg [.sl 1 (byV b), .int .i64 (a : Int), .int .i64 e] from rfl, Rflagstoneref4_Reader_Count_eq]
  simp only [rfV] at g1 g0
  simp only [countR, rfV]
  generalize numR b a e = s at g1 ⊢
  obtain ⟨n, c, x⟩ := s
  simp only at g1 ⊢
  by_cases hx : x = 0
  · subst hx
    have h3 : ((3 : Int) == 0) = false := by decide
    have h3' : ((3 : Int) != 0) = true := by decide
    have h5 : ((5 : Int) != 0) = true := by decide
    by_cases h1 : n < 0
    · simp [g1, g0, h1, h3, h3', Jflagstoneref4_Reader_Count_4_eq]
    · by_cases h2 : most < n
      · simp [g1, g0, h1, h2, h5, Jflagstoneref4_Reader_Count_4_eq]
      · simp [g1, h1, h2, Jflagstoneref4_Reader_Count_4_eq]
  · have hb1 : (x != 0) = true := by simpa using hx
    have hb2 : (x == 0) = false := by simpa using hx
    simp [g1, hx, hb1, hb2, Jflagstoneref4_Reader_Count_4_eq]

end Go.Proofs.YtdhdhcllgkddnaaGreat.Va

namespace Go.Proofs.YtdhdhcllgkddnaaGreat.Va
open Go Go.RowKit

theorem prs_err : ∀ (b : List UInt8) (i : Nat) (x : Int), prs i b = .error x → x ≠ 0
  | [], i, x, h => by simp [prs] at h; omega
  | c :: r, i, x, h => by
    rw [prs] at h
    split at h
    · cases h; decide
    · split at h
      · split at h
        · rename_i e he; cases h; exact prs_err r (i + 1) _ he
        · cases h
      · split at h
        · cases h; decide
        · cases h

/-- One number. -/
def num1 (b : List UInt8) : Option (Int × List UInt8) :=
  match prs 0 b with
  | .error _ => none
  | .ok (u, n) => some (unzig u, b.drop n)
theorem num1_zig {n : Int} (h : I64 n) (r : List UInt8) : num1 (grp (zig n) ++ r) = some (n, r) := by
  unfold num1
  rw [prs_zig h r]
  simp [unzig_zig]
theorem num1_of {b : List UInt8} {x : Int} {r : List UInt8} (h : num1 b = some (x, r)) : I64 x ∧ b = grp (zig x) ++ r := by
  unfold num1 at h
  split at h
  · cases h
  · rename_i u n hu
    cases h
    obtain ⟨h1, h2, h3, h4, h5⟩ := prs_used hu
    exact ⟨unzig_I64 h5, by rw [zig_unzig]; exact h1⟩
theorem num1_len {b : List UInt8} {x : Int} {r : List UInt8} (h : num1 b = some (x, r)) : r.length < b.length := by
  obtain ⟨_, h2⟩ := num1_of h
  obtain ⟨c, q, hc⟩ := grp_ne' (zig x)
  rw [h2, hc]
  simp
  omega

def numsD : Nat → List UInt8 → Option (List Int × List UInt8)
  | 0, b => some ([], b)
  | n + 1, b =>
    match num1 b with
    | none => none
    | some (x, r) => match numsD n r with | none => none | some (l, q) => some (x :: l, q)
theorem numsD_plain : ∀ (l : List Int) (r : List UInt8), (∀ x ∈ l, I64 x) → numsD l.length (plainB l ++ r) = some (l, r)
  | [], r, _ => rfl
  | x :: l, r, h => by
    rw [plainB_cons, List.append_assoc, List.length_cons, numsD, num1_zig (h x (by simp))]
    simp only [numsD_plain l r fun y hy => h y (List.mem_cons_of_mem _ hy)]
theorem numsD_of : ∀ {n : Nat} {b : List UInt8} {l : List Int} {r : List UInt8}, numsD n b = some (l, r) → l.length = n ∧ ∀ x ∈ l, I64 x
  | 0, b, l, r, h => by cases h; simp
  | n + 1, b, l, r, h => by
    rw [numsD] at h
    split at h
    · cases h
    · rename_i x q hx
      split at h
      · cases h
      · rename_i l' q' hl
        cases h
        obtain ⟨h1, h2⟩ := numsD_of hl
        refine ⟨by simp [h1], fun y hy => ?_⟩
        rcases List.mem_cons.1 hy with rfl | hy
        · exact (num1_of hx).1
        · exact h2 y hy
theorem numsD_len : ∀ {n : Nat} {b : List UInt8} {l : List Int} {r : List UInt8}, numsD n b = some (l, r) → r.length ≤ b.length
  | 0, b, l, r, h => by cases h; exact Nat.le_refl _
  | n + 1, b, l, r, h => by
    rw [numsD] at h
    split at h
    · cases h
    · rename_i x q hx
      split at h
      · cases h
      · rename_i l' q' hl
        cases h
        have := numsD_len hl
        have := num1_len hx
        omega

/-- Runs. -/
def runsD (n : Nat) (b : List UInt8) : Option (List Int) :=
  if n = 0 then some [] else
  match num1 b with
  | none => none
  | some (x, r) =>
    match num1 r with
    | none => none
    | some (k, q) =>
      if h : 1 ≤ k ∧ k ≤ (n : Int) then
        match runsD (n - k.toNat) q with
        | none => none
        | some l => some (List.replicate k.toNat x ++ l)
      else none
termination_by n
decreasing_by omega
theorem runsD_runs : ∀ (m : Nat) (l : List Int) (r : List UInt8), l.length ≤ m → l.length < 9223372036854775807 → (∀ x ∈ l, I64 x) → runsD l.length (runsB l ++ r) = some l
  | _, [], r, _, _, _ => by rw [runsD]; simp
  | 0, x :: l, r, hm, _, _ => by simp at hm
  | m + 1, x :: l, r, hm, hl, h => by
    have hr := runOf_le x l
    have hl' : l.length + 1 < 9223372036854775807 := by simpa using hl
    have hm' : l.length ≤ m := by simpa using hm
    rw [runsB, runsD, if_neg (by simp)]
    simp only [List.append_assoc, num1_zig (h x (by simp))]
    rw [num1_zig (I64_nat (by omega))]
    simp only
    rw [dif_pos (by simp; omega)]
    have e : (x :: l).length - ((runOf x l + 1 : Nat) : Int).toNat = (l.drop (runOf x l)).length := by simp
    rw [e, runsD_runs m (l.drop (runOf x l)) r (by simp; omega) (by simp; omega) fun y hy => h y (List.mem_cons_of_mem _ (List.mem_of_mem_drop hy))]
    simp only [Int.toNat_natCast, List.replicate_succ, List.cons_append, Option.some.injEq, List.cons.injEq, true_and]
    have ht : ∀ l : List Int, List.replicate (runOf x l) x = l.take (runOf x l) := fun l => by
      induction l with
      | nil => rfl
      | cons y ys ih =>
        unfold runOf
        split
        · rename_i e; rw [e, List.replicate_succ, List.take_succ_cons, ih]
        · rfl
    rw [ht, List.take_append_drop]
theorem runsD_of : ∀ (n : Nat) (m : Nat) (b : List UInt8) (l : List Int), m ≤ n → runsD m b = some l → l.length = m ∧ ∀ x ∈ l, I64 x := by
  intro n
  induction n with
  | zero =>
    intro m b l hm h
    obtain rfl : m = 0 := by omega
    rw [runsD, if_pos rfl] at h
    cases h; simp
  | succ n ih =>
    intro m b l hm h
    rw [runsD] at h
    split at h
    · rename_i h0; cases h; simp [h0]
    · split at h
      · cases h
      · rename_i x r hx
        split at h
        · cases h
        · rename_i k q hk
          split at h
          · rename_i hh
            split at h
            · cases h
            · rename_i l' hl
              cases h
              obtain ⟨h1, h2⟩ := ih (m - k.toNat) q l' (by omega) hl
              refine ⟨by simp [h1]; omega, fun y hy => ?_⟩
              rcases List.mem_append.1 hy with hy | hy
              · rw [(List.mem_replicate.1 hy).2]; exact (num1_of hx).1
              · exact h2 y hy
          · cases h

/-- Steps: sums. -/
def sumsL (p : Int) : List Int → List Int
  | [] => []
  | d :: ds => IntKind.i64.wrap (d + p) :: sumsL (IntKind.i64.wrap (d + p)) ds
theorem sumsL_len : ∀ (p : Int) (l : List Int), (sumsL p l).length = l.length
  | _, [] => rfl
  | p, d :: ds => by simp [sumsL, sumsL_len]
theorem sumsL_I64 : ∀ (p : Int) (l : List Int), ∀ x ∈ sumsL p l, I64 x
  | _, [], x, h => by simp [sumsL] at h
  | p, d :: ds, x, h => by
    rcases List.mem_cons.1 h with rfl | h
    · exact wrap_in _
    · exact sumsL_I64 _ ds x h
theorem wrap_sub_add {x p : Int} (h : I64 x) : IntKind.i64.wrap (IntKind.i64.wrap (x - p) + p) = x := by
  have w : ∀ n : Int, IntKind.i64.wrap n = if n % 18446744073709551616 ≥ 9223372036854775808 then n % 18446744073709551616 - 18446744073709551616 else n % 18446744073709551616 := fun n => by simp [IntKind.wrap, IntKind.bits, IntKind.signed]
  unfold I64 at h
  rw [w, w]
  split <;> split <;> omega
def diffsL (p : Int) : List Int → List Int
  | [] => []
  | x :: xs => IntKind.i64.wrap (x - p) :: diffsL x xs
theorem diffsL_len : ∀ (p : Int) (l : List Int), (diffsL p l).length = l.length
  | _, [] => rfl
  | p, d :: ds => by simp [diffsL, diffsL_len]
theorem diffsL_I64 : ∀ (p : Int) (l : List Int), ∀ x ∈ diffsL p l, I64 x
  | _, [], x, h => by simp [diffsL] at h
  | p, d :: ds, x, h => by
    rcases List.mem_cons.1 h with rfl | h
    · exact wrap_in _
    · exact diffsL_I64 _ ds x h
theorem steps_diffs : ∀ (p : Int) (l : List Int), stepsFrom p l = plainB (diffsL p l)
  | _, [] => rfl
  | p, x :: l => by rw [stepsFrom, diffsL, plainB_cons, steps_diffs]
theorem sums_diffs : ∀ (p : Int) (l : List Int), (∀ x ∈ l, I64 x) → sumsL p (diffsL p l) = l
  | _, [], _ => rfl
  | p, x :: l, h => by
    rw [diffsL, sumsL, wrap_sub_add (h x (by simp)), sums_diffs x l fun y hy => h y (List.mem_cons_of_mem _ hy)]
def stepsD (n : Nat) (b : List UInt8) : Option (List Int) := (numsD n b).map fun p => sumsL 0 p.1
theorem stepsD_steps {l : List Int} (h : ∀ x ∈ l, I64 x) (r : List UInt8) : stepsD l.length (stepsB l ++ r) = some l := by
  unfold stepsD stepsB
  rw [steps_diffs, ← diffsL_len 0 l, numsD_plain _ _ (diffsL_I64 0 l)]
  simp [sums_diffs 0 l h]

/-- Keys and their indexes. -/
def pickD (d : List Int) : Nat → List UInt8 → Option (List Int)
  | 0, _ => some []
  | n + 1, b =>
    match num1 b with
    | none => none
    | some (k, r) => if 0 ≤ k ∧ k < (d.length : Int) then (match pickD d n r with | none => none | some l => some (d.getD k.toNat 0 :: l)) else none
def indexD (most : Nat) (n : Nat) (b : List UInt8) : Option (List Int) :=
  match num1 b with
  | none => none
  | some (m, r) =>
    if 0 ≤ m ∧ m ≤ (most : Int) then
      match numsD m.toNat r with
      | none => none
      | some (d, q) => pickD d n q
    else none
theorem pickD_of {d : List Int} (hd : ∀ x ∈ d, I64 x) : ∀ {n : Nat} {b : List UInt8} {l : List Int}, pickD d n b = some l → l.length = n ∧ ∀ x ∈ l, I64 x
  | 0, b, l, h => by cases h; simp
  | n + 1, b, l, h => by
    rw [pickD] at h
    split at h
    · cases h
    · rename_i k r hk
      split at h
      · rename_i hh
        split at h
        · cases h
        · rename_i l' hl
          cases h
          obtain ⟨h1, h2⟩ := pickD_of hd hl
          refine ⟨by simp [h1], fun y hy => ?_⟩
          rcases List.mem_cons.1 hy with rfl | hy
          · have : k.toNat < d.length := by omega
            rw [List.getD_eq_getElem?_getD, List.getElem?_eq_getElem this]
            exact hd _ (List.getElem_mem this)
          · exact h2 y hy
      · cases h
theorem pickD_pos {d : List Int} (hs : Asc d) (hd : d.length < 9223372036854775808) : ∀ (l : List Int) (r : List UInt8), (∀ x ∈ l, x ∈ d) → pickD d l.length (posB d l ++ r) = some l
  | [], r, _ => rfl
  | x :: l, r, h => by
    obtain ⟨h1, h2⟩ := idxFrom_pos (k := 0) hs (h x (by simp))
    obtain ⟨h3, h4⟩ := List.getElem?_eq_some_iff.1 h2
    rw [posB_cons, List.append_assoc, List.length_cons, pickD, num1_zig (I64_nat (by omega))]
    simp only
    rw [if_pos (by omega), pickD_pos hs hd l r fun y hy => h y (List.mem_cons_of_mem _ hy)]
    simp [h2]
theorem indexD_of {most n : Nat} {b : List UInt8} {l : List Int} (h : indexD most n b = some l) : l.length = n ∧ ∀ x ∈ l, I64 x := by
  unfold indexD at h
  split at h
  · cases h
  · split at h
    · split at h
      · cases h
      · rename_i d q hd
        exact pickD_of (numsD_of hd).2 h
    · cases h
theorem indexB_eq (l : List Int) : indexB l = grp (zig ((distinctL l).length : Int)) ++ (plainB (distinctL l) ++ posB (distinctL l) l) := by
  unfold indexB posB; rw [List.append_assoc]
theorem indexD_index {most : Nat} {l : List Int} (h : ∀ x ∈ l, I64 x) (hm : l.length ≤ most) (hl : l.length < 9223372036854775807) (r : List UInt8) : indexD most l.length (indexB l ++ r) = some l := by
  have hd := distinctL_len l
  unfold indexD
  rw [indexB_eq, List.append_assoc, num1_zig (I64_nat (by omega))]
  simp only
  rw [if_pos (by omega), Int.toNat_natCast, List.append_assoc, numsD_plain _ _ fun x hx => h x (mem_distinctL.1 hx)]
  simp only
  exact pickD_pos (distinctL_asc l) (by omega) l r fun x hx => mem_distinctL.2 hx

end Go.Proofs.YtdhdhcllgkddnaaGreat.Va

namespace Go.Proofs.YtdhdhcllgkddnaaGreat.Va
open Go Go.RowKit

/-- Bit a of a row of bytes. -/
def bitI (p : List Int) (a : Nat) : Bool := ((p.getD (a / 8) 0).toNat).testBit (a % 8)
def bitU (p : List UInt8) (a : Nat) : Bool := ((p.getD (a / 8) 0).toNat).testBit (a % 8)

theorem ofInt8_nat {a : Nat} (h : a < 256) : (BitVec.ofInt 8 (a : Int)).toNat = a := by
  rw [BitVec.toNat_ofInt]
  omega
theorem or8_nat {a b : Nat} (ha : a < 256) (hb : b < 256) : bits .or .u8 (a : Int) (b : Int) = ((a ||| b : Nat) : Int) := by
  show IntKind.u8.wrap ((BitVec.ofInt 8 (a : Int) ||| (BitVec.ofInt 8 (b : Int) : BitVec 8)).toNat : Int) = _
  have h : (a ||| b) < 2 ^ 8 := Nat.or_lt_two_pow ha hb
  rw [BitVec.toNat_or, ofInt8_nat ha, ofInt8_nat hb, wrap_u8]
  omega
theorem and8_one {a : Nat} (ha : a < 256) : bits .and .u8 (a : Int) 1 = ((a % 2 : Nat) : Int) := by
  show IntKind.u8.wrap ((BitVec.ofInt 8 (a : Int) &&& (BitVec.ofInt 8 1 : BitVec 8)).toNat : Int) = _
  have e : (BitVec.ofInt 8 1).toNat = 1 := by decide
  rw [BitVec.toNat_and, ofInt8_nat ha, e, Nat.and_one_is_mod, wrap_u8]
  omega

theorem orB_nat {o u k a : Nat} (ho : o < 256) (hu : u < 18446744073709551616) (hk : k < 64) : orB (o : Int) (u : Int) k a = ((o ||| (u / 2 ^ k % 2) * 2 ^ (a % 8) : Nat) : Int) := by
  unfold orB
  have h8 : a % 8 < 8 := Nat.mod_lt _ (by decide)
  rw [Nat.min_eq_left (by omega : k ≤ 64), Nat.min_eq_left (by omega : a % 8 ≤ 8), fdiv_pow, and_one (Nat.lt_of_le_of_lt (Nat.div_le_self ..) hu), wrap_u8 ((u / 2 ^ k % 2 : Nat) : Int)]
  have hb : u / 2 ^ k % 2 < 2 := Nat.mod_lt _ (by decide)
  generalize hbb : u / 2 ^ k % 2 = bb at hb ⊢
  have e1 : ((bb : Nat) : Int) % 256 = (bb : Int) := by omega
  have hp : 2 ^ (a % 8) ≤ 128 := by
    have := Nat.pow_le_pow_right (n := 2) (by decide) (show a % 8 ≤ 7 by omega)
    simpa using this
  have hlt : bb * 2 ^ (a % 8) < 256 := by
    have := Nat.mul_le_mul (show bb ≤ 1 by omega) hp
    omega
  have p : (2 : Int) ^ (a % 8) = ((2 ^ (a % 8) : Nat) : Int) := by simp
  rw [e1, p, ← Int.natCast_mul, wrap_u8]
  have e2 : ((bb * 2 ^ (a % 8) : Nat) : Int) % 256 = ((bb * 2 ^ (a % 8) : Nat) : Int) := by omega
  rw [e2]
  exact or8_nat ho hlt
theorem testBit_bit (u k : Nat) : u / 2 ^ k % 2 = (u.testBit k).toNat := by
  rw [Nat.testBit_eq_decide_div_mod_eq]
  have : u / 2 ^ k % 2 < 2 := Nat.mod_lt _ (by decide)
  by_cases h : u / 2 ^ k % 2 = 1
  · simp [h]
  · have : u / 2 ^ k % 2 = 0 := by omega
    simp [this]
theorem bit_at (b : Bool) (s j : Nat) : (b.toNat * 2 ^ s).testBit j = (decide (j = s) && b) := by
  cases b with
  | false => simp
  | true => simp only [Bool.toNat_true, Nat.one_mul, Nat.testBit_two_pow, Bool.and_true]; congr 1; simp [eq_comm]

theorem bitI_set {p : List Int} (hp : Bytes p) {u k a a' : Nat} (ha : a / 8 < p.length) (hu : u < 18446744073709551616) (hk : k < 64) :
    bitI (p.set (a / 8) (orB (p.getD (a / 8) 0) u k a)) a' = (bitI p a' || (decide (a' = a) && u.testBit k)) := by
  unfold bitI
  by_cases h : a' / 8 = a / 8
  · have hpa := hp _ (List.getElem_mem ha)
    have e0 : p.getD (a / 8) 0 = (((p[a / 8]).toNat : Nat) : Int) := by rw [List.getD_eq_getElem?_getD, List.getElem?_eq_getElem ha]; simp; omega
    rw [h, List.getD_eq_getElem?_getD, List.getElem?_set_self ha, Option.getD_some, e0, orB_nat (by omega) hu hk, Int.toNat_natCast, Int.toNat_natCast, Nat.testBit_or, testBit_bit, bit_at]
    congr 2
    have h2 := Nat.div_add_mod a 8
    have h3 := Nat.div_add_mod a' 8
    by_cases e : a' = a
    · simp [e]
    · have : a' % 8 ≠ a % 8 := by omega
      simp [e, this]
  · rw [List.getD_eq_getElem?_getD, List.getElem?_set_ne (Ne.symm h), ← List.getD_eq_getElem?_getD]
    have : a' ≠ a := fun e => h (by rw [e])
    simp [this]

theorem packIn_bit {u i w : Nat} (hu : u < 18446744073709551616) (hw : w ≤ 64) : ∀ (d k : Nat) (p : List Int) (a' : Nat), k + d = w → Bytes p → (∀ j, j < w → (i * w + j) / 8 < p.length) →
    bitI (packIn (u : Int) i w d k p) a' = (bitI p a' || (decide (i * w + k ≤ a' ∧ a' < i * w + w) && u.testBit (a' - i * w)))
  | 0, k, p, a', hd, hp, hl => by
    have : ¬ (i * w + k ≤ a' ∧ a' < i * w + w) := by omega
    simp [packIn, this]
  | d + 1, k, p, a', hd, hp, hl => by
    have hk : (i * w + k) / 8 < p.length := hl k (by omega)
    have hb : Bytes (p.set ((i * w + k) / 8) (orB (p.getD ((i * w + k) / 8) 0) u k (i * w + k))) := fun x hx => by
      rcases List.mem_or_eq_of_mem_set hx with hx | rfl
      · exact hp x hx
      · exact orB_range _ _ _ _
    rw [packIn, packIn_bit hu hw d (k + 1) _ a' (by omega) hb (fun j hj => by simpa using hl j hj), bitI_set hp hk hu (by omega), Bool.or_assoc]
    congr 1
    by_cases e : a' = i * w + k
    · subst e
      have h1 : ¬ (i * w + (k + 1) ≤ i * w + k ∧ i * w + k < i * w + w) := by omega
      have h2 : i * w + k ≤ i * w + k ∧ i * w + k < i * w + w := by omega
      simp [h2, show i * w + k - i * w = k by omega]
    · have h1 : (i * w + (k + 1) ≤ a' ∧ a' < i * w + w) ↔ (i * w + k ≤ a' ∧ a' < i * w + w) := by omega
      simp [e, h1]

theorem packOut_bit {least : Int} {w : Nat} (hw : w ≤ 64) : ∀ (l : List Int) (i : Nat) (p : List Int) (a' : Nat), Bytes p → (∀ j k, j < l.length → k < w → ((i + j) * w + k) / 8 < p.length) →
    (∀ x ∈ l, ∃ u : Nat, u < 18446744073709551616 ∧ offU x least = (u : Int)) → (a' < i * w → bitI (packOut least w l i p) a' = bitI p a') ∧
    ∀ j k, (h : j < l.length) → k < w → (∀ q, (i + j) * w ≤ q → bitI p q = false) → bitI (packOut least w l i p) ((i + j) * w + k) = (offU l[j] least).toNat.testBit k
  | [], i, p, a', hp, hl, hu => ⟨fun _ => rfl, fun j k h => by simp at h⟩
  | x :: xs, i, p, a', hp, hl, hu => by
    obtain ⟨u, hu1, hu2⟩ := hu x (by simp)
    have hl0 : ∀ j, j < w → (i * w + j) / 8 < p.length := fun j hj => by simpa using hl 0 j (by simp) hj
    have hb := packIn_bytes (u : Int) i w w 0 p hp
    have hlen := packIn_length (u : Int) i w w 0 p
    have key : ∀ a, bitI (packIn (u : Int) i w w 0 p) a = (bitI p a || (decide (i * w + 0 ≤ a ∧ a < i * w + w) && u.testBit (a - i * w))) := fun a => packIn_bit hu1 hw w 0 p a (by omega) hp hl0
    have ih := fun a => packOut_bit (least := least) hw xs (i + 1) (packIn (u : Int) i w w 0 p) a hb (fun j k hj hk => by rw [hlen, show i + 1 + j = i + (j + 1) by omega]; exact hl (j + 1) k (by simpa using hj) hk) fun y hy => hu y (List.mem_cons_of_mem _ hy)
    rw [packOut, hu2]
    refine ⟨fun ha => ?_, fun j k hj hk hz => ?_⟩
    · rw [(ih a').1 (by rw [Nat.add_mul]; omega), key]
      rw [decide_eq_false (show ¬ (i * w + 0 ≤ a' ∧ a' < i * w + w) by omega), Bool.false_and, Bool.or_false]
    · cases j with
      | zero =>
        simp only [Nat.add_zero] at hz ⊢
        rw [(ih _).1 (by rw [Nat.add_mul]; omega), key]
        rw [hz _ (by omega)]
        simp [show i * w + k - i * w = k by omega, hu2, hk]
      | succ j =>
        have := (ih 0).2 j k (by simpa using hj) hk (fun q hq => by
          rw [key, hz q (by rw [show i + (j + 1) = i + 1 + j by omega]; exact hq)]
          have h1 : (i + 1) * w ≤ (i + 1 + j) * w := Nat.mul_le_mul_right _ (by omega)
          rw [Nat.add_mul, Nat.one_mul] at h1
          rw [decide_eq_false (show ¬ (i * w + 0 ≤ q ∧ q < i * w + w) by omega), Bool.false_and, Bool.or_false])
        rw [show i + (j + 1) = i + 1 + j by omega, this]
        rfl

/-- The number of bits k of element i. -/
def valK (p : List UInt8) (i w : Nat) : Nat → Nat
  | 0 => 0
  | k + 1 => valK p i w k + (bitU p (i * w + k)).toNat * 2 ^ k
theorem valK_lt (p : List UInt8) (i w : Nat) : ∀ k, valK p i w k < 2 ^ k
  | 0 => by simp [valK]
  | k + 1 => by
    have := valK_lt p i w k
    have hb : (bitU p (i * w + k)).toNat ≤ 1 := Bool.toNat_le _
    have := Nat.mul_le_mul_right (2 ^ k) hb
    rw [valK, Nat.pow_succ]
    omega
theorem valK_of {p : List UInt8} {i w u : Nat} : ∀ (k : Nat), (∀ j, j < k → bitU p (i * w + j) = u.testBit j) → valK p i w k = u % 2 ^ k
  | 0, _ => by simp [valK, Nat.mod_one]
  | k + 1, h => by
    rw [valK, valK_of k fun j hj => h j (by omega), h k (by omega), Nat.mod_pow_succ, ← testBit_bit]
    rw [Nat.mul_comm]

/-- Bits. -/
def bitsL (least : Int) (w : Nat) (p : List UInt8) (n : Nat) : List Int := (List.range n).map fun i => IntKind.i64.wrap (IntKind.u64.wrap (IntKind.u64.wrap least + (valK p i w w : Int)))
def bitsD (n : Nat) (b : List UInt8) : Option (List Int) :=
  match num1 b with
  | none => none
  | some (least, r) =>
    match num1 r with
    | none => none
    | some (w, q) => if 0 ≤ w ∧ w ≤ 64 then (if q.length < (n * w.toNat + 7) / 8 then none else some (bitsL least w.toNat q n)) else none
theorem bitsD_of {n : Nat} {b : List UInt8} {l : List Int} (h : bitsD n b = some l) : l.length = n ∧ ∀ x ∈ l, I64 x := by
  unfold bitsD at h
  split at h
  · cases h
  · split at h
    · cases h
    · split at h
      · split at h
        · cases h
        · cases h
          refine ⟨by simp [bitsL], fun x hx => ?_⟩
          simp only [bitsL, List.mem_map] at hx
          obtain ⟨i, _, rfl⟩ := hx
          exact wrap_in _
      · cases h

theorem packB_length (least : Int) (w : Nat) (l : List Int) : (packB least w l).length = (l.length * w + 7) / 8 := by simp [packB, packOut_length]
theorem bitU_packB {least : Int} {w : Nat} {l : List Int} (r : List UInt8) {a : Nat} (ha : a < l.length * w) : bitU (packB least w l ++ r) a = bitI (packOut least w l 0 (List.replicate ((l.length * w + 7) / 8) 0)) a := by
  have hB := packOut_bytes least w l 0 _ (rep_bytes ((l.length * w + 7) / 8))
  have hlen := packOut_length least w l 0 (List.replicate ((l.length * w + 7) / 8) 0)
  have hlt : a / 8 < (packOut least w l 0 (List.replicate ((l.length * w + 7) / 8) 0)).length := by rw [hlen, List.length_replicate]; omega
  have hx := hB _ (List.getElem_mem hlt)
  unfold bitU bitI
  have e1 : (packB least w l ++ r).getD (a / 8) 0 = UInt8.ofNat ((packOut least w l 0 (List.replicate ((l.length * w + 7) / 8) 0))[a / 8]).toNat := by
    rw [List.getD_eq_getElem?_getD, List.getElem?_append_left (by rw [packB_length]; omega)]
    unfold packB
    rw [List.getElem?_map, List.getElem?_eq_getElem hlt]
    rfl
  rw [e1, List.getD_eq_getElem?_getD, List.getElem?_eq_getElem hlt, Option.getD_some, u8_small (by omega)]

theorem wid_lt : ∀ (k u : Nat), u < 2 ^ k → u < 2 ^ wid u
  | 0, u, h => by
    have : u = 0 := by simpa using h
    subst this; rw [wid]; simp
  | k + 1, u, h => by
    rw [wid]
    split
    · rename_i e; simp [e]
    · rw [Nat.pow_succ] at h ⊢
      have := wid_lt k (u / 2) (by omega)
      omega
theorem bitsD_bits {l : List Int} (hI : ∀ x ∈ l, I64 x) (h0 : l ≠ []) (r : List UInt8) : bitsD l.length (bitsB l ++ r) = some l := by
  obtain ⟨hm, hmin⟩ := minL_facts h0
  obtain ⟨hM, hmax⟩ := maxL_facts h0
  have hw := widthL_le hI h0
  have hm1 := hI _ hm
  have hM1 := hI _ hM
  unfold bitsD bitsB
  rw [List.append_assoc, List.append_assoc, num1_zig hm1]
  simp only
  rw [num1_zig (I64_nat (by omega))]
  simp only
  rw [if_pos (by omega), Int.toNat_natCast, if_neg (by rw [List.length_append, packB_length]; omega)]
  congr 1
  refine List.ext_getElem (by simp [bitsL]) fun i h1 h2 => ?_
  simp only [bitsL, List.getElem_map, List.getElem_range]
  have hx := hI _ (List.getElem_mem h2)
  have hlx := hmin _ (List.getElem_mem h2)
  have hxM := hmax _ (List.getElem_mem h2)
  unfold I64 at hx hm1 hM1
  have hoff : ∀ x ∈ l, ∃ u : Nat, u < 18446744073709551616 ∧ offU x (minL l) = (u : Int) := fun x hx => ⟨_, by have := hI x hx; unfold I64 at this; have := hmin x hx; omega, offU_eq (hI x hx) (hI _ hm) (hmin x hx)⟩
  have hpk := packOut_bit (least := minL l) hw l 0 (List.replicate ((l.length * widthL l + 7) / 8) 0) 0 (rep_bytes _) (fun j k hj hk => by
    rw [List.length_replicate]
    have : (j + 1) * widthL l ≤ l.length * widthL l := Nat.mul_le_mul_right _ hj
    rw [Nat.add_mul] at this
    rw [Nat.zero_add]
    omega) hoff
  have hz : ∀ q, bitI (List.replicate ((l.length * widthL l + 7) / 8) 0) q = false := fun q => by
    unfold bitI
    rw [List.getD_eq_getElem?_getD, List.getElem?_replicate]
    split <;> simp
  have hv : valK (packB (minL l) (widthL l) l ++ r) i (widthL l) (widthL l) = (l[i] - minL l).toNat := by
    rw [valK_of (u := (l[i] - minL l).toNat) (widthL l) fun j hj => ?_]
    · refine Nat.mod_eq_of_lt (Nat.lt_of_lt_of_le ?_ (Nat.le_refl _))
      have h3 := wid_lt 64 (maxL l - minL l).toNat (by omega)
      unfold widthL
      omega
    · have hlt : i * widthL l + j < l.length * widthL l := by
        have : (i + 1) * widthL l ≤ l.length * widthL l := Nat.mul_le_mul_right _ h2
        rw [Nat.add_mul] at this
        omega
      have := hpk.2 i j h2 hj fun q _ => hz q
      rw [bitU_packB r hlt]
      rw [Nat.zero_add] at this
      rw [this, offU_eq (hI _ (List.getElem_mem h2)) (hI _ hm) hlx, Int.toNat_natCast]
  rw [hv]
  have w : ∀ n : Int, IntKind.i64.wrap n = if n % 18446744073709551616 ≥ 9223372036854775808 then n % 18446744073709551616 - 18446744073709551616 else n % 18446744073709551616 := fun n => by simp [IntKind.wrap, IntKind.bits, IntKind.signed]
  rw [wrap_u64, wrap_u64, w]
  split <;> omega

/-- The decoder by kind. -/
def bodyD (most kind n : Nat) (b : List UInt8) : Option (List Int) :=
  if kind = 1 then (numsD n b).map (·.1) else if kind = 2 then runsD n b else if kind = 3 then stepsD n b else if kind = 4 then indexD most n b else bitsD n b
theorem bodyD_of {most kind n : Nat} {b : List UInt8} {l : List Int} (h : bodyD most kind n b = some l) : l.length = n ∧ ∀ x ∈ l, I64 x := by
  unfold bodyD at h
  split at h
  · simp only [Option.map_eq_some_iff] at h
    obtain ⟨⟨l', r⟩, h, rfl⟩ := h
    exact numsD_of h
  · split at h
    · exact runsD_of n n b l (Nat.le_refl _) h
    · split at h
      · simp only [stepsD, Option.map_eq_some_iff] at h
        obtain ⟨⟨l', r⟩, h, rfl⟩ := h
        exact ⟨by rw [sumsL_len]; exact (numsD_of h).1, sumsL_I64 0 _⟩
      · split at h
        · exact indexD_of h
        · exact bitsD_of h
theorem bodyD_body {most kind : Nat} {l : List Int} (hI : ∀ x ∈ l, I64 x) (h0 : l ≠ []) (hm : l.length ≤ most) (hl : l.length < 9223372036854775807) (r : List UInt8) : bodyD most kind l.length (bodyB kind l ++ r) = some l := by
  unfold bodyD bodyB
  split
  · rw [numsD_plain l r hI]; rfl
  · split
    · exact runsD_runs _ l r (Nat.le_refl _) hl hI
    · split
      · exact stepsD_steps hI r
      · split
        · exact indexD_index hI hm hl r
        · exact bitsD_bits hI h0 r

end Go.Proofs.YtdhdhcllgkddnaaGreat.Va

namespace Go.Proofs.YtdhdhcllgkddnaaGreat.Va
open Go Go.RowKit

theorem numS_some {b r : List UInt8} {x : Int} (h : num1 b = some (x, r)) : numS b 0 = (x, r, 0) := by
  unfold num1 at h
  unfold numS
  rw [if_neg (by simp)]
  split at h
  · cases h
  · rename_i u n hu; cases h; simp [hu]
theorem numS_none {b : List UInt8} (h : num1 b = none) : ∃ e, e ≠ 0 ∧ numS b 0 = (0, b, e) := by
  unfold num1 at h
  unfold numS
  rw [if_neg (by simp)]
  split at h
  · rename_i e he; exact ⟨e, prs_err _ _ _ he, by simp [he]⟩
  · cases h
theorem numS_err {b : List UInt8} {e : Int} (h : e ≠ 0) : numS b e = (0, b, e) := by unfold numS; rw [if_pos h]

theorem g_num {b : List UInt8} (hb : b.length ≤ 100000000000000) (e : Int) : wire_Reader_Number [.agg [.sl 1 (byV b), .int .i64 e]] = some ([.int .i64 (numS b e).1], [.agg [.sl 1 (byV (numS b e).2.1), .int .i64 (numS b e).2.2]]) := wire_Reader_Number_eq' hb e
theorem g_num_some {b r : List UInt8} {x : Int} (hb : b.length ≤ 100000000000000) (h : num1 b = some (x, r)) : wire_Reader_Number [.agg [.sl 1 (byV b), .int .i64 0]] = some ([.int .i64 x], [.agg [.sl 1 (byV r), .int .i64 0]]) := by
  rw [g_num hb, numS_some h]
theorem g_num_none {b : List UInt8} (hb : b.length ≤ 100000000000000) (h : num1 b = none) : ∃ e, e ≠ 0 ∧ wire_Reader_Number [.agg [.sl 1 (byV b), .int .i64 0]] = some ([.int .i64 0], [.agg [.sl 1 (byV b), .int .i64 e]]) := by
  obtain ⟨e, he, h⟩ := numS_none h
  exact ⟨e, he, by rw [g_num hb, h]⟩
theorem g_num_err {b : List UInt8} {e : Int} (hb : b.length ≤ 100000000000000) (h : e ≠ 0) : wire_Reader_Number [.agg [.sl 1 (byV b), .int .i64 e]] = some ([.int .i64 0], [.agg [.sl 1 (byV b), .int .i64 e]]) := by
  rw [g_num hb, numS_err h]
theorem g_err (b : List UInt8) (e : Int) : wire_Reader_Err [.agg [.sl 1 (byV b), .int .i64 e]] = some ([.int .i64 e], [.agg [.sl 1 (byV b), .int .i64 e]]) := wire_Reader_Err_eq' b e
theorem g_new {b : List UInt8} (hb : b.length ≤ 100000000000000) : wire_New [.sl 1 (byV b)] = some ([.agg [.sl 1 (byV b), .int .i64 0]], []) := wire_New_eq' hb

theorem bne0 {e : Int} (h : e ≠ 0) : (e == 0) = false := by simpa using h

/-- Behind an error. -/
theorem column_readPlain_bad {n : Nat} {b : List UInt8} {e : Int} (he : e ≠ 0) (l : List Int) (k : Nat) : ∃ l' : List Int, Lcolumn_readPlain_0 N0 column_readPlain_G (k + 1) n (byV b) e (intV l) = some ([.sl 1 (intV l'), .bool false], []) ∧ l'.length = l.length := by
  have h1 : column_readPlain_G 1 [.agg [.sl 1 (byV b), .int .i64 e]] = some ([.int .i64 e], [.agg [.sl 1 (byV b), .int .i64 e]]) := g_err b e
  have hz := bne0 he
  refine ⟨l, ?_, rfl⟩
  rw [Lcolumn_readPlain_0_eq]
  by_cases hc : (((intV l).length : Int) < (n : Int))
  · rw [decide_eq_true hc, cond_true]
    simp [h1, hz, -List.all_eq_true]
  · rw [decide_eq_false hc, cond_false]
    simp [h1, hz, -List.all_eq_true]

theorem column_readPlain_loop {n : Nat} (hn : n ≤ 1000000) : ∀ (d : Nat) (b : List UInt8) (l : List Int) (k : Nat), l.length + d = n → d + 1 < k → b.length ≤ 100000000000000 →
    match numsD d b with
    | some (l', _) => Lcolumn_readPlain_0 N0 column_readPlain_G k n (byV b) 0 (intV l) = some ([.sl 1 (intV (l ++ l')), .bool true], [])
    | none => ∃ l' : List Int, Lcolumn_readPlain_0 N0 column_readPlain_G k n (byV b) 0 (intV l) = some ([.sl 1 (intV l'), .bool false], []) ∧ l'.length ≤ n := by
  intro d
  induction d with
  | zero =>
    intro b l k hd hk hb
    obtain ⟨k, rfl, _⟩ := rounds hk
    have h1 : column_readPlain_G 1 [.agg [.sl 1 (byV b), .int .i64 0]] = some ([.int .i64 0], [.agg [.sl 1 (byV b), .int .i64 0]]) := g_err b 0
    have hc : ¬ ((l.length : Int) < (n : Int)) := by omega
    simp only [numsD]
    rw [Lcolumn_readPlain_0_eq]
    simp [h1, hc, -List.all_eq_true]
  | succ d ih =>
    intro b l k hd hk hb
    obtain ⟨k, rfl, hk⟩ := rounds hk
    have h1 : column_readPlain_G 1 [.agg [.sl 1 (byV b), .int .i64 0]] = some ([.int .i64 0], [.agg [.sl 1 (byV b), .int .i64 0]]) := g_err b 0
    have hc : ((l.length : Int) < (n : Int)) := by omega
    have hroom : room (l.length + 1) 8 := room8 (by omega)
    cases hx : num1 b with
    | none =>
      obtain ⟨e, he, h2⟩ := g_num_none hb hx
      have h2 : column_readPlain_G 2 [.agg [.sl 1 (byV b), .int .i64 0]] = _ := h2
      simp only [numsD, hx]
      obtain ⟨k, rfl, _⟩ := rounds (j := 0) (k := k) (by omega)
      obtain ⟨l', hl', hll⟩ := column_readPlain_bad (n := n) (b := b) he (l ++ [0]) k
      refine ⟨l', ?_, by simp at hll; omega⟩
      rw [intV_append] at hl'
      rw [Lcolumn_readPlain_0_eq]
      simp [h1, hc, h2, hroom]
      exact hl'
    | some p =>
      obtain ⟨x, r⟩ := p
      have h2 : column_readPlain_G 2 [.agg [.sl 1 (byV b), .int .i64 0]] = _ := g_num_some hb hx
      have hr := num1_len hx
      have ih := ih r (l ++ [x]) k (by simp; omega) (by omega) (by omega)
      have e : Lcolumn_readPlain_0 N0 column_readPlain_G (k + 1) n (byV b) 0 (intV l) = Lcolumn_readPlain_0 N0 column_readPlain_G k n (byV r) 0 (intV (l ++ [x])) := by
        rw [show intV (l ++ [x]) = intV l ++ [V.int .i64 x] from intV_append .., Lcolumn_readPlain_0_eq]
        simp [h1, hc, h2, hroom]
      simp only [numsD, hx]
      cases hd2 : numsD d r with
      | none =>
        rw [hd2] at ih
        simp only [e]
        exact ih
      | some p =>
        obtain ⟨l', q⟩ := p
        rw [hd2] at ih
        simp only [e] at ih ⊢
        rw [ih]; simp

theorem column_readPlain_eq' {n : Nat} {b : List UInt8} (hn : n ≤ 1000000) (hb : b.length ≤ 100000000000000) :
    match numsD n b with
    | some (l, _) => column_readPlain [.sl 1 (byV b), .int .i64 n] = some ([.sl 1 (intV l), .bool true], [])
    | none => ∃ l : List Int, column_readPlain [.sl 1 (byV b), .int .i64 n] = some ([.sl 1 (intV l), .bool false], []) ∧ l.length ≤ n := by
  have h0 : column_readPlain_G 0 [.sl 1 (byV b)] = some ([.agg [.sl 1 (byV b), .int .i64 0]], []) := g_new hb
  have w := column_readPlain_loop hn n b [] N0 (by simp) (N0_pos (by omega)) hb
  have e : column_readPlain [.sl 1 (byV b), .int .i64 n] = Lcolumn_readPlain_0 N0 column_readPlain_G N0 n (byV b) 0 (intV []) := by
    unfold column_readPlain
    rw [Rcolumn_readPlain_eq]
    simp [h0]
  rw [e]
  simpa using w

theorem column_readSteps_loop {n : Nat} (hn : n ≤ 1000000) {ok : Bool} : ∀ (d i : Nat) (done rest : List Int) (p : Int) (k : Nat), rest.length = d → done.length + 1 = i → i + d = n → d < k →
    Lcolumn_readSteps_0 N0 column_readSteps_G k 0 n ok i (intV (done ++ p :: rest)) = some ([.sl 1 (intV (done ++ p :: sumsL p rest)), .bool ok], []) := by
  intro d
  induction d with
  | zero =>
    intro i done rest p k hr hi hd hk
    obtain ⟨k, rfl, _⟩ := rounds hk
    obtain rfl := List.eq_nil_of_length_eq_zero hr
    have hc : ¬ ((i : Int) < (n : Int)) := by omega
    have hl : (done ++ [p]).length = n := by simp; omega
    rw [Lcolumn_readSteps_0_eq]
    simp only [sumsL]
    rw [decide_eq_false hc, cond_false, if_pos (show True ∧ n ≤ (intV (done ++ [p])).length from ⟨trivial, by rw [intV_length]; omega⟩), if_pos (bare_intV _), intV_take, List.take_of_length_le (show (done ++ [p]).length ≤ n by omega)]
  | succ d ih =>
    intro i done rest p k hr hi hd hk
    obtain ⟨k, rfl, hk⟩ := rounds hk
    cases rest with
    | nil => simp at hr
    | cons x rest =>
      have hc : ((i : Int) < (n : Int)) := by omega
      have g1 : (intV (done ++ p :: x :: rest))[i]? = some (.int .i64 x) := by
        unfold intV
        rw [List.getElem?_map, List.getElem?_append_right (by omega), show i - done.length = 1 by omega]; rfl
      have g2 : (intV (done ++ p :: x :: rest))[i - 1]? = some (.int .i64 p) := by
        unfold intV
        rw [List.getElem?_map, List.getElem?_append_right (by omega), show i - 1 - done.length = 0 by omega]; rfl
      have ew : IntKind.i64.wrap ((i : Int) - 1) = ((i - 1 : Nat) : Int) := wrap_pred (by omega) (by omega)
      have e1 : IntKind.i64.wrap ((i : Int) + 1) = ((i + 1 : Nat) : Int) := by rw [wrap_succ (by omega)]; omega
      have hset : (intV (done ++ p :: x :: rest)).set i (.int .i64 (IntKind.i64.wrap (x + p))) = intV ((done ++ [p]) ++ IntKind.i64.wrap (x + p) :: rest) := by
        rw [intV_set, List.set_append_right _ _ (show done.length ≤ i by omega), show i - done.length = 1 by omega]
        simp
      have := ih (i + 1) (done ++ [p]) rest (IntKind.i64.wrap (x + p)) k (by simpa using hr) (by rw [List.length_append, List.length_singleton]; omega) (by omega) (by omega)
      rw [Lcolumn_readSteps_0_eq]
      simp only [decide_eq_true hc, cond_true, ew, e1, Nat.zero_add, Int.toNat_natCast, g1, g2, Option.bind_some, cells_int, List.getElem?_cons_zero, asInt_int, setCells_int, hset]
      rw [if_pos (by omega), if_pos (by omega), if_pos (show 0 + 1 ≤ [V.int IntKind.i64 x].length from Nat.le_refl _), this]
      simp [sumsL, show i < n by omega]

def sums1 : List Int → List Int
  | [] => []
  | p :: l => p :: sumsL p l
theorem sums1_eq : ∀ {l : List Int}, (∀ x ∈ l, I64 x) → sums1 l = sumsL 0 l
  | [], _ => rfl
  | p :: l, h => by
    have hp := h p (by simp)
    have ep : IntKind.i64.wrap (p + 0) = p := by rw [Int.add_zero]; exact wrap_i64 hp.1 hp.2
    simp only [sumsL, sums1, ep]

theorem column_readSteps_eq' {n : Nat} {b : List UInt8} (hn : n ≤ 1000000) (hb : b.length ≤ 100000000000000) :
    match stepsD n b with
    | some l => column_readSteps [.sl 1 (byV b), .int .i64 n] = some ([.sl 1 (intV l), .bool true], [])
    | none => ∃ l : List Int, column_readSteps [.sl 1 (byV b), .int .i64 n] = some ([.sl 1 (intV l), .bool false], []) := by
  have w := column_readPlain_eq' hn hb
  have step : ∀ (l : List Int) (ok : Bool), column_readPlain [.sl 1 (byV b), .int .i64 n] = some ([.sl 1 (intV l), .bool ok], []) → l.length ≤ 1000000 → column_readSteps [.sl 1 (byV b), .int .i64 n] = some ([.sl 1 (intV (sums1 l)), .bool ok], []) := by
    intro l ok hl hlen
    have hl : column_readSteps_G 0 [.sl 1 (byV b), .int .i64 n] = _ := hl
    unfold column_readSteps
    rw [Rcolumn_readSteps_eq]
    simp only [asSl_sl, asInt_int, Option.bind_some, hl, List.length_cons, List.length_nil, List.getElem?_cons_zero, List.getElem?_cons_succ, asBool_bool, intV_length]
    rw [if_pos (by simp)]
    cases l with
    | nil =>
      have key : ∀ k, Lcolumn_readSteps_0 N0 column_readSteps_G (k + 1) 0 0 ok 1 (intV []) = some ([.sl 1 (intV (sums1 [])), .bool ok], []) := fun k => by
        rw [Lcolumn_readSteps_0_eq]
        simp [sums1, intV]
      obtain ⟨k, hk, _⟩ := rounds (N0_pos (k := 0) (by decide))
      have := key k
      rw [← hk] at this
      simpa using this
    | cons p rest =>
      have := column_readSteps_loop (n := rest.length + 1) (by simpa using hlen) (ok := ok) rest.length 1 [] rest p N0 rfl rfl (by omega) (N0_pos (by simp at hlen; omega))
      simpa [sums1] using this
  cases hd : numsD n b with
  | none =>
    rw [hd] at w
    obtain ⟨l, hl, hll⟩ := w
    simp only [stepsD, hd, Option.map_none]
    exact ⟨_, step l false hl (by omega)⟩
  | some p =>
    obtain ⟨l, r⟩ := p
    rw [hd] at w
    obtain ⟨h1, h2⟩ := numsD_of hd
    simp only [stepsD, hd, Option.map_some]
    rw [← sums1_eq h2]
    exact step l true w (by omega)

end Go.Proofs.YtdhdhcllgkddnaaGreat.Va

namespace Go.Proofs.YtdhdhcllgkddnaaGreat.Va
open Go Go.RowKit

theorem and_mask32 {u : Nat} (h : u < 18446744073709551616) : bits .and .u64 (u : Int) 4294967295 = ((u % 4294967296 : Nat) : Int) := by
  show IntKind.u64.wrap ((BitVec.ofInt 64 (u : Int) &&& (BitVec.ofInt 64 4294967295 : BitVec 64)).toNat : Int) = _
  have e : (BitVec.ofInt 64 4294967295).toNat = 2 ^ 32 - 1 := by decide
  rw [BitVec.toNat_and, ofInt_nat h, e, Nat.and_two_pow_sub_one_eq_mod, wrap_u64]
  omega
theorem fdiv32 (u : Nat) : (u : Int).fdiv 4294967296 = ((u / 4294967296 : Nat) : Int) := by simpa using fdiv_pow u 32
theorem wrap_u64_nat {u : Nat} (h : u < 18446744073709551616) : IntKind.u64.wrap (u : Int) = u := by rw [wrap_u64]; omega

theorem bits_Mul_one {y : Nat} (h : y < 18446744073709551616) : bits_Mul [.int .u64 1, .int .u64 y] = some ([.int .u64 0, .int .u64 y], []) := by
  have g : bits_Mul_G 1 [.int .u64 1, .int .u64 y] = some ([.int .u64 0, .int .u64 y], []) := by
    show bits_Mul64 [.int .u64 1, .int .u64 y] = _
    unfold bits_Mul64
    rw [Rbits_Mul64_eq]
    have f1 : (1 : Int).fdiv 4294967296 = 0 := by decide
    have a1 : bits .and .u64 1 4294967295 = 1 := by decide
    simp only [asInt_int, Option.bind_some, f1, a1, Int.zero_mul, Int.one_mul, Int.zero_add, fdiv32, and_mask32 h]
    have w1 : IntKind.u64.wrap ((y % 4294967296 : Nat) : Int) = ((y % 4294967296 : Nat) : Int) := wrap_u64_nat (by omega)
    have w2 : IntKind.u64.wrap ((y / 4294967296 : Nat) : Int) = ((y / 4294967296 : Nat) : Int) := wrap_u64_nat (by omega)
    have d0 : (y % 4294967296) / 4294967296 = 0 := by omega
    have d1 : (y / 4294967296) / 4294967296 = 0 := by omega
    have z : IntKind.u64.wrap 0 = 0 := by decide
    have z1 : bits .and .u64 0 4294967295 = 0 := by decide
    have zf : (0 : Int).fdiv 4294967296 = 0 := by decide
    simp only [w1, w2, fdiv32, d0, d1, Int.natCast_zero, Int.zero_add, Int.add_zero, z, z1, zf, wrap_u64_nat h]
  unfold bits_Mul
  rw [Rbits_Mul_eq]
  simp [g]

theorem rep_step {x : V} {K c : Nat} {l : List V} (hl : l.length = K) (hc : c ≤ K) (ht : l.take c = List.replicate c x) :
    (l.take c ++ (l.take c).take (min c (K - c)) ++ l.drop (c + min c (K - c))).length = K ∧ (l.take c ++ (l.take c).take (min c (K - c)) ++ l.drop (c + min c (K - c))).take (c + min c (K - c)) = List.replicate (c + min c (K - c)) x := by
  have e : l.take c ++ (l.take c).take (min c (K - c)) = List.replicate (c + min c (K - c)) x := by
    rw [ht, List.take_replicate, show min (min c (K - c)) c = min c (K - c) by omega, List.replicate_append_replicate]
  rw [e]
  refine ⟨by simp; omega, ?_⟩
  rw [List.take_append_of_le_length (by simp), List.take_of_length_le (by simp)]

theorem slices_Repeat_loop {x : Int} {K : Nat} (hK : K ≤ 1000000) : ∀ (d c : Nat) (l : List V) (k : Nat), 1 ≤ c → c ≤ K → K - c ≤ d → d < k → l.length = K → l.take c = List.replicate c (.int .i64 x) →
    Lslices_Repeat_sint_int_0 N0 slices_Repeat_sint_int_G k 0 K c l = some ([.sl 1 (intV (List.replicate K x))], []) := by
  intro d
  induction d with
  | zero =>
    intro c l k h1 hc hd hk hl ht
    obtain ⟨k, rfl, _⟩ := rounds hk
    obtain rfl : c = K := by omega
    have e : l = intV (List.replicate c x) := by
      rw [List.take_of_length_le (by omega)] at ht
      rw [ht]; simp [intV]
    rw [Lslices_Repeat_sint_int_0_eq, e]
    have hn : ¬ ((c : Int) < (c : Int)) := by omega
    simp [hn, -List.all_eq_true]
  | succ d ih =>
    intro c l k h1 hc hd hk hl ht
    obtain ⟨k, rfl, hk⟩ := rounds hk
    by_cases hn : c < K
    · obtain ⟨r1, r2⟩ := rep_step hl hc ht
      have e1 : ((c : Int) - 0).toNat = c := by omega
      have e2 : ((K : Int) - (c : Int)).toNat = K - c := by omega
      have e3 : (l.take c).length = c := by simp; omega
      have e4 : IntKind.i64.wrap ((c : Int) + ((min c (K - c) : Nat) : Int)) = ((c + min c (K - c) : Nat) : Int) := by rw [wrap_i64 (by omega) (by omega)]; omega
      rw [Lslices_Repeat_sint_int_0_eq]
      simp only [decide_eq_true (show (c : Int) < (K : Int) by omega), cond_true, e1, e2, Nat.zero_add, Nat.add_zero, List.drop_zero, e3, e4, Int.toNat_natCast]
      rw [if_pos (by omega), if_pos (by omega), if_pos (by omega)]
      exact ih (c + min c (K - c)) _ k (by omega) (by omega) (by omega) (by omega) r1 r2
    · obtain rfl : c = K := by omega
      have e : l = intV (List.replicate c x) := by
        rw [List.take_of_length_le (by omega)] at ht
        rw [ht]; simp [intV]
      rw [Lslices_Repeat_sint_int_0_eq, e]
      have hn : ¬ ((c : Int) < (c : Int)) := by omega
      simp [hn, -List.all_eq_true]

theorem slices_Repeat_one {x : Int} {K : Nat} (h1 : 1 ≤ K) (hK : K ≤ 1000000) : slices_Repeat_sint_int [.sl 1 [.int .i64 x], .int .i64 K] = some ([.sl 1 (intV (List.replicate K x))], []) := by
  have g : slices_Repeat_sint_int_G 0 [.int .u64 1, .int .u64 K] = some ([.int .u64 0, .int .u64 K], []) := bits_Mul_one (by omega)
  unfold slices_Repeat_sint_int
  rw [Rslices_Repeat_sint_int_eq]
  have hn : ¬ ((K : Int) < 0) := by omega
  simp only [asSl_sl, asInt_int, Option.bind_some, decide_eq_false hn, cond_false]
  rw [Jslices_Repeat_sint_int_3_eq]
  have hw : IntKind.u64.wrap (K : Int) = K := wrap_u64_nat (by omega)
  have hw1 : IntKind.u64.wrap 1 = 1 := by decide
  have hi : IntKind.i64.wrap (K : Int) = K := by rw [wrap_i64] <;> omega
  have hg : ¬ ((K : Int) > 9223372036854775807) := by omega
  simp only [List.length_singleton, Nat.zero_add, Int.natCast_one, hw, hw1, g, Option.bind_some, List.length_cons, List.length_nil, List.getElem?_cons_zero, List.getElem?_cons_succ, asInt_int]
  rw [if_pos (by simp)]
  simp only [decide_eq_false (show ¬ (0 : Int) > 0 by omega), decide_eq_false hg, cond_false]
  rw [Jslices_Repeat_sint_int_6_eq]
  simp only [hi, Int.toNat_natCast, List.length_replicate]
  rw [if_pos (by omega), if_pos (by omega), show min [V.int IntKind.i64 x].length K = 1 by simp; omega]
  refine slices_Repeat_loop hK K 1 _ N0 (Nat.le_refl _) h1 (by omega) (N0_pos (by omega)) ?_ ?_
  · simp; omega
  · simp

theorem column_readRuns_loop {n : Nat} (hn : n ≤ 1000000) : ∀ (m d : Nat) (b : List UInt8) (l : List Int) (k : Nat), d ≤ m → l.length + d = n → d < k → b.length ≤ 100000000000000 →
    match runsD d b with
    | some l' => Lcolumn_readRuns_0 N0 column_readRuns_G k n (byV b) 0 (intV l) = some ([.sl 1 (intV (l ++ l')), .bool true], [])
    | none => ∃ l' : List Int, Lcolumn_readRuns_0 N0 column_readRuns_G k n (byV b) 0 (intV l) = some ([.sl 1 (intV l'), .bool false], []) := by
  intro m
  induction m with
  | zero =>
    intro d b l k hm hd hk hb
    obtain rfl : d = 0 := by omega
    obtain ⟨k, rfl, _⟩ := rounds hk
    have hc : ¬ ((l.length : Int) < (n : Int)) := by omega
    rw [runsD, if_pos rfl]
    simp only
    rw [Lcolumn_readRuns_0_eq]
    simp [hc, -List.all_eq_true]
  | succ m ih =>
    intro d b l k hm hd hk hb
    obtain ⟨k, rfl, hk⟩ := rounds hk
    by_cases h0 : d = 0
    · subst h0
      have hc : ¬ ((l.length : Int) < (n : Int)) := by omega
      rw [runsD, if_pos rfl]
      simp only
      rw [Lcolumn_readRuns_0_eq]
      simp [hc, -List.all_eq_true]
    · have hc : ((l.length : Int) < (n : Int)) := by omega
      have hE : ∀ (c : List UInt8) (e : Int), column_readRuns_G 2 [.agg [.sl 1 (byV c), .int .i64 e]] = some ([.int .i64 e], [.agg [.sl 1 (byV c), .int .i64 e]]) := g_err
      -- behind an error: both numbers are 0
      have bad : ∀ (x : Int) (r : List UInt8) (e2 k2 : Int) (q : List UInt8), numS b 0 = (x, r, e2) → r.length ≤ 100000000000000 → (numS r e2).2.2 ≠ 0 → ∃ l' : List Int, Lcolumn_readRuns_0 N0 column_readRuns_G (k + 1) n (byV b) 0 (intV l) = some ([.sl 1 (intV l'), .bool false], []) := by
        intro x r e2 k2 q h1 hr h2
        have a1 : column_readRuns_G 3 [.agg [.sl 1 (byV b), .int .i64 0]] = some ([.int .i64 x], [.agg [.sl 1 (byV r), .int .i64 e2]]) := by
          have := g_num hb 0
          rw [h1] at this
          exact this
        have a2 : column_readRuns_G 3 [.agg [.sl 1 (byV r), .int .i64 e2]] = _ := g_num hr e2
        have hz : ((numS r e2).2.2 != 0) = true := by simpa using h2
        refine ⟨[], ?_⟩
        rw [Lcolumn_readRuns_0_eq]
        simp [hc, a1, a2, hE, hz]
      rw [runsD, if_neg h0]
      cases hx : num1 b with
      | none =>
        obtain ⟨e, he, h1⟩ := numS_none hx
        simp only
        exact bad 0 b e 0 [] h1 hb (by rw [numS_err he]; exact he)
      | some p =>
        obtain ⟨x, r⟩ := p
        have hr := num1_len hx
        have h1 := numS_some hx
        simp only
        cases hy : num1 r with
        | none =>
          obtain ⟨e, he, h2⟩ := numS_none hy
          simp only
          exact bad x r 0 0 [] h1 (by omega) (by rw [h2]; exact he)
        | some p =>
          obtain ⟨c, q⟩ := p
          have hq := num1_len hy
          have a1 : column_readRuns_G 3 [.agg [.sl 1 (byV b), .int .i64 0]] = _ := g_num_some hb hx
          have a2 : column_readRuns_G 3 [.agg [.sl 1 (byV r), .int .i64 0]] = _ := g_num_some (by omega) hy
          have ew : IntKind.i64.wrap ((n : Int) - (l.length : Int)) = (d : Int) := by rw [wrap_i64 (by omega) (by omega)]; omega
          simp only
          by_cases hh : 1 ≤ c ∧ c ≤ (d : Int)
          · rw [dif_pos hh]
            have a3 : column_readRuns_G 0 [.sl 1 [.int .i64 x], .int .i64 c] = some ([.sl 1 (intV (List.replicate c.toNat x))], []) := by
              have := slices_Repeat_one (x := x) (K := c.toNat) (by omega) (by omega)
              rwa [show ((c.toNat : Nat) : Int) = c by omega] at this
            have hroom : room (l.length + c.toNat) 8 := room8 (by omega)
            have n1 : ¬ c < 1 := by omega
            have n2 : ¬ (d : Int) < c := by omega
            have e : Lcolumn_readRuns_0 N0 column_readRuns_G (k + 1) n (byV b) 0 (intV l) = Lcolumn_readRuns_0 N0 column_readRuns_G k n (byV q) 0 (intV (l ++ List.replicate c.toNat x)) := by
              rw [intV_append, Lcolumn_readRuns_0_eq]
              simp [hc, a1, a2, a3, hE, ew, n1, n2, hroom]
            have ih := ih (d - c.toNat) q (l ++ List.replicate c.toNat x) k (by omega) (by simp; omega) (by omega) (by omega)
            cases hd2 : runsD (d - c.toNat) q with
            | none =>
              rw [hd2] at ih
              simp only [e]
              exact ih
            | some l' =>
              rw [hd2] at ih
              simp only [e] at ih ⊢
              rw [ih, List.append_assoc]
          · rw [dif_neg hh]
            refine ⟨[], ?_⟩
            rw [Lcolumn_readRuns_0_eq]
            by_cases n1 : c < 1
            · simp [hc, a1, a2, hE, n1]
            · have n2 : (d : Int) < c := by omega
              simp [hc, a1, a2, hE, ew, n1, n2]

theorem column_readRuns_eq' {n : Nat} {b : List UInt8} (hn : n ≤ 1000000) (hb : b.length ≤ 100000000000000) :
    match runsD n b with
    | some l => column_readRuns [.sl 1 (byV b), .int .i64 n] = some ([.sl 1 (intV l), .bool true], [])
    | none => ∃ l : List Int, column_readRuns [.sl 1 (byV b), .int .i64 n] = some ([.sl 1 (intV l), .bool false], []) := by
  have h0 : column_readRuns_G 1 [.sl 1 (byV b)] = some ([.agg [.sl 1 (byV b), .int .i64 0]], []) := g_new hb
  have w := column_readRuns_loop hn n n b [] N0 (Nat.le_refl _) (by simp) (N0_pos (by omega)) hb
  have e : column_readRuns [.sl 1 (byV b), .int .i64 n] = Lcolumn_readRuns_0 N0 column_readRuns_G N0 n (byV b) 0 (intV []) := by
    unfold column_readRuns
    rw [Rcolumn_readRuns_eq]
    simp [h0]
  rw [e]
  simpa using w

end Go.Proofs.YtdhdhcllgkddnaaGreat.Va

namespace Go.Proofs.YtdhdhcllgkddnaaGreat.Va
open Go Go.RowKit

/-- A count. -/
def cnt1 (most : Int) (b : List UInt8) : Option (Int × List UInt8) :=
  match num1 b with
  | none => none
  | some (x, r) => if 0 ≤ x ∧ x ≤ most then some (x, r) else none
theorem countS_some {b r : List UInt8} {x most : Int} (h : cnt1 most b = some (x, r)) : countS b 0 most = (x, r, 0) ∧ num1 b = some (x, r) ∧ 0 ≤ x ∧ x ≤ most := by
  unfold cnt1 at h
  split at h
  · cases h
  · rename_i x' r' hx
    split at h
    · rename_i hh
      cases h
      refine ⟨?_, hx, hh⟩
      unfold countS
      rw [numS_some hx]
      simp [show ¬ x < 0 by omega, show ¬ most < x by omega]
    · cases h
theorem countS_none {b : List UInt8} {most : Int} (h : cnt1 most b = none) : ∃ e r, e ≠ 0 ∧ countS b 0 most = (0, r, e) ∧ r.length ≤ b.length := by
  unfold cnt1 at h
  split at h
  · rename_i hx
    obtain ⟨e, he, h1⟩ := numS_none hx
    refine ⟨e, b, he, ?_, Nat.le_refl _⟩
    unfold countS
    rw [h1]
    simp [he]
  · rename_i x r hx
    have hr := num1_len hx
    split at h
    · cases h
    · rename_i hh
      unfold countS
      rw [numS_some hx]
      by_cases h1 : x < 0
      · exact ⟨3, r, by decide, by simp [h1], by omega⟩
      · exact ⟨5, r, by decide, by simp [h1, show most < x by omega], by omega⟩
theorem countS_err {b : List UInt8} {e most : Int} (h : e ≠ 0) : countS b e most = (0, b, e) := by
  unfold countS
  rw [numS_err h]
  simp [h]
theorem g_count {b : List UInt8} (hb : b.length ≤ 100000000000000) (e most : Int) : wire_Reader_Count [.agg [.sl 1 (byV b), .int .i64 e], .int .i64 most] = some ([.int .i64 (countS b e most).1], [.agg [.sl 1 (byV (countS b e most).2.1), .int .i64 (countS b e most).2.2]]) := wire_Reader_Count_eq' hb e most
theorem g_count_some {b r : List UInt8} {x most : Int} (hb : b.length ≤ 100000000000000) (h : cnt1 most b = some (x, r)) : wire_Reader_Count [.agg [.sl 1 (byV b), .int .i64 0], .int .i64 most] = some ([.int .i64 x], [.agg [.sl 1 (byV r), .int .i64 0]]) := by
  rw [g_count hb, (countS_some h).1]

/-- The second loop, behind an error. -/
theorem column_readIndex_bad {n : Nat} (h0 : 0 < n) {b : List UInt8} (hb : b.length ≤ 100000000000000) {e : Int} (he : e ≠ 0) (s : List Int) {k : Nat} (hk : 0 < k) :
    ∃ l' : List Int, Lcolumn_readIndex_2 N0 column_readIndex_G k n (byV b) e (intV s) [] = some ([.sl 1 (intV l'), .bool false], []) := by
  obtain ⟨k, rfl, _⟩ := rounds hk
  have a1 : column_readIndex_G 3 [.agg [.sl 1 (byV b), .int .i64 e]] = _ := g_num_err hb he
  have a2 : column_readIndex_G 2 [.agg [.sl 1 (byV b), .int .i64 e]] = _ := g_err b e
  have hz : (e != 0) = true := by simpa using he
  have hc : 0 < n := h0
  refine ⟨[], ?_⟩
  rw [Lcolumn_readIndex_2_eq]
  simp [hc, a1, a2, hz]

theorem column_readIndex_picks {n : Nat} (hn : n ≤ 1000000) {s : List Int} : ∀ (d : Nat) (b : List UInt8) (l : List Int) (k : Nat), l.length + d = n → d < k → b.length ≤ 100000000000000 →
    match pickD s d b with
    | some l' => Lcolumn_readIndex_2 N0 column_readIndex_G k n (byV b) 0 (intV s) (intV l) = some ([.sl 1 (intV (l ++ l')), .bool true], [])
    | none => ∃ l' : List Int, Lcolumn_readIndex_2 N0 column_readIndex_G k n (byV b) 0 (intV s) (intV l) = some ([.sl 1 (intV l'), .bool false], []) := by
  intro d
  induction d with
  | zero =>
    intro b l k hd hk hb
    obtain ⟨k, rfl, _⟩ := rounds hk
    have hc : ¬ ((l.length : Int) < (n : Int)) := by omega
    simp only [pickD]
    rw [Lcolumn_readIndex_2_eq]
    simp [hc, -List.all_eq_true]
  | succ d ih =>
    intro b l k hd hk hb
    obtain ⟨k, rfl, hk⟩ := rounds hk
    have hc : ((l.length : Int) < (n : Int)) := by omega
    have hE : ∀ (c : List UInt8) (e : Int), column_readIndex_G 2 [.agg [.sl 1 (byV c), .int .i64 e]] = some ([.int .i64 e], [.agg [.sl 1 (byV c), .int .i64 e]]) := g_err
    rw [pickD]
    cases hx : num1 b with
    | none =>
      obtain ⟨e, he, h1⟩ := g_num_none hb hx
      have a1 : column_readIndex_G 3 [.agg [.sl 1 (byV b), .int .i64 0]] = _ := h1
      have hz : (e != 0) = true := by simpa using he
      refine ⟨[], ?_⟩
      rw [Lcolumn_readIndex_2_eq]
      simp [hc, a1, hE, hz]
    | some p =>
      obtain ⟨x, r⟩ := p
      have hr := num1_len hx
      have a1 : column_readIndex_G 3 [.agg [.sl 1 (byV b), .int .i64 0]] = _ := g_num_some hb hx
      simp only
      by_cases hh : 0 ≤ x ∧ x < (s.length : Int)
      · rw [if_pos hh]
        have n1 : ¬ x < 0 := by omega
        have n2 : ¬ (s.length : Int) ≤ x := by omega
        have hroom : room (l.length + 1) 8 := room8 (by omega)
        have hlt : x.toNat < s.length := by omega
        have e1 : s.getD x.toNat 0 = s[x.toNat] := by simp [List.getD_eq_getElem?_getD, hlt]
        have e : Lcolumn_readIndex_2 N0 column_readIndex_G (k + 1) n (byV b) 0 (intV s) (intV l) = Lcolumn_readIndex_2 N0 column_readIndex_G k n (byV r) 0 (intV s) (intV (l ++ [s.getD x.toNat 0])) := by
          rw [e1, show intV (l ++ [s[x.toNat]]) = intV l ++ [V.int .i64 s[x.toNat]] from intV_append .., Lcolumn_readIndex_2_eq]
          simp [hc, a1, hE, n1, n2, hh, hroom]
        have ih := ih r (l ++ [s.getD x.toNat 0]) k (by simp; omega) (by omega) (by omega)
        cases hd2 : pickD s d r with
        | none =>
          rw [hd2] at ih
          simp only [e]
          exact ih
        | some l' =>
          rw [hd2] at ih
          simp only [e] at ih ⊢
          rw [ih, List.append_assoc]
          rfl
      · rw [if_neg hh]
        refine ⟨[], ?_⟩
        rw [Lcolumn_readIndex_2_eq]
        by_cases n1 : x < 0
        · simp [hc, a1, hE, n1]
        · have n2 : (s.length : Int) ≤ x := by omega
          simp [hc, a1, hE, n1, n2]

theorem readIndex_stop (N : Nat) (G : Nat → List V → Ans) {n K : Nat} {b : List UInt8} {e : Int} {s : List Int} (k : Nat) (hE : G 2 [.agg [.sl 1 (byV b), .int .i64 e]] = some ([.int .i64 e], [.agg [.sl 1 (byV b), .int .i64 e]])) (h : ¬ s.length < K ∨ e ≠ 0) :
    Lcolumn_readIndex_0 N G (k + 1) n K (byV b) e (intV s) = Lcolumn_readIndex_2 N G N n (byV b) e (intV s) [] := by
  rw [Lcolumn_readIndex_0_eq]
  by_cases hc : ((s.length : Int) < (K : Int))
  · have he : e ≠ 0 := h.resolve_left (by omega)
    simp only [intV_length, decide_eq_true hc, cond_true, hE, Option.bind_some, List.length_cons, List.length_nil, List.getElem?_cons_zero, List.getElem?_cons_succ, asInt_int, asAgg_agg, asSl_sl, bne0 he, cond_false]
    rw [if_pos (by simp), if_pos (by simp)]
  · simp only [intV_length, decide_eq_false hc, cond_false]

theorem readIndex_step (N : Nat) (G : Nat → List V → Ans) {n K : Nat} {b r : List UInt8} {x f : Int} {s : List Int} (k : Nat) (hE : G 2 [.agg [.sl 1 (byV b), .int .i64 0]] = some ([.int .i64 0], [.agg [.sl 1 (byV b), .int .i64 0]]))
    (hN : G 3 [.agg [.sl 1 (byV b), .int .i64 0]] = some ([.int .i64 x], [.agg [.sl 1 (byV r), .int .i64 f]])) (h : s.length < K) (hK : K ≤ 1000000) :
    Lcolumn_readIndex_0 N G (k + 1) n K (byV b) 0 (intV s) = Lcolumn_readIndex_0 N G k n K (byV r) f (intV (s ++ [x])) := by
  have hc : ((s.length : Int) < (K : Int)) := by omega
  have hroom : room (s.length + 1) 8 := room8 (by omega)
  rw [show intV (s ++ [x]) = intV s ++ [V.int .i64 x] from intV_append .., Lcolumn_readIndex_0_eq]
  simp [hc, hE, hN, hroom]

theorem readIndex_end {n K : Nat} (k : Nat) {b : List UInt8} {e : Int} (hb : b.length ≤ 100000000000000) (h0 : 0 < n) (he : e ≠ 0) (s : List Int) : ∃ l' : List Int, Lcolumn_readIndex_0 N0 column_readIndex_G (k + 1) n K (byV b) e (intV s) = some ([.sl 1 (intV l'), .bool false], []) := by
  obtain ⟨l', hl'⟩ := column_readIndex_bad h0 hb he s (N0_pos (k := 0) (by decide))
  exact ⟨l', (readIndex_stop N0 column_readIndex_G (n := n) (K := K) (b := b) (e := e) (s := s) k (g_err b e) (.inr he)).trans hl'⟩

theorem column_readIndex_keys {n K : Nat} (h0 : 0 < n) (hn : n ≤ 1000000) (hK : K ≤ 1000000) : ∀ (d : Nat) (b : List UInt8) (s : List Int) (k : Nat), s.length + d = K → d + 1 < k → b.length ≤ 100000000000000 →
    match (numsD d b).bind fun p => pickD (s ++ p.1) n p.2 with
    | some l' => Lcolumn_readIndex_0 N0 column_readIndex_G k n K (byV b) 0 (intV s) = some ([.sl 1 (intV l'), .bool true], [])
    | none => ∃ l' : List Int, Lcolumn_readIndex_0 N0 column_readIndex_G k n K (byV b) 0 (intV s) = some ([.sl 1 (intV l'), .bool false], []) := by
  intro d
  induction d with
  | zero =>
    intro b s k hd hk hb
    obtain ⟨k, rfl, _⟩ := rounds hk
    have hc : ¬ ((s.length : Int) < (K : Int)) := by omega
    have w := column_readIndex_picks hn (s := s) n b [] N0 (by simp) (N0_pos (by omega)) hb
    have e := readIndex_stop N0 column_readIndex_G (n := n) (K := K) (b := b) (e := 0) (s := s) k (g_err b 0) (.inl (by omega))
    simp only [numsD, Option.bind_some, List.append_nil]
    rw [e]
    simpa using w
  | succ d ih =>
    intro b s k hd hk hb
    obtain ⟨k, rfl, hk⟩ := rounds hk
    have hc : ((s.length : Int) < (K : Int)) := by omega
    have hE : ∀ (c : List UInt8) (e : Int), column_readIndex_G 2 [.agg [.sl 1 (byV c), .int .i64 e]] = some ([.int .i64 e], [.agg [.sl 1 (byV c), .int .i64 e]]) := g_err
    have hroom : room (s.length + 1) 8 := room8 (by omega)
    rw [numsD]
    cases hx : num1 b with
    | none =>
      obtain ⟨e, he, h1⟩ := g_num_none hb hx
      have a1 : column_readIndex_G 3 [.agg [.sl 1 (byV b), .int .i64 0]] = _ := h1
      obtain ⟨k, rfl, _⟩ := rounds (j := 0) (k := k) (by omega)
      obtain ⟨l', hl'⟩ := readIndex_end (K := K) k hb h0 he (s ++ [0])
      exact ⟨l', (readIndex_step N0 column_readIndex_G (n := n) (k + 1) (g_err b 0) a1 (by omega) hK).trans hl'⟩
    | some p =>
      obtain ⟨x, r⟩ := p
      have hr := num1_len hx
      have a1 : column_readIndex_G 3 [.agg [.sl 1 (byV b), .int .i64 0]] = _ := g_num_some hb hx
      have e := readIndex_step N0 column_readIndex_G (n := n) (K := K) (s := s) k (g_err b 0) a1 (by omega) hK
      have ih := ih r (s ++ [x]) k (by simp; omega) (by omega) (by omega)
      rw [e]
      simp only
      cases hd2 : numsD d r with
      | none =>
        rw [hd2] at ih
        exact ih
      | some q =>
        rw [hd2] at ih
        simpa using ih

theorem indexD_none {most n : Nat} {b : List UInt8} (h : cnt1 most b = none) : indexD most n b = none := by
  unfold cnt1 at h
  unfold indexD
  cases hx : num1 b with
  | none => rfl
  | some p =>
    obtain ⟨x, r⟩ := p
    rw [hx] at h
    by_cases hh : 0 ≤ x ∧ x ≤ (most : Int)
    · simp [hh] at h
    · exact if_neg hh
theorem indexD_some {most n : Nat} {b r : List UInt8} {x : Int} (h : cnt1 most b = some (x, r)) : indexD most n b = (numsD x.toNat r).bind fun p => pickD ([] ++ p.1) n p.2 := by
  obtain ⟨_, h2, h3, h4⟩ := countS_some h
  unfold indexD
  rw [h2]
  have : (if 0 ≤ x ∧ x ≤ (most : Int) then (match numsD x.toNat r with | none => none | some (d, q) => pickD d n q) else none) = (numsD x.toNat r).bind fun p => pickD ([] ++ p.1) n p.2 := by
    rw [if_pos ⟨h3, h4⟩]
    cases numsD x.toNat r <;> rfl
  exact this

theorem column_readIndex_eq' {n : Nat} {b : List UInt8} (h0 : 0 < n) (hn : n ≤ 1000000) (hb : b.length ≤ 100000000000000) :
    match indexD n n b with
    | some l => column_readIndex [.sl 1 (byV b), .int .i64 n] = some ([.sl 1 (intV l), .bool true], [])
    | none => ∃ l : List Int, column_readIndex [.sl 1 (byV b), .int .i64 n] = some ([.sl 1 (intV l), .bool false], []) := by
  have a0 : column_readIndex_G 0 [.sl 1 (byV b)] = some ([.agg [.sl 1 (byV b), .int .i64 0]], []) := g_new hb
  have e : ∀ x r f, countS b 0 n = (x, r, f) → column_readIndex [.sl 1 (byV b), .int .i64 n] = Lcolumn_readIndex_0 N0 column_readIndex_G N0 n x (byV r) f [] := by
    intro x r f h
    have a1 : column_readIndex_G 1 [.agg [.sl 1 (byV b), .int .i64 0], .int .i64 n] = some ([.int .i64 x], [.agg [.sl 1 (byV r), .int .i64 f]]) := by
      have := g_count hb 0 n
      rw [h] at this
      exact this
    unfold column_readIndex
    rw [Rcolumn_readIndex_eq]
    simp [a0, a1]
  cases hc : cnt1 n b with
  | none =>
    obtain ⟨f, r, hf, hc2, hr⟩ := countS_none hc
    have hi : indexD n n b = none := indexD_none hc
    rw [hi]
    simp only
    rw [e 0 r f hc2]
    obtain ⟨l', hl'⟩ := column_readIndex_bad h0 (b := r) (by omega) hf [] (N0_pos (k := 0) (by decide))
    refine ⟨l', ?_⟩
    obtain ⟨k, hk, _⟩ := rounds (N0_pos (k := 0) (by decide))
    have key : ∀ k, Lcolumn_readIndex_0 N0 column_readIndex_G (k + 1) n 0 (byV r) f [] = Lcolumn_readIndex_2 N0 column_readIndex_G N0 n (byV r) f [] [] := fun k => by
      rw [Lcolumn_readIndex_0_eq]
      simp only [List.length_nil, Int.natCast_zero, decide_eq_false (show ¬ (0 : Int) < 0 by omega), cond_false]
    have := key k
    rw [← hk] at this
    rw [this]
    exact hl'
  | some p =>
    obtain ⟨x, r⟩ := p
    obtain ⟨h1, h2, h3, h4⟩ := countS_some hc
    have hr := num1_len h2
    have w := column_readIndex_keys (n := n) (K := x.toNat) h0 hn (by omega) x.toNat r [] N0 (by simp) (N0_pos (by omega)) (by omega)
    have hi := indexD_some (n := n) hc
    rw [hi, e x r 0 h1]
    rwa [show ((x.toNat : Nat) : Int) = x by omega] at w

theorem or_bit {u c a k : Nat} (hu : u < 2 ^ k) (hc : c < 256) (hk : k < 64) :
    bits .or .u64 (u : Int) (IntKind.u64.wrap (IntKind.u64.wrap (bits .and .u8 ((c : Int).fdiv (2 ^ min (a % 8) 8)) 1) * 2 ^ min k 64)) = ((u + (c.testBit (a % 8)).toNat * 2 ^ k : Nat) : Int) := by
  have h8 : a % 8 < 8 := Nat.mod_lt _ (by decide)
  have hp : 2 ^ k ≤ 2 ^ 63 := Nat.pow_le_pow_right (by decide) (by omega)
  rw [Nat.min_eq_left (by omega : k ≤ 64), Nat.min_eq_left (by omega : a % 8 ≤ 8), fdiv_pow, and8_one (Nat.lt_of_le_of_lt (Nat.div_le_self ..) hc), testBit_bit]
  have hb : (c.testBit (a % 8)).toNat ≤ 1 := Bool.toNat_le _
  generalize (c.testBit (a % 8)).toNat = bb at hb ⊢
  have hm := Nat.mul_le_mul_right (2 ^ k) hb
  have p : (2 : Int) ^ k = ((2 ^ k : Nat) : Int) := by simp
  rw [wrap_u64_nat (by omega), p, ← Int.natCast_mul, wrap_u64_nat (by omega), or_nat (by omega) (by omega)]
  have h := Nat.shiftLeft_add_eq_or_of_lt hu bb
  rw [Nat.shiftLeft_eq] at h
  rw [Nat.or_comm, ← h, Nat.add_comm]

def bitVal (least : Int) (w : Nat) (p : List UInt8) (i : Nat) : Int := IntKind.i64.wrap (IntKind.u64.wrap (IntKind.u64.wrap least + (valK p i w w : Int)))

theorem column_readBits_inner {least : Int} {w n : Nat} (hn : n ≤ 1000000) (hw : w ≤ 64) {p : List UInt8} (hp : (n * w + 7) / 8 ≤ p.length) {i : Nat} (hi : i < n) {l : List Int} (hl : l.length ≤ 1000000) (m : Nat) : ∀ (d k q : Nat), k + d = w → d < q →
    Lcolumn_readBits_2 N0 column_readBits_G q m (byV p) least w i (valK p i w k) n i w k (intV l) = Lcolumn_readBits_0 N0 column_readBits_G m (byV p) least w n ((i : Int) + 1) (intV (l ++ [bitVal least w p i])) := by
  intro d
  induction d with
  | zero =>
    intro k q hd hq
    obtain ⟨q, rfl, _⟩ := rounds hq
    obtain rfl : k = w := by omega
    have h1 : ¬ ((k : Int) < (k : Int)) := by omega
    have hroom : room (l.length + 1) 8 := room8 (by omega)
    rw [show intV (l ++ [bitVal least k p i]) = intV l ++ [V.int .i64 (bitVal least k p i)] from intV_append .., Lcolumn_readBits_2_eq]
    simp only [decide_eq_false h1, cond_false, intV_length]
    rw [if_pos (by simp), if_pos hroom, wrap_succ (by omega)]
    rfl
  | succ d ih =>
    intro k q hd hq
    obtain ⟨q, rfl, hq⟩ := rounds hq
    have h1 : ((k : Int) < (w : Int)) := by omega
    have ha := at_wrap (i := i) (w := w) (k := k) (by omega) hw (by omega)
    have hb := at_div (i := i) (w := w) (k := k) (by omega) hw (by omega)
    have hc := at_mod (i := i) (w := w) (k := k)
    have hlt : (i * w + k) / 8 < p.length := Nat.lt_of_lt_of_le (bit_lt hi (by omega)) hp
    have hg := byV_get hlt
    have hk0 : ¬ ((k : Int) < 0) := by omega
    have hv := valK_lt p i w k
    have hcc := (p[(i * w + k) / 8]).toNat_lt
    have ho := or_bit (a := i * w + k) hv hcc (by omega : k < 64)
    have hm0 : ¬ ((((i * w + k) % 8 : Nat) : Int) < 0) := by omega
    have h2 : (0 : Int) ≤ (((i * w + k) / 8 : Nat) : Int) ∧ (((i * w + k) / 8 : Nat) : Int) < (p.length : Int) := by omega
    have := ih (k + 1) q (by omega) (by omega)
    rw [Lcolumn_readBits_2_eq, ha, hb, hc]
    simp only [decide_eq_true h1, cond_true, byV_length, Int.toNat_natCast, hg, Option.bind_some, cells_int, List.getElem?_cons_zero, asInt_int, ho, wrap_succ (i := k) (by omega)]
    rw [if_pos h2, if_pos hm0, if_pos hk0]
    have e : valK p i w (k + 1) = valK p i w k + (Nat.testBit (p[(i * w + k) / 8]).toNat ((i * w + k) % 8)).toNat * 2 ^ k := by
      rw [valK]
      unfold bitU
      rw [List.getD_eq_getElem?_getD, List.getElem?_eq_getElem hlt, Option.getD_some]
    rw [e] at this
    simpa using this

theorem column_readBits_outer {least : Int} {w n : Nat} (hn : n ≤ 1000000) (hw : w ≤ 64) {p : List UInt8} (hp : (n * w + 7) / 8 ≤ p.length) : ∀ (d i : Nat) (q : Nat), i + d = n → d < q →
    Lcolumn_readBits_0 N0 column_readBits_G q (byV p) least w n i (intV ((List.range i).map (bitVal least w p))) = some ([.sl 1 (intV ((List.range n).map (bitVal least w p))), .bool true], []) := by
  intro d
  induction d with
  | zero =>
    intro i q hd hq
    obtain ⟨q, rfl, _⟩ := rounds hq
    obtain rfl : i = n := by omega
    have h1 : ¬ ((i : Int) < (i : Int)) := by omega
    rw [Lcolumn_readBits_0_eq]
    simp [h1, -List.all_eq_true]
  | succ d ih =>
    intro i q hd hq
    obtain ⟨q, rfl, hq⟩ := rounds hq
    have h1 : ((i : Int) < (n : Int)) := by omega
    have w1 := column_readBits_inner (least := least) hn hw hp (i := i) (by omega) (l := (List.range i).map (bitVal least w p)) (by simp; omega) q w 0 N0 (by omega) (N0_pos (by omega))
    have := ih (i + 1) q (by omega) (by omega)
    rw [Lcolumn_readBits_0_eq]
    simp only [decide_eq_true h1, cond_true]
    simp only [valK, Int.natCast_zero] at w1
    rw [w1]
    rw [List.range_succ, List.map_append] at this
    simpa using this

theorem column_readBits_eq' {n : Nat} {b : List UInt8} (hn : n ≤ 1000000) (hb : b.length ≤ 90000000000000) :
    match bitsD n b with
    | some l => column_readBits [.sl 1 (byV b), .int .i64 n] = some ([.sl 1 (intV l), .bool true], [])
    | none => ∃ l : List Int, column_readBits [.sl 1 (byV b), .int .i64 n] = some ([.sl 1 (intV l), .bool false], []) := by
  have a0 : column_readBits_G 0 [.sl 1 (byV b)] = some ([.agg [.sl 1 (byV b), .int .i64 0]], []) := g_new (by omega)
  have hE : ∀ (c : List UInt8) (e : Int), column_readBits_G 3 [.agg [.sl 1 (byV c), .int .i64 e]] = some ([.int .i64 e], [.agg [.sl 1 (byV c), .int .i64 e]]) := g_err
  have bad : ∀ x r e y q f, numS b 0 = (x, r, e) → r.length ≤ b.length → countS r e 64 = (y, q, f) → f ≠ 0 → ∃ l : List Int, column_readBits [.sl 1 (byV b), .int .i64 n] = some ([.sl 1 (intV l), .bool false], []) := by
    intro x r e y q f h1 hr h2 hf
    have a1 : column_readBits_G 4 [.agg [.sl 1 (byV b), .int .i64 0]] = some ([.int .i64 x], [.agg [.sl 1 (byV r), .int .i64 e]]) := by
      have := g_num (b := b) (by omega) 0
      rw [h1] at this
      exact this
    have a2 : column_readBits_G 2 [.agg [.sl 1 (byV r), .int .i64 e], .int .i64 64] = some ([.int .i64 y], [.agg [.sl 1 (byV q), .int .i64 f]]) := by
      have := g_count (b := r) (by omega) e 64
      rw [h2] at this
      exact this
    have hz : (f != 0) = true := by simpa using hf
    refine ⟨[], ?_⟩
    unfold column_readBits
    rw [Rcolumn_readBits_eq]
    simp [a0, a1, a2, hE, hz]
  unfold bitsD
  cases hx : num1 b with
  | none =>
    obtain ⟨e, he, h1⟩ := numS_none hx
    exact bad 0 b e 0 b e h1 (Nat.le_refl _) (countS_err he) he
  | some p =>
    obtain ⟨least, r⟩ := p
    obtain ⟨hI, hbr⟩ := num1_of hx
    have hr := num1_len hx
    have h1 := numS_some hx
    simp only
    cases h3 : num1 r with
    | none =>
      have hc : cnt1 64 r = none := by unfold cnt1; rw [h3]
      obtain ⟨f, q, hf, h2, _⟩ := countS_none hc
      exact bad least r 0 0 q f h1 (by omega) h2 hf
    | some p =>
      obtain ⟨w, q⟩ := p
      simp only
      by_cases hh : 0 ≤ w ∧ w ≤ 64
      rotate_left
      · have hc : cnt1 64 r = none := by unfold cnt1; rw [h3]; exact if_neg hh
        obtain ⟨f, q', hf, h2, _⟩ := countS_none hc
        rw [if_neg hh]
        exact bad least r 0 0 q' f h1 (by omega) h2 hf
      rw [if_pos hh]
      obtain ⟨h4, h5⟩ := hh
      have hc : cnt1 64 r = some (w, q) := by unfold cnt1; rw [h3]; exact if_pos ⟨h4, h5⟩
      obtain ⟨h2, _, _, _⟩ := countS_some hc
      obtain ⟨hI2, hrq⟩ := num1_of h3
      have a1 : column_readBits_G 4 [.agg [.sl 1 (byV b), .int .i64 0]] = _ := g_num_some (by omega) hx
      have a2 : column_readBits_G 2 [.agg [.sl 1 (byV r), .int .i64 0], .int .i64 64] = _ := g_count_some (by omega) hc
      have a3 : column_readBits_G 1 [.sl 1 [], .int .i64 least] = some ([.sl 1 (byV (grp (zig least)))], []) := by
        have := wire_PutNumber_eq (a := []) hI (by simp)
        rw [List.nil_append] at this
        exact this
      have a4 : column_readBits_G 1 [.sl 1 (byV (grp (zig least))), .int .i64 w] = some ([.sl 1 (byV (grp (zig least) ++ grp (zig w)))], []) := wire_PutNumber_eq hI2 (by have := grp_zig_len hI; exact Nat.le_trans this (by decide))
      obtain ⟨w, rfl⟩ : ∃ w' : Nat, w = (w' : Int) := ⟨w.toNat, by omega⟩
      rw [Int.toNat_natCast]
      have hsz := size_wrap (n := n) (w := w) hn (by omega)
      have hlen : (grp (zig least) ++ grp (zig (w : Int))).length ≤ b.length := by rw [hbr, hrq]; simp
      have hdrop : List.drop (grp (zig least) ++ grp (zig (w : Int))).length b = q := by
        rw [hbr, hrq, ← List.append_assoc, List.drop_left]
      have e1 : ((grp (zig least) ++ grp (zig (w : Int))).length : Int).toNat = (grp (zig least) ++ grp (zig (w : Int))).length := Int.toNat_natCast _
      have hT : (byV (grp (zig least) ++ grp (zig (w : Int)))).length = (grp (zig least) ++ grp (zig (w : Int))).length := byV_length _
      have hz0 : ((0 : Int) != 0) = false := rfl
      have hmain : column_readBits [.sl 1 (byV b), .int .i64 n] = (bif decide ((q.length : Int) < (((n * w + 7) / 8 : Nat) : Int)) then some ([.sl 1 [], .bool false], []) else Lcolumn_readBits_0 N0 column_readBits_G N0 (byV q) least w n 0 []) := by
        unfold column_readBits
        rw [Rcolumn_readBits_eq]
        simp only [a0, a1, a2, hE, asSl_sl, asInt_int, asAgg_agg, Option.bind_some, List.length_cons, List.length_nil, List.getElem?_cons_zero, List.getElem?_cons_succ, hz0, cond_false, a3]
        simp only [Nat.zero_add, and_self, if_true, List.drop_zero, List.take_length, a4, Option.bind_some, List.length_cons, List.length_nil, List.getElem?_cons_zero, asSl_sl, byV_length, Int.toNat_natCast, hsz, byV_take, byV_drop]
        rw [hdrop, if_pos (by omega)]
      rw [hmain]
      by_cases hlt : q.length < (n * w + 7) / 8
      · rw [if_pos hlt]
        exact ⟨[], by rw [decide_eq_true (by omega)]; rfl⟩
      · rw [if_neg hlt]
        have := column_readBits_outer (least := least) hn (by omega : w ≤ 64) (p := q) (by omega) n 0 N0 (by omega) (N0_pos (by omega))
        simp only [List.range_zero, List.map_nil] at this
        rw [decide_eq_false (by omega)]
        exact this

end Go.Proofs.YtdhdhcllgkddnaaGreat.Va
