/-
  Laws of functions: ReadInts of both sides, Spoil.
-/
import Derived.Test.YtdhdhcllgkddnaaGreatWr
import Derived.Test.YtdhdhcllgkddnaaGreatWm
import Derived.Test.YtdhdhcllgkddnaaGreatWq
namespace Go.Proofs.YtdhdhcllgkddnaaGreat.Va
open Go Go.RowKit

theorem mk_toList (l : List UInt8) : (ByteArray.mk l.toArray).toList = l := by simp [ByteArray.toList_eq]

theorem bytes_Equal_eq' (a b : List UInt8) : bytes_Equal [.sl 1 (byV a), .sl 1 (byV b)] = some ([.bool (a == b)], []) := by
  unfold bytes_Equal
  rw [Rbytes_Equal_eq]
  simp [mk_toList, -List.all_eq_true]
theorem pre_take {p b : List UInt8} : p <+: b ↔ p.length ≤ b.length ∧ b.take p.length = p := by
  rw [List.prefix_iff_eq_take]
  constructor
  · intro h
    refine ⟨?_, h.symm⟩
    have := congrArg List.length h
    simp at this
    omega
  · exact fun h => h.2.symm
theorem bytes_HasPrefix_eq' (b p : List UInt8) : bytes_HasPrefix [.sl 1 (byV b), .sl 1 (byV p)] = some ([.bool (decide (p <+: b))], []) := by
  unfold bytes_HasPrefix
  rw [Rbytes_HasPrefix_eq]
  by_cases h : p.length ≤ b.length
  · have g : bytes_HasPrefix_G 0 [.sl 1 (byV (b.take p.length)), .sl 1 (byV p)] = some ([.bool (b.take p.length == p)], []) := bytes_Equal_eq' _ _
    have e : decide (p <+: b) = (b.take p.length == p) := by
      by_cases h2 : b.take p.length = p
      · rw [decide_eq_true (pre_take.2 ⟨h, h2⟩)]; simp [h2]
      · rw [decide_eq_false fun h3 => h2 (pre_take.1 h3).2]
        simpa using h2
    rw [e]
    simp only [asSl_sl, Option.bind_some, byV_length, decide_eq_true (show (b.length : Int) ≥ (p.length : Int) by omega), cond_true, Int.toNat_natCast, byV_take, List.drop_zero, g, List.length_cons, List.length_nil, List.getElem?_cons_zero, asBool_bool]
    rw [if_pos (by omega), if_pos (by simp)]
  · have e : decide (p <+: b) = false := decide_eq_false fun h3 => h (pre_take.1 h3).1
    rw [e]
    simp only [asSl_sl, Option.bind_some, byV_length, decide_eq_false (show ¬ (b.length : Int) ≥ (p.length : Int) by omega), cond_false]

/-- The head of an encoding: the kind, the number of numbers, the rest. -/
def headD (b : List UInt8) : Option (Nat × Nat × List UInt8) :=
  match num1 b with
  | none => none
  | some (k, r) =>
    match cnt1 512 r with
    | none => none
    | some (n, q) => if 1 ≤ k ∧ k ≤ 5 then some (k.toNat, n.toNat, q) else none
theorem headD_head {k : Nat} (h1 : 1 ≤ k) (h5 : k ≤ 5) {l : List Int} (hl : l.length ≤ 512) (r : List UInt8) : headD (headB k l ++ r) = some (k, l.length, r) := by
  unfold headD headB
  rw [List.append_assoc, num1_zig (I64_nat (by omega))]
  simp only
  have : cnt1 512 (grp (zig (l.length : Int)) ++ r) = some ((l.length : Int), r) := by
    unfold cnt1
    rw [num1_zig (I64_nat (by omega))]
    exact if_pos (by omega)
  rw [this]
  simp only
  rw [if_pos (by omega), Int.toNat_natCast, Int.toNat_natCast]
theorem headD_of {b q : List UInt8} {k n : Nat} (h : headD b = some (k, n, q)) : 1 ≤ k ∧ k ≤ 5 ∧ n ≤ 512 ∧ b = grp (zig (k : Int)) ++ grp (zig (n : Int)) ++ q := by
  unfold headD at h
  split at h
  · cases h
  · rename_i k' r hk
    split at h
    · cases h
    · rename_i n' q' hn
      split at h
      · rename_i hh
        cases h
        obtain ⟨_, h2, h3, h4⟩ := countS_some hn
        obtain ⟨_, e1⟩ := num1_of hk
        obtain ⟨_, e2⟩ := num1_of h2
        refine ⟨by omega, by omega, by omega, ?_⟩
        rw [show ((k'.toNat : Nat) : Int) = k' by omega, show ((n'.toNat : Nat) : Int) = n' by omega, List.append_assoc, ← e2]
        exact e1
      · cases h

/-- A decoder of bodies. -/
structure Dec (dec : Nat → Nat → List UInt8 → Option (List Int)) : Prop where
  of : ∀ {k n q l}, dec k n q = some l → l.length = n ∧ ∀ x ∈ l, I64 x
  body : ∀ {k : Nat} {l : List Int} (r : List UInt8), (∀ x ∈ l, I64 x) → l ≠ [] → l.length ≤ 512 → dec k l.length (bodyB k l ++ r) = some l
  nil : ∀ r, dec 1 0 r = some []
def valD (dec : Nat → Nat → List UInt8 → Option (List Int)) (b : List UInt8) : Option (List Int) :=
  match headD b with
  | none => none
  | some (k, n, q) => dec k n q
/-- What ReadInts reads. -/
def rdI (dec : Nat → Nat → List UInt8 → Option (List Int)) (b : List UInt8) : Option (List Int) :=
  match valD dec b with
  | none => none
  | some l => if intsB l <+: b then some l else none
theorem intsB_some {l : List Int} (h0 : l ≠ []) : ∃ k, 1 ≤ k ∧ k ≤ 5 ∧ intsB l = encB k l := by
  unfold intsB
  rw [if_neg h0]
  have p : ∀ a b : List UInt8, pick a b = a ∨ pick a b = b := fun a b => by unfold pick; split <;> simp
  rcases p (pick (pick (pick (encB 1 l) (encB 2 l)) (encB 3 l)) (encB 4 l)) (encB 5 l) with e | e
  · rw [e]
    rcases p (pick (pick (encB 1 l) (encB 2 l)) (encB 3 l)) (encB 4 l) with e | e
    · rw [e]
      rcases p (pick (encB 1 l) (encB 2 l)) (encB 3 l) with e | e
      · rw [e]
        rcases p (encB 1 l) (encB 2 l) with e | e
        · exact ⟨1, by omega, by omega, e⟩
        · exact ⟨2, by omega, by omega, e⟩
      · exact ⟨3, by omega, by omega, e⟩
    · exact ⟨4, by omega, by omega, e⟩
  · exact ⟨5, by omega, by omega, e⟩
theorem valD_ints {dec : Nat → Nat → List UInt8 → Option (List Int)} (D : Dec dec) {l : List Int} (hI : ∀ x ∈ l, I64 x) (hl : l.length ≤ 512) (r : List UInt8) : valD dec (intsB l ++ r) = some l := by
  unfold valD
  by_cases h0 : l = []
  · subst h0
    have e : intsB [] ++ r = headB 1 [] ++ r := by
      unfold intsB headB
      rw [if_pos rfl]
      congr 1
      exact zig_two.symm
    rw [e, headD_head (by omega) (by omega) (by simp) r]
    exact D.nil r
  · obtain ⟨k, h1, h5, e⟩ := intsB_some h0
    rw [e, encB, List.append_assoc, headD_head h1 h5 hl]
    exact D.body r hI h0 hl
theorem rdI_iff {dec : Nat → Nat → List UInt8 → Option (List Int)} (D : Dec dec) {b : List UInt8} {l : List Int} : rdI dec b = some l ↔ (∀ x ∈ l, I64 x) ∧ l.length ≤ 512 ∧ intsB l <+: b := by
  constructor
  · intro h
    unfold rdI at h
    split at h
    · cases h
    · rename_i l' hl
      split at h
      · rename_i hp
        cases h
        unfold valD at hl
        split at hl
        · cases hl
        · rename_i k n q hh
          obtain ⟨h1, h2⟩ := D.of hl
          exact ⟨h2, by rw [h1]; exact (headD_of hh).2.2.1, hp⟩
      · cases h
  · rintro ⟨hI, hl, r, rfl⟩
    unfold rdI
    rw [valD_ints D hI hl r]
    simp only
    rw [if_pos (List.prefix_append _ _)]
theorem rdI_eq {d1 d2 : Nat → Nat → List UInt8 → Option (List Int)} (D1 : Dec d1) (D2 : Dec d2) (b : List UInt8) : rdI d1 b = rdI d2 b := by
  refine Option.ext fun l => ?_
  rw [rdI_iff D1, rdI_iff D2]

def decP (k n : Nat) (q : List UInt8) : Option (List Int) := if n = 0 then some [] else bodyD n k n q
theorem decP_ok : Dec decP := by
  refine ⟨fun {k n q l} h => ?_, fun {k l} r hI h0 hl => ?_, fun r => rfl⟩
  · unfold decP at h
    split at h
    · rename_i e; cases h; simp [e]
    · exact bodyD_of h
  · unfold decP
    rw [if_neg (by simpa using h0)]
    exact bodyD_body hI h0 (Nat.le_refl _) (by omega) r

/-- ReadInts's answers. -/
def ansI (o : Option (List Int)) : Ans :=
  match o with
  | some l => some ([.sl 1 (intV l), .int .i64 (intsB l).length, .int .i64 0], [])
  | none => some ([.sl 1 (intV []), .int .i64 0, .int .i64 1], [])

theorem readInts_join {b : List UInt8} {l : List Int} (hI : ∀ x ∈ l, I64 x) (hl : l.length ≤ 1000000) : Jcolumn_ReadInts_11 N0 column_ReadInts_G (byV b) (intV l) = ansI (if intsB l <+: b then some l else none) := by
  have a1 : column_ReadInts_G 1 [.sl 1 (intV l)] = some ([.sl 1 (byV (intsB l))], []) := column_Ints_eq' hI hl
  have a0 : column_ReadInts_G 0 [.sl 1 (byV b), .sl 1 (byV (intsB l))] = _ := bytes_HasPrefix_eq' b (intsB l)
  rw [Jcolumn_ReadInts_11_eq]
  simp only [List.drop_zero, List.take_length, a1, a0, Option.bind_some, List.length_cons, List.length_nil, List.getElem?_cons_zero, asSl_sl, asBool_bool]
  rw [if_pos (by simp), if_pos (by simp)]
  by_cases h : intsB l <+: b
  · rw [decide_eq_true h, if_pos h]
    simp [ansI]
  · rw [decide_eq_false h, if_neg h]
    simp [ansI]

theorem column_ReadInts_eq' {b : List UInt8} (hb : b.length ≤ 1000000) : column_ReadInts [.sl 1 (byV b)] = ansI (rdI decP b) := by
  have a8 : column_ReadInts_G 8 [.sl 1 (byV b)] = _ := g_new (b := b) (by omega)
  have hE : ∀ (c : List UInt8) (e : Int), column_ReadInts_G 11 [.agg [.sl 1 (byV c), .int .i64 e]] = some ([.int .i64 e], [.agg [.sl 1 (byV c), .int .i64 e]]) := g_err
  -- behind an error of the head
  have bad : ∀ x r e y q f, numS b 0 = (x, r, e) → r.length ≤ b.length → countS r e 512 = (y, q, f) → f ≠ 0 → column_ReadInts [.sl 1 (byV b)] = ansI none := by
    intro x r e y q f h1 hr h2 hf
    have a1 : column_ReadInts_G 12 [.agg [.sl 1 (byV b), .int .i64 0]] = some ([.int .i64 x], [.agg [.sl 1 (byV r), .int .i64 e]]) := by
      have := g_num (b := b) (by omega) 0
      rw [h1] at this
      exact this
    have a2 : column_ReadInts_G 10 [.agg [.sl 1 (byV r), .int .i64 e], .int .i64 512] = some ([.int .i64 y], [.agg [.sl 1 (byV q), .int .i64 f]]) := by
      have := g_count (b := r) (by omega) e 512
      rw [h2] at this
      exact this
    have hz : (f != 0) = true := by simpa using hf
    unfold column_ReadInts
    rw [Rcolumn_ReadInts_eq]
    simp [a8, a1, a2, hE, hz, ansI]
  unfold rdI valD headD
  cases hx : num1 b with
  | none =>
    obtain ⟨e, he, h1⟩ := numS_none hx
    exact bad 0 b e 0 b e h1 (Nat.le_refl _) (countS_err he) he
  | some p =>
    obtain ⟨x, r⟩ := p
    obtain ⟨hI, hbr⟩ := num1_of hx
    have hr := num1_len hx
    have h1 := numS_some hx
    simp only
    cases hc : cnt1 512 r with
    | none =>
      obtain ⟨f, q, hf, h2, _⟩ := countS_none hc
      exact bad x r 0 0 q f h1 (by omega) h2 hf
    | some p =>
      obtain ⟨n, q⟩ := p
      obtain ⟨h2, h3, h4, h5⟩ := countS_some hc
      obtain ⟨hI2, hrq⟩ := num1_of h3
      obtain ⟨n, rfl⟩ : ∃ n' : Nat, n = (n' : Int) := ⟨n.toNat, by omega⟩
      have a1 : column_ReadInts_G 12 [.agg [.sl 1 (byV b), .int .i64 0]] = _ := g_num_some (by omega) hx
      have a2 : column_ReadInts_G 10 [.agg [.sl 1 (byV r), .int .i64 0], .int .i64 512] = _ := g_count_some (by omega) hc
      have hz0 : ((0 : Int) != 0) = false := rfl
      simp only
      by_cases hk : 1 ≤ x ∧ x ≤ 5
      · rw [if_pos hk]
        simp only [Int.toNat_natCast]
        obtain ⟨k, rfl⟩ : ∃ k' : Nat, x = (k' : Int) := ⟨x.toNat, by omega⟩
        rw [Int.toNat_natCast]
        have k1 : ¬ ((k : Int) < 1) := by omega
        have k2 : ¬ ((k : Int) > 5) := by omega
        have a9 : column_ReadInts_G 9 [.sl 1 [], .int .i64 k] = some ([.sl 1 (byV (grp (zig (k : Int))))], []) := by
          have := wire_PutNumber_eq (a := []) hI (by simp)
          rw [List.nil_append] at this
          exact this
        have hgl := grp_zig_len hI
        have a9' : column_ReadInts_G 9 [.sl 1 (byV (grp (zig (k : Int)))), .int .i64 n] = some ([.sl 1 (byV (grp (zig (k : Int)) ++ grp (zig (n : Int))))], []) := wire_PutNumber_eq hI2 (by omega)
        have hlen : (grp (zig (k : Int)) ++ grp (zig (n : Int))).length ≤ b.length := by rw [hbr, hrq]; simp
        have hdrop : List.drop (grp (zig (k : Int)) ++ grp (zig (n : Int))).length b = q := by
          rw [hbr, hrq, ← List.append_assoc, List.drop_left]
        have hq : q.length ≤ b.length := by rw [← hdrop]; simp
        have hcod : ∃ c, column_ReadInts_G 2 [] = some ([c], []) := ⟨_, Rcolumn_codecs_eq N0 column_codecs_G⟩
        obtain ⟨cd, hcd⟩ := hcod
        have hw : IntKind.i64.wrap ((k : Int) - 1) = (k : Int) - 1 := by rw [wrap_i64] <;> omega
        by_cases hn : n = 0
        · subst hn
          have hn0 : ¬ (((0 : Nat) : Int) > 0) := by omega
          have : column_ReadInts [.sl 1 (byV b)] = Jcolumn_ReadInts_11 N0 column_ReadInts_G (byV b) (intV []) := by
            unfold column_ReadInts
            rw [Rcolumn_ReadInts_eq]
            simp only [a8, a1, a2, hE, asSl_sl, asInt_int, asAgg_agg, Option.bind_some, List.length_cons, List.length_nil, List.getElem?_cons_zero, List.getElem?_cons_succ, hz0, cond_false, decide_eq_false k1, decide_eq_false k2, decide_eq_false hn0]
            simp only [Nat.zero_add, and_self, if_true]
            rfl
          rw [this, readInts_join (by simp) (by simp)]
          rfl
        · have hn0 : (n : Int) > 0 := by omega
          -- what the read function answers goes on
          have fin : ∀ (o : Option (List Int)) (R : Ans), bodyD n k n q = o → (match o with | some l => R = some ([.sl 1 (intV l), .bool true], []) | none => ∃ l : List Int, R = some ([.sl 1 (intV l), .bool false], [])) →
              ∃ l' ok, R = some ([.sl 1 (intV l'), .bool ok], []) ∧ (bif !ok then some ([.sl 1 [], .int .i64 0, .int .i64 1], []) else Jcolumn_ReadInts_11 N0 column_ReadInts_G (byV b) (intV l')) = ansI (match decP k n q with | none => none | some l => if intsB l <+: b then some l else none) := by
            intro o R ho hR
            have hP : decP k n q = o := by unfold decP; rw [if_neg hn]; exact ho
            rw [hP]
            cases o with
            | none => obtain ⟨l, hl⟩ := hR; exact ⟨l, false, hl, rfl⟩
            | some l =>
              obtain ⟨g1, g2⟩ := bodyD_of ho
              exact ⟨l, true, hR, by simp only [Bool.not_true, cond_false]; exact readInts_join g2 (by omega)⟩
          have pre : ∀ R : Ans, column_ReadInts_G (if k = 1 then 5 else if k = 2 then 6 else if k = 3 then 7 else if k = 4 then 4 else 3) [.sl 1 (byV q), .int .i64 n] = R →
              (match bodyD n k n q with | some l => R = some ([.sl 1 (intV l), .bool true], []) | none => ∃ l : List Int, R = some ([.sl 1 (intV l), .bool false], [])) →
              column_ReadInts [.sl 1 (byV b)] = ansI (match decP k n q with | none => none | some l => if intsB l <+: b then some l else none) := by
            intro R hR hm
            obtain ⟨l', ok, e1, e2⟩ := fin _ R rfl hm
            rw [← e2]
            subst hR
            unfold column_ReadInts
            rw [Rcolumn_ReadInts_eq]
            simp only [a8, a1, a2, hE, asSl_sl, asInt_int, asAgg_agg, Option.bind_some, List.length_cons, List.length_nil, List.getElem?_cons_zero, List.getElem?_cons_succ, hz0, cond_false, decide_eq_false k1, decide_eq_false k2, decide_eq_true hn0, hcd, cond_true, hw, a9]
            simp only [Nat.zero_add, and_self, if_true, List.drop_zero, List.take_length, a9', Option.bind_some, List.length_cons, List.length_nil, List.getElem?_cons_zero, asSl_sl, byV_length, Int.toNat_natCast, byV_take, byV_drop, hdrop]
            have hcond : (0 : Int) ≤ ((grp (zig (k : Int)) ++ grp (zig (n : Int))).length : Int) ∧ ((grp (zig (k : Int)) ++ grp (zig (n : Int))).length : Int) ≤ (b.length : Int) ∧ (b.length : Int) ≤ (b.length : Int) := by omega
            simp only [if_pos hcond]
            rcases (by omega : k = 1 ∨ k = 2 ∨ k = 3 ∨ k = 4 ∨ k = 5) with rfl | rfl | rfl | rfl | rfl
            all_goals
              simp at e1
              simp [e1]
          rcases (by omega : k = 1 ∨ k = 2 ∨ k = 3 ∨ k = 4 ∨ k = 5) with rfl | rfl | rfl | rfl | rfl
          · refine pre (column_readPlain [.sl 1 (byV q), .int .i64 n]) rfl ?_
            have w := column_readPlain_eq' (n := n) (b := q) (by omega) (by omega)
            simp only [bodyD, if_true]
            cases hd : numsD n q with
            | none => rw [hd] at w; obtain ⟨l, hl, _⟩ := w; exact ⟨l, hl⟩
            | some p => rw [hd] at w; exact w
          · exact pre (column_readRuns [.sl 1 (byV q), .int .i64 n]) rfl (column_readRuns_eq' (n := n) (b := q) (by omega) (by omega))
          · exact pre (column_readSteps [.sl 1 (byV q), .int .i64 n]) rfl (column_readSteps_eq' (n := n) (b := q) (by omega) (by omega))
          · exact pre (column_readIndex [.sl 1 (byV q), .int .i64 n]) rfl (column_readIndex_eq' (n := n) (b := q) (by omega) (by omega) (by omega))
          · exact pre (column_readBits [.sl 1 (byV q), .int .i64 n]) rfl (column_readBits_eq' (n := n) (b := q) (by omega) (by omega))
      · rw [if_neg hk]
        unfold column_ReadInts
        rw [Rcolumn_ReadInts_eq]
        by_cases k1 : x < 1
        · simp [a8, a1, a2, hE, k1, ansI]
        · have k2 : 5 < x := by omega
          simp [a8, a1, a2, hE, k1, k2, ansI]

end Go.Proofs.YtdhdhcllgkddnaaGreat.Va

namespace Go.Proofs.YtdhdhcllgkddnaaGreat.Va
open Go Go.RowKit

abbrev RF (b : List UInt8) (a : Nat) (e : Int) : V := .agg [.sl 1 (byV b), .int .i64 (a : Int), .int .i64 e]

theorem numR_some {b r : List UInt8} {a : Nat} {x : Int} (ha : a ≤ b.length) (h : num1 (b.drop a) = some (x, r)) : ∃ a', numR b a 0 = (x, a', 0) ∧ a' ≤ b.length ∧ b.drop a' = r := by
  unfold num1 at h
  unfold numR
  rw [if_neg (by simp)]
  split at h
  · cases h
  · rename_i u n hu
    cases h
    obtain ⟨_, _, h3, _, _⟩ := prs_used hu
    refine ⟨a + n, by simp [hu], ?_, by rw [List.drop_drop]⟩
    rw [List.length_drop] at h3
    omega
theorem numR_none {b : List UInt8} {a : Nat} (h : num1 (b.drop a) = none) : ∃ e, e ≠ 0 ∧ numR b a 0 = (0, a, e) := by
  unfold num1 at h
  unfold numR
  rw [if_neg (by simp)]
  split at h
  · rename_i e he; exact ⟨e, prs_err _ _ _ he, by simp [he]⟩
  · cases h
theorem numR_err {b : List UInt8} {a : Nat} {e : Int} (h : e ≠ 0) : numR b a e = (0, a, e) := by unfold numR; rw [if_pos h]

variable {b : List UInt8} {a : Nat}

theorem r_num_some (hb : b.length ≤ 100000000000000) (ha : a ≤ b.length) {x : Int} {r : List UInt8} (h : num1 (b.drop a) = some (x, r)) : ∃ a', a' ≤ b.length ∧ b.drop a' = r ∧ flagstoneref4_Reader_Number [RF b a 0] = some ([.int .i64 x], [RF b a' 0]) := by
  obtain ⟨a', h1, h2, h3⟩ := numR_some ha h
  have := ref4_Number_eq' hb ha 0
  rw [h1] at this
  exact ⟨a', h2, h3, this⟩
theorem r_num_none (hb : b.length ≤ 100000000000000) (ha : a ≤ b.length) (h : num1 (b.drop a) = none) : ∃ e, e ≠ 0 ∧ flagstoneref4_Reader_Number [RF b a 0] = some ([.int .i64 0], [RF b a e]) := by
  obtain ⟨e, he, h1⟩ := numR_none h
  have := ref4_Number_eq' hb ha 0
  rw [h1] at this
  exact ⟨e, he, this⟩
theorem r_num_err (hb : b.length ≤ 100000000000000) (ha : a ≤ b.length) {e : Int} (h : e ≠ 0) : flagstoneref4_Reader_Number [RF b a e] = some ([.int .i64 0], [RF b a e]) := by
  have := ref4_Number_eq' hb ha e
  rw [numR_err h] at this
  exact this
theorem r_fail (e f : Int) : flagstoneref4_Reader_Fail [RF b a e, .int .i64 f] = some ([], [RF b a (if e = 0 then f else e)]) := ref4_Fail_eq' b a e f
theorem r_count_some (hb : b.length ≤ 100000000000000) (ha : a ≤ b.length) {x most : Int} {r : List UInt8} (h : cnt1 most (b.drop a) = some (x, r)) : ∃ a', a' ≤ b.length ∧ b.drop a' = r ∧ flagstoneref4_Reader_Count [RF b a 0, .int .i64 most] = some ([.int .i64 x], [RF b a' 0]) := by
  obtain ⟨_, h2, h3, h4⟩ := countS_some h
  obtain ⟨a', h5, h6, h7⟩ := numR_some ha h2
  have := ref4_Count_eq' hb ha 0 most
  unfold countR at this
  rw [h5] at this
  simp only [if_pos, show ¬ x < 0 by omega, show ¬ most < x by omega, if_false] at this
  exact ⟨a', h6, h7, this⟩
theorem r_count_none (hb : b.length ≤ 100000000000000) (ha : a ≤ b.length) {most : Int} (h : cnt1 most (b.drop a) = none) : ∃ e a', e ≠ 0 ∧ a' ≤ b.length ∧ flagstoneref4_Reader_Count [RF b a 0, .int .i64 most] = some ([.int .i64 0], [RF b a' e]) := by
  have := ref4_Count_eq' hb ha 0 most
  unfold countR at this
  unfold cnt1 at h
  split at h
  · rename_i hx
    obtain ⟨e, he, h1⟩ := numR_none hx
    rw [h1] at this
    simp only [he, if_false] at this
    exact ⟨e, a, he, ha, this⟩
  · rename_i x r hx
    obtain ⟨a', h1, h2, _⟩ := numR_some ha hx
    rw [h1] at this
    split at h
    · cases h
    · by_cases h3 : x < 0
      · simp only [h3, if_true, show ¬ (3 : Int) = 0 by decide, if_false] at this
        exact ⟨3, a', by decide, h2, this⟩
      · simp only [h3, show most < x by omega, if_true, show ¬ (5 : Int) = 0 by decide, if_false] at this
        exact ⟨5, a', by decide, h2, this⟩
theorem r_count_err (hb : b.length ≤ 100000000000000) (ha : a ≤ b.length) {e most : Int} (h : e ≠ 0) : flagstoneref4_Reader_Count [RF b a e, .int .i64 most] = some ([.int .i64 0], [RF b a e]) := by
  have := ref4_Count_eq' hb ha e most
  unfold countR at this
  rw [numR_err h] at this
  simp only [h, if_false] at this
  exact this

/-- What a decoder of the reference answers. -/
def ResR (b : List UInt8) (R : Ans) : Option (List Int) → Prop
  | some l => ∃ a : Nat, R = some ([.sl 1 (intV l)], [RF b a 0])
  | none => ∃ (l : List Int) (a : Nat) (e : Int), e ≠ 0 ∧ R = some ([.sl 1 (intV l)], [RF b a e])

theorem intV_snoc (l : List Int) (x : Int) : intV (l ++ [x]) = intV l ++ [V.int .i64 x] := intV_append ..
theorem succ_wrap {i : Nat} (h : i < 9223372036854775807) : IntKind.i64.wrap ((i : Int) + 1) = ((i + 1 : Nat) : Int) := by rw [wrap_succ h]; omega

-- the first encoding
theorem dec1_step (N : Nat) (G : Nat → List V → Ans) {n i : Nat} {a' : Nat} {e e' x : Int} {l : List Int} (k : Nat) (hN : G 2 [RF b a e] = some ([.int .i64 x], [RF b a' e'])) (hi : i < n) (hn : n ≤ 1000000) (hl : l.length ≤ 1000000) :
    Lflagstoneref31_decode_1 N G (k + 1) n i (byV b) a e (intV l) = Lflagstoneref31_decode_1 N G k n ((i + 1 : Nat) : Int) (byV b) a' e' (intV (l ++ [x])) := by
  have hroom : room (l.length + 1) 8 := room8 (by omega)
  rw [intV_snoc, Lflagstoneref31_decode_1_eq]
  simp [hi, hN, hroom, wrap_succ (i := i) (by omega)]
theorem dec1_end (N : Nat) (G : Nat → List V → Ans) {n : Nat} {e : Int} {l : List Int} (k : Nat) : Lflagstoneref31_decode_1 N G (k + 1) n n (byV b) a e (intV l) = some ([.sl 1 (intV l)], [RF b a e]) := by
  rw [Lflagstoneref31_decode_1_eq]
  simp
theorem dec1_bad {n : Nat} (hb : b.length ≤ 100000000000000) (ha : a ≤ b.length) (hn : n ≤ 1000000) {e : Int} (he : e ≠ 0) : ∀ (d i k : Nat) (l : List Int), i + d = n → l.length = i → d < k →
    ∃ l' : List Int, Lflagstoneref31_decode_1 N0 flagstoneref31_decode_G k n i (byV b) a e (intV l) = some ([.sl 1 (intV l')], [RF b a e]) := by
  intro d
  induction d with
  | zero =>
    intro i k l hd hl hk
    obtain ⟨k, rfl, _⟩ := rounds hk
    obtain rfl : i = n := by omega
    exact ⟨l, dec1_end ..⟩
  | succ d ih =>
    intro i k l hd hl hk
    obtain ⟨k, rfl, hk⟩ := rounds hk
    obtain ⟨l', hl'⟩ := ih (i + 1) k (l ++ [0]) (by omega) (by simp [hl]) (by omega)
    exact ⟨l', (dec1_step N0 flagstoneref31_decode_G k (r_num_err hb ha he) (by omega) hn (by omega)).trans hl'⟩
theorem dec1_loop {n : Nat} (hb : b.length ≤ 100000000000000) (hn : n ≤ 1000000) : ∀ (d i k a : Nat) (l : List Int), a ≤ b.length → i + d = n → l.length = i → d < k →
    ResR b (Lflagstoneref31_decode_1 N0 flagstoneref31_decode_G k n i (byV b) a 0 (intV l)) ((numsD d (b.drop a)).map fun p => l ++ p.1) := by
  intro d
  induction d with
  | zero =>
    intro i k a l ha hd hl hk
    obtain ⟨k, rfl, _⟩ := rounds hk
    obtain rfl : i = n := by omega
    simp only [numsD, Option.map_some, List.append_nil]
    exact ⟨a, dec1_end ..⟩
  | succ d ih =>
    intro i k a l ha hd hl hk
    obtain ⟨k, rfl, hk⟩ := rounds hk
    rw [numsD]
    cases hx : num1 (b.drop a) with
    | none =>
      obtain ⟨e, he, h1⟩ := r_num_none hb ha hx
      obtain ⟨l', hl'⟩ := dec1_bad hb ha hn he d (i + 1) k (l ++ [0]) (by omega) (by simp [hl]) (by omega)
      exact ⟨l', a, e, he, (dec1_step N0 flagstoneref31_decode_G k h1 (by omega) hn (by omega)).trans hl'⟩
    | some p =>
      obtain ⟨x, r⟩ := p
      obtain ⟨a', h1, h2, h3⟩ := r_num_some hb ha hx
      have ih := ih (i + 1) k a' (l ++ [x]) h1 (by omega) (by simp [hl]) (by omega)
      rw [dec1_step N0 flagstoneref31_decode_G k h3 (by omega) hn (by omega)]
      rw [h2] at ih
      simp only
      cases hd2 : numsD d r with
      | none => rw [hd2] at ih; exact ih
      | some q => rw [hd2] at ih; simpa using ih

-- the second encoding
theorem dec5_loop (N : Nat) (G : Nat → List V → Ans) {n m K : Nat} {x : Int} (hK : K ≤ 1000000) : ∀ (d j k : Nat) (l : List Int), j + d = K → l.length + d ≤ 1000000 → d < k →
    Lflagstoneref31_decode_5 N G k m n x K j (byV b) a 0 (intV l) = Lflagstoneref31_decode_3 N G m n (byV b) a 0 (intV (l ++ List.replicate d x)) := by
  intro d
  induction d with
  | zero =>
    intro j k l hd hl hk
    obtain ⟨k, rfl, _⟩ := rounds hk
    obtain rfl : j = K := by omega
    rw [Lflagstoneref31_decode_5_eq]
    simp
  | succ d ih =>
    intro j k l hd hl hk
    obtain ⟨k, rfl, hk⟩ := rounds hk
    have hroom : room (l.length + 1) 8 := room8 (by omega)
    have hj : j < K := by omega
    have := ih (j + 1) k (l ++ [x]) (by omega) (by simp; omega) (by omega)
    rw [intV_snoc] at this
    rw [List.replicate_succ, Lflagstoneref31_decode_5_eq]
    simp [hj, hroom, succ_wrap (i := j) (by omega)]
    rw [show ((j : Int) + 1) = ((j + 1 : Nat) : Int) by omega] at *
    simpa using this
theorem dec5_bad (N : Nat) (G : Nat → List V → Ans) {n m : Nat} {x K e : Int} (he : e ≠ 0) (k : Nat) (l : List Int) :
    Lflagstoneref31_decode_5 N G (k + 1) m n x K 0 (byV b) a e (intV l) = Lflagstoneref31_decode_3 N G m n (byV b) a e (intV l) := by
  rw [Lflagstoneref31_decode_5_eq]
  simp only [bne0 he, cond_false]
  cases decide ((0 : Int) < K) <;> rfl
theorem dec3_bad (N : Nat) (G : Nat → List V → Ans) {n : Nat} {e : Int} (he : e ≠ 0) (k : Nat) (l : List Int) :
    Lflagstoneref31_decode_3 N G (k + 1) n (byV b) a e (intV l) = some ([.sl 1 (intV l)], [RF b a e]) := by
  rw [Lflagstoneref31_decode_3_eq]
  simp only [bne0 he, cond_false, intV_length]
  cases decide ((l.length : Int) < (n : Int)) <;> simp
theorem dec3_step (N : Nat) (G : Nat → List V → Ans) {n a1 a2 : Nat} {e1 e2 x c : Int} {l : List Int} (k : Nat) (h1 : G 2 [RF b a 0] = some ([.int .i64 x], [RF b a1 e1])) (h2 : G 2 [RF b a1 e1] = some ([.int .i64 c], [RF b a2 e2]))
    (hF : ∀ e f, G 1 [RF b a2 e, .int .i64 f] = some ([], [RF b a2 (if e = 0 then f else e)])) (hl : l.length < n) (hn : n ≤ 1000000) :
    Lflagstoneref31_decode_3 N G (k + 1) n (byV b) a 0 (intV l) = Jflagstoneref31_decode_16 N G k n x c (byV b) a2 (if c < 1 ∨ ((n - l.length : Nat) : Int) < c then (if e2 = 0 then 1 else e2) else e2) (intV l) := by
  have hw : IntKind.i64.wrap ((n : Int) - (l.length : Int)) = ((n - l.length : Nat) : Int) := by rw [wrap_i64 (by omega) (by omega)]; omega
  have hc : ((l.length : Int) < (n : Int)) := by omega
  rw [Lflagstoneref31_decode_3_eq]
  simp only [intV_length, decide_eq_true hc, cond_true, show ((0 : Int) == 0) = true from rfl, h1, h2, hw, Option.bind_some, List.length_cons, List.length_nil, List.getElem?_cons_zero, List.getElem?_cons_succ, asInt_int, asAgg_agg, asSl_sl]
  rw [if_pos (by simp), if_pos (by simp), if_pos (by simp), if_pos (by simp)]
  by_cases c1 : c < 1
  · rw [if_pos (.inl c1)]
    simp [c1, hF]
  · by_cases c2 : ((n - l.length : Nat) : Int) < c
    · rw [if_pos (.inr c2)]
      simp only [decide_eq_false c1, cond_false, gt_iff_lt, decide_eq_true c2, cond_true]
      simp [hF]
    · rw [if_neg (by omega)]
      simp only [decide_eq_false c1, cond_false, gt_iff_lt, decide_eq_false c2]
theorem dec3_end (N : Nat) (G : Nat → List V → Ans) {n : Nat} {l : List Int} (k : Nat) (hl : l.length = n) : Lflagstoneref31_decode_3 N G (k + 1) n (byV b) a 0 (intV l) = some ([.sl 1 (intV l)], [RF b a 0]) := by
  have hc : ¬ ((l.length : Int) < (n : Int)) := by omega
  rw [Lflagstoneref31_decode_3_eq]
  simp [hc]
theorem dec3_loop {n : Nat} (hb : b.length ≤ 100000000000000) (hn : n ≤ 1000000) : ∀ (m d k a : Nat) (l : List Int), a ≤ b.length → d ≤ m → l.length + d = n → m < k →
    ResR b (Lflagstoneref31_decode_3 N0 flagstoneref31_decode_G k n (byV b) a 0 (intV l)) ((runsD d (b.drop a)).map fun p => l ++ p) := by
  intro m
  induction m with
  | zero =>
    intro d k a l ha hm hd hk
    obtain ⟨k, rfl, _⟩ := rounds hk
    obtain rfl : d = 0 := by omega
    rw [runsD, if_pos rfl]
    exact ⟨a, by simpa using dec3_end N0 flagstoneref31_decode_G k (by omega)⟩
  | succ m ih =>
    intro d k a l ha hm hd hk
    obtain ⟨k, rfl, hk⟩ := rounds hk
    by_cases h0 : d = 0
    · subst h0
      rw [runsD, if_pos rfl]
      exact ⟨a, by simpa using dec3_end N0 flagstoneref31_decode_G k (by omega)⟩
    · -- an error, whatever the numbers
      have bad : ∀ {a1 a2 : Nat} {x c e1 e2 : Int}, flagstoneref4_Reader_Number [RF b a 0] = some ([.int .i64 x], [RF b a1 e1]) → flagstoneref4_Reader_Number [RF b a1 e1] = some ([.int .i64 c], [RF b a2 e2]) →
          (if c < 1 ∨ ((n - l.length : Nat) : Int) < c then (if e2 = 0 then 1 else e2) else e2) ≠ 0 → ResR b (Lflagstoneref31_decode_3 N0 flagstoneref31_decode_G (k + 1) n (byV b) a 0 (intV l)) none := by
        intro a1 a2 x c e1 e2 h1 h2 h3
        obtain ⟨k, rfl, _⟩ := rounds (j := 0) (k := k) (by omega)
        obtain ⟨k0, hk0, _⟩ := rounds (N0_pos (k := 0) (by decide))
        refine ⟨l, a2, _, h3, ?_⟩
        rw [dec3_step N0 flagstoneref31_decode_G (k + 1) h1 h2 (fun e f => r_fail e f) (by omega) hn, Jflagstoneref31_decode_16_eq]
        have := fun k0 => dec5_bad N0 flagstoneref31_decode_G (b := b) (a := a2) (n := n) (m := k + 1) (x := x) (K := c) h3 k0 l
        have := this k0
        rw [← hk0] at this
        rw [this]
        exact dec3_bad N0 flagstoneref31_decode_G h3 k l
      rw [runsD, if_neg h0]
      cases hx : num1 (b.drop a) with
      | none =>
        obtain ⟨e, he, h1⟩ := r_num_none hb ha hx
        exact bad h1 (r_num_err hb ha he) (by split <;> simp [he])
      | some p =>
        obtain ⟨x, r⟩ := p
        obtain ⟨a1, h1, h2, h3⟩ := r_num_some hb ha hx
        simp only
        rw [← h2]
        cases hy : num1 (b.drop a1) with
        | none =>
          obtain ⟨e, he, h4⟩ := r_num_none hb h1 hy
          exact bad h3 h4 (by split <;> simp [he])
        | some p =>
          obtain ⟨c, q⟩ := p
          obtain ⟨a2, h4, h5, h6⟩ := r_num_some hb h1 hy
          simp only
          have en : n - l.length = d := by omega
          by_cases hh : 1 ≤ c ∧ c ≤ (d : Int)
          · rw [dif_pos hh]
            have e0 : ¬ (c < 1 ∨ ((n - l.length : Nat) : Int) < c) := by omega
            have hC : ((c.toNat : Nat) : Int) = c := by omega
            rw [dec3_step N0 flagstoneref31_decode_G k h3 h6 (fun e f => r_fail e f) (by omega) hn, if_neg e0, Jflagstoneref31_decode_16_eq]
            have := dec5_loop N0 flagstoneref31_decode_G (b := b) (a := a2) (n := n) (m := k) (K := c.toNat) (x := x) (by omega) c.toNat 0 N0 l (by omega) (by omega) (N0_pos (by omega))
            rw [hC] at this
            rw [show ((0 : Nat) : Int) = 0 from rfl] at this
            rw [this]
            have ih := ih (d - c.toNat) k a2 (l ++ List.replicate c.toNat x) h4 (by omega) (by simp; omega) (by omega)
            rw [h5] at ih
            cases hd2 : runsD (d - c.toNat) q with
            | none => rw [hd2] at ih; exact ih
            | some l' => rw [hd2] at ih; simpa using ih
          · rw [dif_neg hh]
            exact bad h3 h6 (by rw [if_pos (by omega)]; simp)

end Go.Proofs.YtdhdhcllgkddnaaGreat.Va

namespace Go.Proofs.YtdhdhcllgkddnaaGreat.Va
open Go Go.RowKit

variable {b : List UInt8} {a : Nat}

-- the third encoding
def nextS (l : List Int) (x : Int) : Int := match l.getLast? with | some p => IntKind.i64.wrap (x + p) | none => x
theorem add_wrap {x p : Int} : IntKind.i64.wrap (IntKind.u64.wrap (IntKind.u64.wrap x + IntKind.u64.wrap p)) = IntKind.i64.wrap (x + p) := by
  have e : ∀ n : Int, IntKind.i64.wrap n = if n % 18446744073709551616 ≥ 9223372036854775808 then n % 18446744073709551616 - 18446744073709551616 else n % 18446744073709551616 := fun n => by simp [IntKind.wrap, IntKind.bits, IntKind.signed]
  rw [e, e, wrap_u64, wrap_u64, wrap_u64]
  have : (x % 18446744073709551616 + p % 18446744073709551616) % 18446744073709551616 % 18446744073709551616 = (x + p) % 18446744073709551616 := by omega
  rw [this]
theorem dec7_step (N : Nat) (G : Nat → List V → Ans) {n i : Nat} {a' : Nat} {e e' x : Int} {l : List Int} (k : Nat) (hN : G 2 [RF b a e] = some ([.int .i64 x], [RF b a' e'])) (hi : i < n) (hn : n ≤ 1000000) (hl : l.length = i) :
    Lflagstoneref31_decode_7 N G (k + 1) n i (byV b) a e (intV l) = Lflagstoneref31_decode_7 N G k n ((i + 1 : Nat) : Int) (byV b) a' e' (intV (l ++ [nextS l x])) := by
  have hroom : room (l.length + 1) 8 := room8 (by omega)
  rw [intV_snoc, Lflagstoneref31_decode_7_eq]
  by_cases h0 : i = 0
  · subst h0
    have : l = [] := List.eq_nil_of_length_eq_zero hl
    subst this
    have hr : room (0 + 1) 8 := room8 (by omega)
    simp [hi, hN, hr, nextS]
    rfl
  · have h1 : i - 1 < l.length := by omega
    have hg := intV_get h1
    have hw := wrap_pred (i := i) (by omega) (by omega)
    have hx : nextS l x = IntKind.i64.wrap (x + l[i - 1]) := by
      unfold nextS
      rw [List.getLast?_eq_getElem?, show l.length - 1 = i - 1 by omega, List.getElem?_eq_getElem h1]
    rw [hx]
    simp only [decide_eq_true (show ((i : Int) < (n : Int)) by omega), cond_true, hN, Option.bind_some, List.length_cons, List.length_nil, List.getElem?_cons_zero, List.getElem?_cons_succ, asInt_int, asAgg_agg, asSl_sl, decide_eq_true (show ((i : Int) > 0) by omega), hw, Int.toNat_natCast, Nat.zero_add, hg, cells_int, add_wrap, intV_length, succ_wrap (i := i) (by omega)]
    rw [if_pos (by simp), if_pos (by simp), if_pos (by omega), if_pos (by simp), if_pos hroom]
theorem dec7_end (N : Nat) (G : Nat → List V → Ans) {n : Nat} {e : Int} {l : List Int} (k : Nat) : Lflagstoneref31_decode_7 N G (k + 1) n n (byV b) a e (intV l) = some ([.sl 1 (intV l)], [RF b a e]) := by
  rw [Lflagstoneref31_decode_7_eq]
  simp
theorem dec7_bad {n : Nat} (hb : b.length ≤ 100000000000000) (ha : a ≤ b.length) (hn : n ≤ 1000000) {e : Int} (he : e ≠ 0) : ∀ (d i k : Nat) (l : List Int), i + d = n → l.length = i → d < k →
    ∃ l' : List Int, Lflagstoneref31_decode_7 N0 flagstoneref31_decode_G k n i (byV b) a e (intV l) = some ([.sl 1 (intV l')], [RF b a e]) := by
  intro d
  induction d with
  | zero =>
    intro i k l hd hl hk
    obtain ⟨k, rfl, _⟩ := rounds hk
    obtain rfl : i = n := by omega
    exact ⟨l, dec7_end ..⟩
  | succ d ih =>
    intro i k l hd hl hk
    obtain ⟨k, rfl, hk⟩ := rounds hk
    obtain ⟨l', hl'⟩ := ih (i + 1) k (l ++ [nextS l 0]) (by omega) (by simp [hl]) (by omega)
    exact ⟨l', (dec7_step N0 flagstoneref31_decode_G k (r_num_err hb ha he) (by omega) hn hl).trans hl'⟩
theorem dec7_loop {n : Nat} (hb : b.length ≤ 100000000000000) (hn : n ≤ 1000000) : ∀ (d i k a : Nat) (l : List Int) (p : Int), a ≤ b.length → i + d = n → l.length = i → d < k → (∀ x, nextS l x = if l = [] then x else IntKind.i64.wrap (x + p)) → (l = [] → p = 0) →
    ResR b (Lflagstoneref31_decode_7 N0 flagstoneref31_decode_G k n i (byV b) a 0 (intV l)) ((numsD d (b.drop a)).map fun q => l ++ sumsL p q.1) := by
  intro d
  induction d with
  | zero =>
    intro i k a l p ha hd hl hk hp hp0
    obtain ⟨k, rfl, _⟩ := rounds hk
    obtain rfl : i = n := by omega
    simp only [numsD, Option.map_some, sumsL, List.append_nil]
    exact ⟨a, dec7_end ..⟩
  | succ d ih =>
    intro i k a l p ha hd hl hk hp hp0
    obtain ⟨k, rfl, hk⟩ := rounds hk
    rw [numsD]
    cases hx : num1 (b.drop a) with
    | none =>
      obtain ⟨e, he, h1⟩ := r_num_none hb ha hx
      obtain ⟨l', hl'⟩ := dec7_bad hb ha hn he d (i + 1) k (l ++ [nextS l 0]) (by omega) (by simp [hl]) (by omega)
      exact ⟨l', a, e, he, (dec7_step N0 flagstoneref31_decode_G k h1 (by omega) hn hl).trans hl'⟩
    | some q =>
      obtain ⟨x, r⟩ := q
      obtain ⟨a', h1, h2, h3⟩ := r_num_some hb ha hx
      have hI := (num1_of hx).1
      have en : nextS l x = IntKind.i64.wrap (x + p) := by
        rw [hp x]
        split
        · rename_i h; rw [hp0 h, Int.add_zero]; exact (wrap_i64 hI.1 hI.2).symm
        · rfl
      have ih := ih (i + 1) k a' (l ++ [nextS l x]) (IntKind.i64.wrap (x + p)) h1 (by omega) (by simp [hl]) (by omega) (fun y => by
        have : nextS (l ++ [nextS l x]) y = IntKind.i64.wrap (y + nextS l x) := by unfold nextS; rw [List.getLast?_concat]
        rw [this, en, if_neg (by simp)]) (by simp)
      rw [dec7_step N0 flagstoneref31_decode_G k h3 (by omega) hn hl]
      rw [h2] at ih
      simp only
      cases hd2 : numsD d r with
      | none => rw [hd2] at ih; exact ih
      | some q => rw [hd2] at ih; simpa [sumsL, en] using ih

-- the fourth encoding
theorem dec9_step (N : Nat) (G : Nat → List V → Ans) {n K i : Nat} {a' : Nat} {e e' x : Int} {l : List Int} (k : Nat) (hN : G 2 [RF b a e] = some ([.int .i64 x], [RF b a' e'])) (hi : i < K) (hn : K ≤ 1000000) (hl : l.length ≤ 1000000) :
    Lflagstoneref31_decode_9 N G (k + 1) n K i (byV b) a e (intV l) = Lflagstoneref31_decode_9 N G k n K ((i + 1 : Nat) : Int) (byV b) a' e' (intV (l ++ [x])) := by
  have hroom : room (l.length + 1) 8 := room8 (by omega)
  rw [intV_snoc, Lflagstoneref31_decode_9_eq]
  simp [hi, hN, hroom, wrap_succ (i := i) (by omega)]
theorem dec9_end (N : Nat) (G : Nat → List V → Ans) {n K : Nat} {e : Int} {l : List Int} (k : Nat) : Lflagstoneref31_decode_9 N G (k + 1) n K K (byV b) a e (intV l) = Lflagstoneref31_decode_11 N G N n 0 (byV b) a e [] (intV l) := by
  rw [Lflagstoneref31_decode_9_eq]
  simp
theorem dec11_bad (N : Nat) (G : Nat → List V → Ans) {n : Nat} {e : Int} (he : e ≠ 0) (k : Nat) (s : List Int) : Lflagstoneref31_decode_11 N G (k + 1) n 0 (byV b) a e [] (intV s) = some ([.sl 1 (intV [])], [RF b a e]) := by
  rw [Lflagstoneref31_decode_11_eq]
  simp only [bne0 he, cond_false]
  cases decide ((0 : Int) < (n : Int)) <;> simp
theorem dec9_bad {n K : Nat} (hb : b.length ≤ 100000000000000) (ha : a ≤ b.length) (hn : K ≤ 1000000) {e : Int} (he : e ≠ 0) : ∀ (d i k : Nat) (l : List Int), i + d = K → l.length = i → d < k →
    ∃ l' : List Int, Lflagstoneref31_decode_9 N0 flagstoneref31_decode_G k n K i (byV b) a e (intV l) = some ([.sl 1 (intV l')], [RF b a e]) := by
  intro d
  induction d with
  | zero =>
    intro i k l hd hl hk
    obtain ⟨k, rfl, _⟩ := rounds hk
    obtain rfl : i = K := by omega
    obtain ⟨k0, hk0, _⟩ := rounds (N0_pos (k := 0) (by decide))
    have := fun k0 => dec11_bad N0 flagstoneref31_decode_G (b := b) (a := a) (n := n) he k0 l
    have := this k0
    rw [← hk0] at this
    exact ⟨[], (dec9_end ..).trans this⟩
  | succ d ih =>
    intro i k l hd hl hk
    obtain ⟨k, rfl, hk⟩ := rounds hk
    obtain ⟨l', hl'⟩ := ih (i + 1) k (l ++ [0]) (by omega) (by simp [hl]) (by omega)
    exact ⟨l', (dec9_step N0 flagstoneref31_decode_G k (r_num_err hb ha he) (by omega) hn (by omega)).trans hl'⟩
theorem dec11_step (N : Nat) (G : Nat → List V → Ans) {n i : Nat} {a' : Nat} {e' x : Int} {l s : List Int} (k : Nat) (hN : G 2 [RF b a 0] = some ([.int .i64 x], [RF b a' e'])) (hF : ∀ e f, G 1 [RF b a' e, .int .i64 f] = some ([], [RF b a' (if e = 0 then f else e)]))
    (hi : i < n) (hn : n ≤ 1000000) (hl : l.length ≤ 1000000) :
    Lflagstoneref31_decode_11 N G (k + 1) n i (byV b) a 0 (intV l) (intV s) = if 0 ≤ x ∧ x < (s.length : Int) then Lflagstoneref31_decode_11 N G k n ((i + 1 : Nat) : Int) (byV b) a' e' (intV (l ++ [s.getD x.toNat 0])) (intV s)
      else some ([.sl 1 (intV l)], [RF b a' (if e' = 0 then 1 else e')]) := by
  have hroom : room (l.length + 1) 8 := room8 (by omega)
  rw [intV_snoc, Lflagstoneref31_decode_11_eq]
  simp only [decide_eq_true (show ((i : Int) < (n : Int)) by omega), cond_true, show ((0 : Int) == 0) = true from rfl, hN, Option.bind_some, List.length_cons, List.length_nil, List.getElem?_cons_zero, List.getElem?_cons_succ, asInt_int, asAgg_agg, asSl_sl, intV_length, succ_wrap (i := i) (by omega)]
  rw [if_pos (by simp), if_pos (by simp)]
  by_cases h1 : x < 0
  · rw [if_neg (by omega), decide_eq_true h1]
    simp [hF]
    intros; omega
  · by_cases h2 : x ≥ (s.length : Int)
    · rw [if_neg (by omega), decide_eq_false h1, decide_eq_true h2]
      simp [hF]
      intros; omega
    · have hlt : x.toNat < s.length := by omega
      rw [if_pos (by omega), decide_eq_false h1, decide_eq_false h2]
      simp [intV_get hlt, hroom, hlt]
      omega
theorem dec11_end (N : Nat) (G : Nat → List V → Ans) {n : Nat} {l s : List Int} (k : Nat) : Lflagstoneref31_decode_11 N G (k + 1) n n (byV b) a 0 (intV l) (intV s) = some ([.sl 1 (intV l)], [RF b a 0]) := by
  rw [Lflagstoneref31_decode_11_eq]
  simp
theorem dec11_loop {n : Nat} (hb : b.length ≤ 100000000000000) (hn : n ≤ 1000000) {s : List Int} : ∀ (d i k a : Nat) (l : List Int), a ≤ b.length → i + d = n → l.length = i → d < k →
    ResR b (Lflagstoneref31_decode_11 N0 flagstoneref31_decode_G k n i (byV b) a 0 (intV l) (intV s)) ((pickD s d (b.drop a)).map fun p => l ++ p) := by
  intro d
  induction d with
  | zero =>
    intro i k a l ha hd hl hk
    obtain ⟨k, rfl, _⟩ := rounds hk
    obtain rfl : i = n := by omega
    simp only [pickD, Option.map_some, List.append_nil]
    exact ⟨a, dec11_end ..⟩
  | succ d ih =>
    intro i k a l ha hd hl hk
    obtain ⟨k, rfl, hk⟩ := rounds hk
    rw [pickD]
    cases hx : num1 (b.drop a) with
    | none =>
      obtain ⟨e, he, h1⟩ := r_num_none hb ha hx
      obtain ⟨k, rfl, _⟩ := rounds (j := 0) (k := k) (by omega)
      by_cases h0 : (0 : Int) ≤ 0 ∧ (0 : Int) < (s.length : Int)
      · have := dec11_step N0 flagstoneref31_decode_G (s := s) (l := l) (k + 1) h1 (fun e f => r_fail e f) (by omega : i < n) hn (by omega)
        rw [if_pos h0] at this
        refine ⟨l ++ [s.getD 0 0], a, e, he, this.trans ?_⟩
        rw [Lflagstoneref31_decode_11_eq]
        simp only [bne0 he, cond_false, intV_length]
        cases decide (((i + 1 : Nat) : Int) < (n : Int)) <;> simp
      · have := dec11_step N0 flagstoneref31_decode_G (s := s) (l := l) (k + 1) h1 (fun e f => r_fail e f) (by omega : i < n) hn (by omega)
        rw [if_neg h0, if_neg he] at this
        exact ⟨l, a, e, he, this⟩
    | some p =>
      obtain ⟨x, r⟩ := p
      obtain ⟨a', h1, h2, h3⟩ := r_num_some hb ha hx
      have st := dec11_step N0 flagstoneref31_decode_G (s := s) (l := l) k h3 (fun e f => r_fail e f) (by omega : i < n) hn (by omega)
      rw [st]
      simp only
      by_cases hh : 0 ≤ x ∧ x < (s.length : Int)
      · rw [if_pos hh, if_pos hh]
        have ih := ih (i + 1) k a' (l ++ [s.getD x.toNat 0]) h1 (by omega) (by simp [hl]) (by omega)
        rw [h2] at ih
        cases hd2 : pickD s d r with
        | none => rw [hd2] at ih; exact ih
        | some q => rw [hd2] at ih; simpa using ih
      · rw [if_neg hh, if_neg hh]
        exact ⟨l, a', 1, by decide, by simp⟩
theorem dec9_loop {n K : Nat} (hb : b.length ≤ 100000000000000) (hn : n ≤ 1000000) (hK : K ≤ 1000000) : ∀ (d i k a : Nat) (l : List Int), a ≤ b.length → i + d = K → l.length = i → d < k →
    ResR b (Lflagstoneref31_decode_9 N0 flagstoneref31_decode_G k n K i (byV b) a 0 (intV l)) ((numsD d (b.drop a)).bind fun p => pickD (l ++ p.1) n p.2) := by
  intro d
  induction d with
  | zero =>
    intro i k a l ha hd hl hk
    obtain ⟨k, rfl, _⟩ := rounds hk
    obtain rfl : i = K := by omega
    simp only [numsD, Option.bind_some, List.append_nil]
    have w := dec11_loop hb hn (s := l) n 0 N0 a [] ha (by omega) rfl (N0_pos (by omega))
    rw [dec9_end]
    simpa using w
  | succ d ih =>
    intro i k a l ha hd hl hk
    obtain ⟨k, rfl, hk⟩ := rounds hk
    rw [numsD]
    cases hx : num1 (b.drop a) with
    | none =>
      obtain ⟨e, he, h1⟩ := r_num_none hb ha hx
      obtain ⟨l', hl'⟩ := dec9_bad (n := n) hb ha hK he d (i + 1) k (l ++ [0]) (by omega) (by simp [hl]) (by omega)
      exact ⟨l', a, e, he, (dec9_step N0 flagstoneref31_decode_G k h1 (by omega) hK (by omega)).trans hl'⟩
    | some p =>
      obtain ⟨x, r⟩ := p
      obtain ⟨a', h1, h2, h3⟩ := r_num_some hb ha hx
      have ih := ih (i + 1) k a' (l ++ [x]) h1 (by omega) (by simp [hl]) (by omega)
      rw [dec9_step N0 flagstoneref31_decode_G k h3 (by omega) hK (by omega)]
      rw [h2] at ih
      simp only
      cases hd2 : numsD d r with
      | none => rw [hd2] at ih; exact ih
      | some q => rw [hd2] at ih; simpa using ih

-- the fifth encoding
theorem dec15_loop (N : Nat) (G : Nat → List V → Ans) {least sz : Int} {w n : Nat} (hn : n ≤ 1000000) (hw : w ≤ 64) (hb : b.length ≤ 100000000000000) (ha : a ≤ b.length) (hp : (n * w + 7) / 8 ≤ (b.drop a).length) {i : Nat} (hi : i < n) {l : List Int} (hl : l.length ≤ 1000000) (m : Nat) : ∀ (d k q : Nat), k + d = w → d < q →
    Lflagstoneref31_decode_15 N G q m n least w sz i (valK (b.drop a) i w k) k (byV b) a 0 (intV l) = Lflagstoneref31_decode_13 N G m n least w sz ((i + 1 : Nat) : Int) (byV b) a 0 (intV (l ++ [bitVal least w (b.drop a) i])) := by
  intro d
  induction d with
  | zero =>
    intro k q hd hq
    obtain ⟨q, rfl, _⟩ := rounds hq
    obtain rfl : k = w := by omega
    have h1 : ¬ ((k : Int) < (k : Int)) := by omega
    have hroom : room (l.length + 1) 8 := room8 (by omega)
    rw [intV_snoc, Lflagstoneref31_decode_15_eq]
    simp only [decide_eq_false h1, cond_false, intV_length, succ_wrap (i := i) (by omega)]
    rw [if_pos (by simp), if_pos hroom]
    rfl
  | succ d ih =>
    intro k q hd hq
    obtain ⟨q, rfl, hq⟩ := rounds hq
    have h1 : ((k : Int) < (w : Int)) := by omega
    have hat := at_wrap (i := i) (w := w) (k := k) (by omega) hw (by omega)
    have hdv := at_div (i := i) (w := w) (k := k) (by omega) hw (by omega)
    have hc := at_mod (i := i) (w := w) (k := k)
    have hlt : (i * w + k) / 8 < (b.drop a).length := Nat.lt_of_lt_of_le (bit_lt hi (by omega)) hp
    have hlt2 : a + (i * w + k) / 8 < b.length := by rw [List.length_drop] at hlt; omega
    have hg := byV_get hlt2
    have hea : b[a + (i * w + k) / 8] = (b.drop a)[(i * w + k) / 8] := by rw [List.getElem_drop]
    have hwa : IntKind.i64.wrap ((a : Int) + (((i * w + k) / 8 : Nat) : Int)) = ((a + (i * w + k) / 8 : Nat) : Int) := by rw [wrap_i64 (by omega) (by omega)]; omega
    have hv := valK_lt (b.drop a) i w k
    have hcc := ((b.drop a)[(i * w + k) / 8]).toNat_lt
    have ho := or_bit (a := i * w + k) hv hcc (by omega : k < 64)
    have hk0 : ¬ ((k : Int) < 0) := by omega
    have hm0 : ¬ ((((i * w + k) % 8 : Nat) : Int) < 0) := by omega
    have hu1 : IntKind.u64.wrap (((i * w + k) % 8 : Nat) : Int) = (((i * w + k) % 8 : Nat) : Int) := wrap_u64_nat (by omega)
    have hu2 : IntKind.u64.wrap (k : Int) = (k : Int) := wrap_u64_nat (by omega)
    have h2 : (0 : Int) ≤ ((a + (i * w + k) / 8 : Nat) : Int) ∧ ((a + (i * w + k) / 8 : Nat) : Int) < (b.length : Int) := by omega
    have := ih (k + 1) q (by omega) (by omega)
    rw [Lflagstoneref31_decode_15_eq, hat, hdv, hc, hwa]
    simp only [decide_eq_true h1, cond_true, byV_length, Int.toNat_natCast, hg, Option.bind_some, cells_int, List.getElem?_cons_zero, asInt_int, hu1, hu2, hea, ho, succ_wrap (i := k) (by omega)]
    rw [if_pos h2, if_pos hm0, if_pos hk0]
    have e : valK (b.drop a) i w (k + 1) = valK (b.drop a) i w k + (Nat.testBit ((b.drop a)[(i * w + k) / 8]).toNat ((i * w + k) % 8)).toNat * 2 ^ k := by
      rw [valK]
      unfold bitU
      rw [List.getD_eq_getElem?_getD, List.getElem?_eq_getElem hlt, Option.getD_some]
    rw [e] at this
    exact this
theorem dec13_loop {least : Int} {sz : Nat} {w n : Nat} (hn : n ≤ 1000000) (hw : w ≤ 64) (hb : b.length ≤ 100000000000000) (ha : a ≤ b.length) (hp : (n * w + 7) / 8 ≤ (b.drop a).length) (hsz : sz ≤ 100000000) : ∀ (d i q : Nat), i + d = n → d < q →
    Lflagstoneref31_decode_13 N0 flagstoneref31_decode_G q n least w sz i (byV b) a 0 (intV ((List.range i).map (bitVal least w (b.drop a)))) = some ([.sl 1 (intV ((List.range n).map (bitVal least w (b.drop a))))], [RF b (a + sz) 0]) := by
  intro d
  induction d with
  | zero =>
    intro i q hd hq
    obtain ⟨q, rfl, _⟩ := rounds hq
    obtain rfl : i = n := by omega
    have h1 : ¬ ((i : Int) < (i : Int)) := by omega
    have hw2 : IntKind.i64.wrap ((a : Int) + (sz : Int)) = ((a + sz : Nat) : Int) := by rw [wrap_i64 (by omega) (by omega)]; omega
    rw [Lflagstoneref31_decode_13_eq, hw2]
    simp
  | succ d ih =>
    intro i q hd hq
    obtain ⟨q, rfl, hq⟩ := rounds hq
    have h1 : ((i : Int) < (n : Int)) := by omega
    have w1 := dec15_loop N0 flagstoneref31_decode_G (least := least) (sz := sz) hn hw hb ha hp (i := i) (by omega) (l := (List.range i).map (bitVal least w (b.drop a))) (by simp; omega) q w 0 N0 (by omega) (N0_pos (by omega))
    have := ih (i + 1) q (by omega) (by omega)
    rw [Lflagstoneref31_decode_13_eq]
    simp only [decide_eq_true h1, cond_true]
    simp only [valK, Int.natCast_zero] at w1
    rw [w1]
    rw [List.range_succ, List.map_append] at this
    exact this

end Go.Proofs.YtdhdhcllgkddnaaGreat.Va

namespace Go.Proofs.YtdhdhcllgkddnaaGreat.Va
open Go Go.RowKit

variable {b : List UInt8} {a : Nat}

theorem N0_succ {p : Nat → Prop} (h : ∀ k, p (k + 1)) : p N0 := by
  obtain ⟨k, hk, _⟩ := rounds (N0_pos (k := 0) (by decide))
  have := h k
  rwa [← hk] at this

theorem decR_ok : Dec (bodyD 512) := ⟨fun h => bodyD_of h, fun r hI h0 hl => bodyD_body hI h0 hl (by omega) r, fun r => rfl⟩

/-- Behind the head: what decode goes on with. -/
theorem dec_k (N : Nat) (G : Nat → List V → Ans) {x n f e : Int} {a1 a2 : Nat} (h1 : G 2 [.agg [.sl 1 (byV b), .int .i64 0, .int .i64 0]] = some ([.int .i64 x], [RF b a1 e])) (h2 : G 0 [RF b a1 e, .int .i64 512] = some ([.int .i64 n], [RF b a2 f])) :
    (x = 1 → Rflagstoneref31_decode N G [.agg [.sl 1 (byV b), .int .i64 0, .int .i64 0]] = Lflagstoneref31_decode_1 N G N n 0 (byV b) a2 f []) ∧
    (x = 2 → Rflagstoneref31_decode N G [.agg [.sl 1 (byV b), .int .i64 0, .int .i64 0]] = Lflagstoneref31_decode_3 N G N n (byV b) a2 f []) ∧
    (x = 3 → Rflagstoneref31_decode N G [.agg [.sl 1 (byV b), .int .i64 0, .int .i64 0]] = Lflagstoneref31_decode_7 N G N n 0 (byV b) a2 f []) ∧
    (x = 4 → ∀ (m e' : Int) (a3 : Nat), G 0 [RF b a2 f, .int .i64 512] = some ([.int .i64 m], [RF b a3 e']) → Rflagstoneref31_decode N G [.agg [.sl 1 (byV b), .int .i64 0, .int .i64 0]] = Lflagstoneref31_decode_9 N G N n m 0 (byV b) a3 e' []) ∧
    (¬ (1 ≤ x ∧ x ≤ 5) → ∀ (a3 : Nat) (e' : Int), G 1 [RF b a2 f, .int .i64 1] = some ([], [RF b a3 e']) → Rflagstoneref31_decode N G [.agg [.sl 1 (byV b), .int .i64 0, .int .i64 0]] = some ([.sl 1 []], [RF b a3 e'])) := by
  refine ⟨fun h => ?_, fun h => ?_, fun h => ?_, fun h m e' a3 h3 => ?_, fun h a3 e' h3 => ?_⟩
  · subst h
    have q1 : ((1 : Int) == 1) = true := rfl
    rw [Rflagstoneref31_decode_eq]
    simp only [n_bind, n_get0, n_get1, n_get2, n_len0, n_len1, n_len2, n_len3, n_ct, n_cf, n_int, n_bool, n_sl, n_agg, and_self, if_true, h1, h2, q1]
  · subst h
    have q1 : ((2 : Int) == 1) = false := rfl
    have q2 : ((2 : Int) == 2) = true := rfl
    rw [Rflagstoneref31_decode_eq]
    simp only [n_bind, n_get0, n_get1, n_get2, n_len0, n_len1, n_len2, n_len3, n_ct, n_cf, n_int, n_bool, n_sl, n_agg, and_self, if_true, h1, h2, q1, q2]
  · subst h
    have q1 : ((3 : Int) == 1) = false := rfl
    have q2 : ((3 : Int) == 2) = false := rfl
    have q3 : ((3 : Int) == 3) = true := rfl
    rw [Rflagstoneref31_decode_eq]
    simp only [n_bind, n_get0, n_get1, n_get2, n_len0, n_len1, n_len2, n_len3, n_ct, n_cf, n_int, n_bool, n_sl, n_agg, and_self, if_true, h1, h2, q1, q2, q3]
  · subst h
    have q1 : ((4 : Int) == 1) = false := rfl
    have q2 : ((4 : Int) == 2) = false := rfl
    have q3 : ((4 : Int) == 3) = false := rfl
    have q4 : ((4 : Int) == 4) = true := rfl
    rw [Rflagstoneref31_decode_eq]
    simp only [n_bind, n_get0, n_get1, n_get2, n_len0, n_len1, n_len2, n_len3, n_ct, n_cf, n_int, n_bool, n_sl, n_agg, and_self, if_true, h1, h2, h3, q1, q2, q3, q4]
  · have k1 : (x == 1) = false := by simp; omega
    have k2 : (x == 2) = false := by simp; omega
    have k3 : (x == 3) = false := by simp; omega
    have k4 : (x == 4) = false := by simp; omega
    have k5 : (x == 5) = false := by simp; omega
    rw [Rflagstoneref31_decode_eq]
    simp only [n_bind, n_get0, n_get1, n_get2, n_len0, n_len1, n_len2, n_len3, n_ct, n_cf, n_int, n_bool, n_sl, n_agg, and_self, if_true, h1, h2, h3, k1, k2, k3, k4, k5]
theorem dec_k5 (N : Nat) (G : Nat → List V → Ans) {n f e least w e3 e4 : Int} {a1 a2 a3 a4 : Nat} (h1 : G 2 [.agg [.sl 1 (byV b), .int .i64 0, .int .i64 0]] = some ([.int .i64 5], [RF b a1 e])) (h2 : G 0 [RF b a1 e, .int .i64 512] = some ([.int .i64 n], [RF b a2 f]))
    (h3 : G 2 [RF b a2 f] = some ([.int .i64 least], [RF b a3 e3])) (h4 : G 2 [RF b a3 e3] = some ([.int .i64 w], [RF b a4 e4])) (hF : ∀ e f, G 1 [RF b a4 e, .int .i64 f] = some ([], [RF b a4 (if e = 0 then f else e)])) :
    Rflagstoneref31_decode N G [.agg [.sl 1 (byV b), .int .i64 0, .int .i64 0]] = if w < 0 ∨ 64 < w ∨ e4 ≠ 0 ∨ IntKind.i64.wrap ((b.length : Int) - (a4 : Int)) < IntKind.i64.wrap ((IntKind.i64.wrap (IntKind.i64.wrap (n * w) + 7)).tdiv 8) then some ([.sl 1 []], [RF b a4 (if e4 = 0 then 1 else e4)])
      else Lflagstoneref31_decode_13 N G N n least w (IntKind.i64.wrap ((IntKind.i64.wrap (IntKind.i64.wrap (n * w) + 7)).tdiv 8)) 0 (byV b) a4 e4 [] := by
  have q1 : ((5 : Int) == 1) = false := rfl
  have q2 : ((5 : Int) == 2) = false := rfl
  have q3 : ((5 : Int) == 3) = false := rfl
  have q4 : ((5 : Int) == 4) = false := rfl
  have q5 : ((5 : Int) == 5) = true := rfl
  rw [Rflagstoneref31_decode_eq]
  by_cases c1 : w < 0
  · rw [if_pos (.inl c1)]
    simp only [n_bind, n_get0, n_get1, n_get2, n_len0, n_len1, n_len2, n_len3, n_ct, n_cf, n_int, n_bool, n_sl, n_agg, and_self, if_true, n_ne0, n_gt, byV_length, h1, h2, h3, h4, hF, q1, q2, q3, q4, q5, c1, decide_false, decide_true, if_false, decide_eq_true c1]
  · by_cases c2 : 64 < w
    · rw [if_pos (.inr (.inl c2))]
      simp only [n_bind, n_get0, n_get1, n_get2, n_len0, n_len1, n_len2, n_len3, n_ct, n_cf, n_int, n_bool, n_sl, n_agg, and_self, if_true, n_ne0, n_gt, byV_length, h1, h2, h3, h4, hF, q1, q2, q3, q4, q5, c1, decide_false, decide_true, if_false, c2]
    · by_cases c3 : e4 = 0
      · subst c3
        by_cases c4 : IntKind.i64.wrap ((b.length : Int) - (a4 : Int)) < IntKind.i64.wrap ((IntKind.i64.wrap (IntKind.i64.wrap (n * w) + 7)).tdiv 8)
        · rw [if_pos (.inr (.inr (.inr c4)))]
          simp only [n_bind, n_get0, n_get1, n_get2, n_len0, n_len1, n_len2, n_len3, n_ct, n_cf, n_int, n_bool, n_sl, n_agg, and_self, if_true, n_ne0, n_gt, byV_length, h1, h2, h3, h4, hF, q1, q2, q3, q4, q5, c1, decide_false, decide_true, if_false, c2, c4]
        · rw [if_neg (by simp only [not_or]; exact ⟨c1, c2, by simp, c4⟩)]
          simp only [n_bind, n_get0, n_get1, n_get2, n_len0, n_len1, n_len2, n_len3, n_ct, n_cf, n_int, n_bool, n_sl, n_agg, and_self, if_true, n_ne0, n_gt, byV_length, h1, h2, h3, h4, hF, q1, q2, q3, q4, q5, c1, decide_false, decide_true, if_false, c2, c4]
      · rw [if_pos (.inr (.inr (.inl c3)))]
        have hz : (e4 != 0) = true := by simpa using c3
        simp only [n_bind, n_get0, n_get1, n_get2, n_len0, n_len1, n_len2, n_len3, n_ct, n_cf, n_int, n_bool, n_sl, n_agg, and_self, if_true, n_ne0, n_gt, byV_length, h1, h2, h3, h4, hF, q1, q2, q3, q4, q5, c1, decide_false, decide_true, if_false, c2, c3, hz]

theorem dec9_zero {n : Nat} {f : Int} (hf : f ≠ 0) : Lflagstoneref31_decode_9 N0 flagstoneref31_decode_G N0 n (0 : Nat) (0 : Nat) (byV b) a f (intV []) = some ([.sl 1 (intV [])], [RF b a f]) := by
  have l11 := N0_succ (p := fun k => Lflagstoneref31_decode_11 N0 flagstoneref31_decode_G k n 0 (byV b) a f [] (intV []) = some ([.sl 1 (intV [])], [RF b a f])) fun k => dec11_bad N0 flagstoneref31_decode_G hf k []
  exact N0_succ (p := fun k => Lflagstoneref31_decode_9 N0 flagstoneref31_decode_G k n (0 : Nat) (0 : Nat) (byV b) a f (intV []) = some ([.sl 1 (intV [])], [RF b a f])) fun k => (dec9_end ..).trans l11
theorem dec1_zero {f : Int} : Lflagstoneref31_decode_1 N0 flagstoneref31_decode_G N0 (0 : Nat) (0 : Nat) (byV b) a f (intV []) = some ([.sl 1 (intV [])], [RF b a f]) :=
  N0_succ (p := fun k => Lflagstoneref31_decode_1 N0 flagstoneref31_decode_G k (0 : Nat) (0 : Nat) (byV b) a f (intV []) = some ([.sl 1 (intV [])], [RF b a f])) fun k => dec1_end ..
theorem dec3_zero {f : Int} (hf : f ≠ 0) : Lflagstoneref31_decode_3 N0 flagstoneref31_decode_G N0 (0 : Nat) (byV b) a f (intV []) = some ([.sl 1 (intV [])], [RF b a f]) :=
  N0_succ (p := fun k => Lflagstoneref31_decode_3 N0 flagstoneref31_decode_G k (0 : Nat) (byV b) a f (intV []) = some ([.sl 1 (intV [])], [RF b a f])) fun k => dec3_bad N0 flagstoneref31_decode_G hf k []
theorem dec7_zero {f : Int} : Lflagstoneref31_decode_7 N0 flagstoneref31_decode_G N0 (0 : Nat) (0 : Nat) (byV b) a f (intV []) = some ([.sl 1 (intV [])], [RF b a f]) :=
  N0_succ (p := fun k => Lflagstoneref31_decode_7 N0 flagstoneref31_decode_G k (0 : Nat) (0 : Nat) (byV b) a f (intV []) = some ([.sl 1 (intV [])], [RF b a f])) fun k => dec7_end ..

end Go.Proofs.YtdhdhcllgkddnaaGreat.Va

namespace Go.Proofs.YtdhdhcllgkddnaaGreat.Va
open Go Go.RowKit

variable {b : List UInt8} {a : Nat}

theorem flagstoneref31_decode_eq' (hb : b.length ≤ 1000000) : ResR b (flagstoneref31_decode [.agg [.sl 1 (byV b), .int .i64 0, .int .i64 0]]) (valD (bodyD 512) b) := by
  have hb' : b.length ≤ 100000000000000 := by omega
  have hF : ∀ (a : Nat) (e f : Int), flagstoneref31_decode_G 1 [RF b a e, .int .i64 f] = some ([], [RF b a (if e = 0 then f else e)]) := fun a => r_fail
  have hd0 : b.drop 0 = b := List.drop_zero
  unfold flagstoneref31_decode
  -- an error in the head
  have bad : ∀ {x e f : Int} {a1 a2 : Nat}, flagstoneref4_Reader_Number [RF b 0 0] = some ([.int .i64 x], [RF b a1 e]) → flagstoneref4_Reader_Count [RF b a1 e, .int .i64 512] = some ([.int .i64 0], [RF b a2 f]) → f ≠ 0 → a2 ≤ b.length →
      ResR b (Rflagstoneref31_decode N0 flagstoneref31_decode_G [.agg [.sl 1 (byV b), .int .i64 0, .int .i64 0]]) none := by
    intro x e f a1 a2 h1 h2 hf ha2
    have h1 : flagstoneref31_decode_G 2 [.agg [.sl 1 (byV b), .int .i64 0, .int .i64 0]] = some ([.int .i64 x], [RF b a1 e]) := h1
    have h2 : flagstoneref31_decode_G 0 [RF b a1 e, .int .i64 512] = _ := h2
    have h3 : flagstoneref31_decode_G 0 [RF b a2 f, .int .i64 512] = _ := r_count_err hb' ha2 hf
    have h4 : flagstoneref31_decode_G 2 [RF b a2 f] = _ := r_num_err hb' ha2 hf
    obtain ⟨k1, k2, k3, k4, k6⟩ := dec_k N0 flagstoneref31_decode_G h1 h2
    refine ⟨[], a2, f, hf, ?_⟩
    by_cases c1 : x = 1
    · rw [k1 c1]; exact dec1_zero
    · by_cases c2 : x = 2
      · rw [k2 c2]; exact dec3_zero hf
      · by_cases c3 : x = 3
        · rw [k3 c3]; exact dec7_zero
        · by_cases c4 : x = 4
          · rw [k4 c4 0 f a2 h3]; exact dec9_zero (n := 0) hf
          · by_cases c5 : x = 5
            · subst c5
              rw [dec_k5 N0 flagstoneref31_decode_G h1 h2 h4 h4 (hF a2), if_pos (.inr (.inr (.inl hf))), if_neg hf]
              rfl
            · have := hF a2 f 1
              rw [if_neg hf] at this
              rw [k6 (by omega) a2 f this]
              rfl
  unfold valD headD
  cases hx : num1 b with
  | none =>
    obtain ⟨e, he, h1⟩ := r_num_none hb' (Nat.zero_le _) (hd0.symm ▸ hx)
    exact bad h1 (r_count_err hb' (Nat.zero_le _) he) he (Nat.zero_le _)
  | some p =>
    obtain ⟨x, r⟩ := p
    obtain ⟨a1, g1, g2, h1⟩ := r_num_some hb' (Nat.zero_le _) (hd0.symm ▸ hx)
    simp only
    rw [← g2]
    cases hc : cnt1 512 (b.drop a1) with
    | none =>
      obtain ⟨f, a2, hf, ha2, h2⟩ := r_count_none hb' g1 hc
      exact bad h1 h2 hf ha2
    | some p =>
      obtain ⟨n, q⟩ := p
      obtain ⟨_, _, hn0, hn⟩ := countS_some hc
      obtain ⟨a2, g3, g4, h2⟩ := r_count_some hb' g1 hc
      obtain ⟨n, rfl⟩ : ∃ n' : Nat, n = (n' : Int) := ⟨n.toNat, by omega⟩
      simp only [n_toNat]
      have h1 : flagstoneref31_decode_G 2 [.agg [.sl 1 (byV b), .int .i64 0, .int .i64 0]] = some ([.int .i64 x], [RF b a1 0]) := h1
      have h2 : flagstoneref31_decode_G 0 [RF b a1 0, .int .i64 512] = _ := h2
      obtain ⟨k1, k2, k3, k4, k6⟩ := dec_k N0 flagstoneref31_decode_G h1 h2
      have hn' : n ≤ 1000000 := by omega
      by_cases hk : 1 ≤ x ∧ x ≤ 5
      · rw [if_pos hk]
        simp only
        rw [← g4]
        rcases (by omega : x = 1 ∨ x = 2 ∨ x = 3 ∨ x = 4 ∨ x = 5) with c | c | c | c | c
        · have e4 : bodyD 512 x.toNat n (b.drop a2) = (numsD n (b.drop a2)).map fun p => [] ++ p.1 := by subst c; simp [bodyD]
          rw [k1 c, e4]
          exact dec1_loop hb' hn' n 0 N0 a2 [] g3 (by omega) rfl (N0_pos (by omega))
        · have e4 : bodyD 512 x.toNat n (b.drop a2) = (runsD n (b.drop a2)).map fun p => [] ++ p := by subst c; simp [bodyD]
          rw [k2 c, e4]
          exact dec3_loop hb' hn' n n N0 a2 [] g3 (Nat.le_refl _) (by simp) (N0_pos (by omega))
        · have e4 : bodyD 512 x.toNat n (b.drop a2) = (numsD n (b.drop a2)).map fun q => [] ++ sumsL 0 q.1 := by subst c; simp [bodyD, stepsD]
          rw [k3 c, e4]
          exact dec7_loop hb' hn' n 0 N0 a2 [] 0 g3 (by omega) rfl (N0_pos (by omega)) (fun x => by simp [nextS]) (fun _ => rfl)
        · have e4 : bodyD 512 x.toNat n (b.drop a2) = indexD 512 n (b.drop a2) := by subst c; simp [bodyD]
          rw [e4]
          cases hc2 : cnt1 512 (b.drop a2) with
          | none =>
            obtain ⟨f, a3, hf, ha3, h3⟩ := r_count_none hb' g3 hc2
            have h3 : flagstoneref31_decode_G 0 [RF b a2 0, .int .i64 512] = _ := h3
            have hi : indexD 512 n (b.drop a2) = none := indexD_none (most := 512) hc2
            rw [hi, k4 c 0 f a3 h3]
            exact ⟨[], a3, f, hf, dec9_zero hf⟩
          | some p =>
            obtain ⟨m, q2⟩ := p
            obtain ⟨_, i1, i2, i3⟩ := countS_some hc2
            obtain ⟨a3, g5, g6, h3⟩ := r_count_some hb' g3 hc2
            have h3 : flagstoneref31_decode_G 0 [RF b a2 0, .int .i64 512] = _ := h3
            obtain ⟨m, rfl⟩ : ∃ m' : Nat, m = (m' : Int) := ⟨m.toNat, by omega⟩
            have w := dec9_loop (n := n) (K := m) hb' hn' (by omega) m 0 N0 a3 [] g5 (by omega) rfl (N0_pos (by omega))
            have hi := indexD_some (most := 512) (n := n) hc2
            rw [n_toNat, ← g6] at hi
            rw [hi, k4 c m 0 a3 h3]
            exact w
        · have e4 : bodyD 512 x.toNat n (b.drop a2) = bitsD n (b.drop a2) := by subst c; simp [bodyD]
          rw [e4]
          subst c
          unfold bitsD
          cases hx2 : num1 (b.drop a2) with
          | none =>
            obtain ⟨f, hf, h3⟩ := r_num_none hb' g3 hx2
            have h3 : flagstoneref31_decode_G 2 [RF b a2 0] = _ := h3
            have h4 : flagstoneref31_decode_G 2 [RF b a2 f] = _ := r_num_err hb' g3 hf
            rw [dec_k5 N0 flagstoneref31_decode_G h1 h2 h3 h4 (hF a2), if_pos (.inr (.inr (.inl hf))), if_neg hf]
            exact ⟨[], a2, f, hf, rfl⟩
          | some p =>
            obtain ⟨least, r2⟩ := p
            obtain ⟨a3, g5, g6, h3⟩ := r_num_some hb' g3 hx2
            have h3 : flagstoneref31_decode_G 2 [RF b a2 0] = _ := h3
            simp only
            rw [← g6]
            cases hx3 : num1 (b.drop a3) with
            | none =>
              obtain ⟨f, hf, h4⟩ := r_num_none hb' g5 hx3
              have h4 : flagstoneref31_decode_G 2 [RF b a3 0] = _ := h4
              rw [dec_k5 N0 flagstoneref31_decode_G h1 h2 h3 h4 (hF a3), if_pos (.inr (.inr (.inl hf))), if_neg hf]
              exact ⟨[], a3, f, hf, rfl⟩
            | some p =>
              obtain ⟨w, q3⟩ := p
              obtain ⟨a4, g7, g8, h4⟩ := r_num_some hb' g5 hx3
              have h4 : flagstoneref31_decode_G 2 [RF b a3 0] = _ := h4
              simp only
              rw [dec_k5 N0 flagstoneref31_decode_G h1 h2 h3 h4 (hF a4)]
              by_cases hw : 0 ≤ w ∧ w ≤ 64
              · rw [if_pos hw, ← g8]
                obtain ⟨w, rfl⟩ : ∃ w' : Nat, w = (w' : Int) := ⟨w.toNat, by omega⟩
                rw [Int.toNat_natCast]
                have hsz := size_wrap (n := n) (w := w) hn' (by omega)
                have hsub : IntKind.i64.wrap ((b.length : Int) - (a4 : Int)) = (((b.drop a4).length : Nat) : Int) := by rw [List.length_drop, wrap_i64 (by omega) (by omega)]; omega
                rw [hsz, hsub]
                by_cases hlt : (b.drop a4).length < (n * w + 7) / 8
                · rw [if_pos hlt, if_pos (.inr (.inr (.inr (by omega)))), if_pos rfl]
                  exact ⟨[], a4, 1, by decide, rfl⟩
                · rw [if_neg hlt, if_neg (by omega)]
                  have hsz2 : (n * w + 7) / 8 ≤ 100000000 := by
                    have : n * w ≤ 1000000 * 64 := Nat.mul_le_mul hn' (by omega)
                    omega
                  exact ⟨_, dec13_loop (b := b) (a := a4) (least := least) (sz := (n * w + 7) / 8) hn' (by omega : w ≤ 64) hb' g7 (by omega) hsz2 n 0 N0 (by omega) (N0_pos (by omega))⟩
              · rw [if_neg hw, if_pos (by omega), if_pos rfl]
                exact ⟨[], a4, 1, by decide, rfl⟩
      · rw [if_neg hk]
        have := hF a2 0 1
        rw [if_pos rfl] at this
        rw [k6 hk a2 1 this]
        exact ⟨[], a2, 1, by decide, rfl⟩

theorem flagstoneref31_begins_eq' (b p : List UInt8) : flagstoneref31_begins [.sl 1 (byV b), .sl 1 (byV p)] = some ([.bool (decide (p <+: b))], []) := by
  unfold flagstoneref31_begins
  rw [Rflagstoneref31_begins_eq]
  by_cases h : p.length ≤ b.length
  · have e : decide (p <+: b) = (b.take p.length == p) := by
      by_cases h2 : b.take p.length = p
      · rw [decide_eq_true (pre_take.2 ⟨h, h2⟩)]; simp [h2]
      · rw [decide_eq_false fun h3 => h2 (pre_take.1 h3).2]
        simpa using h2
    rw [e]
    simp only [asSl_sl, Option.bind_some, byV_length, decide_eq_true (show (b.length : Int) ≥ (p.length : Int) by omega), cond_true, Int.toNat_natCast, byV_take, List.drop_zero, isU8_byV, byte_byV, mk_toList, Int.toNat_zero]
    rw [if_pos (by omega)]
    simp
  · have e : decide (p <+: b) = false := decide_eq_false fun h3 => h (pre_take.1 h3).1
    rw [e]
    simp only [asSl_sl, Option.bind_some, byV_length, decide_eq_false (show ¬ (b.length : Int) ≥ (p.length : Int) by omega), cond_false]

theorem flagstoneref31_ReadInts_eq' (hb : b.length ≤ 1000000) : flagstoneref31_ReadInts [.sl 1 (byV b)] = ansI (rdI (bodyD 512) b) := by
  have a3 : flagstoneref31_ReadInts_G 3 [.sl 1 (byV b)] = some ([.agg [.sl 1 (byV b), .int .i64 0, .int .i64 0]], []) := ref4_New_eq' b
  have w := flagstoneref31_decode_eq' hb
  unfold rdI
  unfold flagstoneref31_ReadInts
  rw [Rflagstoneref31_ReadInts_eq]
  cases hv : valD (bodyD 512) b with
  | none =>
    rw [hv] at w
    obtain ⟨l, a, e, he, h⟩ := w
    have h : flagstoneref31_ReadInts_G 2 [.agg [.sl 1 (byV b), .int .i64 0, .int .i64 0]] = _ := h
    have hz : (e != 0) = true := by simpa using he
    simp only [n_bind, n_get0, n_get1, n_get2, n_len0, n_len1, n_len2, n_len3, n_ct, n_cf, n_int, n_bool, n_sl, n_agg, and_self, if_true, a3, h, hz, ansI, n_nili]
  | some l =>
    rw [hv] at w
    obtain ⟨a, h⟩ := w
    have h : flagstoneref31_ReadInts_G 2 [.agg [.sl 1 (byV b), .int .i64 0, .int .i64 0]] = _ := h
    have hl : l.length ≤ 512 ∧ ∀ x ∈ l, I64 x := by
      unfold valD at hv
      split at hv
      · cases hv
      · rename_i k n q hh
        obtain ⟨h1, h2⟩ := bodyD_of hv
        exact ⟨by rw [h1]; exact (headD_of hh).2.2.1, h2⟩
    have a0 : flagstoneref31_ReadInts_G 0 [.sl 1 (intV l)] = some ([.sl 1 (byV (intsB l))], []) := flagstoneref31_Ints_eq' hl.2 (by omega)
    have a1 : flagstoneref31_ReadInts_G 1 [.sl 1 (byV b), .sl 1 (byV (intsB l))] = _ := flagstoneref31_begins_eq' b (intsB l)
    by_cases hp : intsB l <+: b
    · simp only [n_bind, n_get0, n_get1, n_get2, n_len0, n_len1, n_len2, n_len3, n_ct, n_cf, n_int, n_bool, n_sl, n_agg, and_self, if_true, a3, h, n_ne0, n_drop0, List.take_length, a0, a1, hp, decide_true, n_nt, ansI, bare_intV, byV_length, Nat.le_refl]
    · simp only [n_bind, n_get0, n_get1, n_get2, n_len0, n_len1, n_len2, n_len3, n_ct, n_cf, n_int, n_bool, n_sl, n_agg, and_self, if_true, a3, h, n_ne0, n_drop0, List.take_length, a0, a1, hp, decide_false, if_false, n_nf, ansI, n_nili]

end Go.Proofs.YtdhdhcllgkddnaaGreat.Va

namespace Go.Proofs.YtdhdhcllgkddnaaGreat.Va
open Go Go.RowKit

theorem u8_byV {c : Int} (h : 0 ≤ c ∧ c < 256) : V.int .u8 c = V.int .u8 ((UInt8.ofNat c.toNat).toNat : Int) := by
  rw [u8_small (by omega)]
  congr 1
  omega
theorem byV_set (b : List UInt8) (k : Nat) (x : UInt8) : (byV b).set k (.int .u8 (x.toNat : Int)) = byV (b.set k x) := by simp [byV, List.map_set]
theorem byV_one (x : UInt8) : [V.int .u8 (x.toNat : Int)] = byV [x] := rfl
theorem spoil_join {b : List UInt8} (hb : b.length ≤ 1000000) {k : Nat} (hk : k ≤ b.length) (hk2 : 0 < b.length → k < b.length) {how c : Int} (hc : 0 ≤ c ∧ c < 256) :
    ∃ o : List UInt8, Jflagstonedata_Spoil_5 N0 flagstonedata_Spoil_G (byV b) how c k (byV b) = some ([.sl 1 (byV o)], []) ∧ o.length ≤ b.length + 1 := by
  rw [Jflagstonedata_Spoil_5_eq, u8_byV hc]
  generalize UInt8.ofNat c.toNat = x
  have r0 : ∀ n, n ≤ 10000000 → room n 1 := fun n h => room1 (by omega)
  by_cases h0 : how.tmod 5 = 0
  · simp only [show (how.tmod 5 == 0) = true by simpa using h0, n_ct]
    by_cases hp : 0 < b.length
    · have hk3 := hk2 hp
      refine ⟨b.set k x, ?_, by simp⟩
      simp only [byV_length, decide_eq_true (show ((b.length : Int) > 0) by omega), n_ct, Nat.zero_add, n_toNat, byV_get hk3, n_bind, n_cells, n_len1, setCells_int, byV_set, List.length_set, bare_byV, List.take_of_length_le (show (byV (b.set k x)).length ≤ b.length by simp)]
      rw [if_pos (by omega)]
      simp
    · refine ⟨b, ?_, by omega⟩
      simp only [byV_length, decide_eq_false (show ¬ ((b.length : Int) > 0) by omega), n_cf]
      simp [-List.all_eq_true]
  · simp only [show (how.tmod 5 == 0) = false by simpa using h0, n_cf]
    have hle : 0 ≤ (0 : Int) ∧ 0 ≤ (k : Int) ∧ (k : Int) ≤ (b.length : Int) := by omega
    have hle2 : 0 ≤ (k : Int) ∧ (k : Int) ≤ (b.length : Int) ∧ (b.length : Int) ≤ (b.length : Int) := by omega
    by_cases h1 : how.tmod 5 = 1
    · simp only [show (how.tmod 5 == 1) = true by simpa using h1, n_ct]
      refine ⟨b.take k ++ [x] ++ b.drop k, ?_, by simp; omega⟩
      simp only [byV_length, n_toNat, n_toNat0, n_drop0, n_napp, byV_take, byV_drop, byV_one, ← byV_append, bare_byV, if_pos hle, if_pos hle2, List.take_length, if_true, and_self, Nat.zero_add, Nat.le_refl]
      rw [if_pos (r0 _ (by simp; omega)), if_pos (r0 _ (by simp; omega)), if_pos (r0 _ (by simp; omega))]
    · simp only [show (how.tmod 5 == 1) = false by simpa using h1, n_cf]
      by_cases h2 : how.tmod 5 = 2
      · simp only [show (how.tmod 5 == 2) = true by simpa using h2, n_ct]
        by_cases hp : 0 < b.length
        · have hk3 := hk2 hp
          have hle3 : 0 ≤ ((k + 1 : Nat) : Int) ∧ ((k + 1 : Nat) : Int) ≤ (b.length : Int) ∧ (b.length : Int) ≤ (b.length : Int) := by omega
          refine ⟨b.take k ++ b.drop (k + 1), ?_, by simp; omega⟩
          simp only [byV_length, decide_eq_true (show ((b.length : Int) > 0) by omega), n_ct, succ_wrap (i := k) (by omega), n_toNat, n_toNat0, n_drop0, n_napp, byV_take, byV_drop, ← byV_append, bare_byV, if_pos hle, if_pos hle3, List.take_length, if_true, and_self, Nat.zero_add, Nat.le_refl]
          rw [if_pos (r0 _ (by simp; omega)), if_pos (r0 _ (by simp; omega))]
        · refine ⟨b, ?_, by omega⟩
          simp only [byV_length, decide_eq_false (show ¬ ((b.length : Int) > 0) by omega), n_cf]
          simp [-List.all_eq_true]
      · simp only [show (how.tmod 5 == 2) = false by simpa using h2, n_cf]
        by_cases h3 : how.tmod 5 = 3
        · simp only [show (how.tmod 5 == 3) = true by simpa using h3, n_ct]
          refine ⟨b.take k, ?_, by simp; omega⟩
          simp only [byV_length, if_pos hle, Int.sub_zero, n_toNat, byV_take, bare_byV, if_true, true_and, if_pos hk]
        · simp only [show (how.tmod 5 == 3) = false by simpa using h3, n_cf]
          refine ⟨b, ?_, by omega⟩
          simp [-List.all_eq_true]
theorem flagstonedata_Spoil_eq' {b : List UInt8} (hb : b.length ≤ 1000000) {at_ how c : Int} (ha : 0 ≤ at_ ∧ at_ < 65536) (hc : 0 ≤ c ∧ c < 256) :
    ∃ o : List UInt8, flagstonedata_Spoil [.sl 1 (byV b), .int .u16 at_, .int .u16 how, .int .u8 c] = some ([.sl 1 (byV o)], []) ∧ o.length ≤ b.length + 1 := by
  unfold flagstonedata_Spoil
  rw [Rflagstonedata_Spoil_eq]
  have r0 : room b.length 1 := room1 (by omega)
  have hw : IntKind.i64.wrap at_ = at_ := wrap_i64 (by omega) (by omega)
  by_cases hp : 0 < b.length
  · have e : at_.tmod (b.length : Int) = ((at_.toNat % b.length : Nat) : Int) := by
      rw [show at_ = ((at_.toNat : Nat) : Int) by omega, ← Int.ofNat_tmod]
      simp
    have hlt := Nat.mod_lt at_.toNat hp
    obtain ⟨o, h1, h2⟩ := spoil_join hb (k := at_.toNat % b.length) (by omega) (fun _ => hlt) (how := how) hc
    refine ⟨o, ?_, h2⟩
    simp only [n_sl, n_int, n_bind, n_napp, byV_length, Nat.zero_add, decide_eq_true (show ((b.length : Int) > 0) by omega), n_ct, hw, e]
    rw [if_pos r0, if_pos (by omega)]
    exact h1
  · obtain ⟨o, h1, h2⟩ := spoil_join hb (k := 0) (by omega) (fun h => absurd h hp) (how := how) hc
    refine ⟨o, ?_, h2⟩
    simp only [n_sl, n_int, n_bind, n_napp, byV_length, Nat.zero_add, decide_eq_false (show ¬ ((b.length : Int) > 0) by omega), n_cf]
    rw [if_pos r0]
    exact h1

end Go.Proofs.YtdhdhcllgkddnaaGreat.Va
