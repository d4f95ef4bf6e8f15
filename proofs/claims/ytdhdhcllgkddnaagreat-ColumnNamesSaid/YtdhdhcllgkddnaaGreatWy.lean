/-
  Laws of functions: texts.
-/
import Derived.Test.YtdhdhcllgkddnaaGreatWx
import Derived.Test.YtdhdhcllgkddnaaGreatWt
import Derived.Sort.Walk0
namespace Go.Proofs.YtdhdhcllgkddnaaGreat.Va
open Go Go.RowKit

@[simp] theorem str_tx (s : Str) : V.str ⟨s.toArray⟩ = tx s := rfl
@[simp] theorem toList_tx (s : Str) : (ByteArray.mk s.toArray).toList = s := mk_toList s
@[simp] theorem size_tx (s : Str) : (ByteArray.mk s.toArray).size = s.length := by simp [ByteArray.size]
theorem strV_tx (s : Str) : strV ⟨s.toArray⟩ = byV s := by simp [strV, byV]
@[simp] theorem txV_getElem {l : List Str} {i : Nat} (h : i < (txV l).length) : (txV l)[i]'h = tx (l[i]'(by simpa using h)) := by simp [txV]
@[simp] theorem bare_txV' (b : List Str) : (txV b).all V.bare = true := bare_txV b
@[simp] theorem setCells_tx (x : Str) (y : V) : (tx x).setCells 0 [y] = y := rfl
@[simp] theorem bare_tx (x : Str) : (tx x).bare = true := rfl
theorem txV_rep (n : Nat) : List.replicate n (tx []) = txV (List.replicate n []) := by simp [txV]
theorem txV_app (a b : List Str) : txV a ++ txV b = txV (a ++ b) := (txV_append a b).symm

theorem cmp_Less_string_eq' (a b : Str) : cmp_Less_string [tx a, tx b] = some ([.bool (decide (a < b))], []) := by
  have h1 : cmp_Less_string_G 0 [tx a] = some ([.bool false], []) := by
    show cmp_isNaN_string [tx a] = _
    unfold cmp_isNaN_string
    rw [Rcmp_isNaN_string_eq]
    simp
  unfold cmp_Less_string
  rw [Rcmp_Less_string_eq]
  simp [h1, bytesLess_eq]
theorem slices_isNaN_string_eq' (a : Str) : slices_isNaN_string [tx a] = some ([.bool false], []) := by
  unfold slices_isNaN_string
  rw [Rslices_isNaN_string_eq]
  simp

theorem slices_BinarySearchS_loop {s : List Str} {v : Str} (hs : AscS s) (hl : s.length ≤ 1000000) : ∀ (d i j : Nat) (k : Nat), j - i ≤ d → i ≤ posS v s → posS v s ≤ j → j ≤ s.length → d < k →
    ∃ b, Lslices_BinarySearch_sstring_string_0 N0 slices_BinarySearch_sstring_string_G k (txV s) ⟨v.toArray⟩ s.length i j = some ([.int .i64 (posS v s), .bool b], []) := by
  intro d
  have g0 : ∀ a, slices_BinarySearch_sstring_string_G 0 [tx a, tx v] = some ([.bool (decide (a < v))], []) := fun a => cmp_Less_string_eq' a v
  have g1 : ∀ a, slices_BinarySearch_sstring_string_G 1 [tx a] = some ([.bool false], []) := fun a => slices_isNaN_string_eq' a
  induction d with
  | zero =>
    intro i j k hd h1 h2 h3 hk
    obtain ⟨k, rfl, _⟩ := rounds hk
    have e : i = posS v s := by omega
    have e2 : j = i := by omega
    subst e2
    rw [Lslices_BinarySearch_sstring_string_0_eq]
    by_cases hi : j < s.length
    · by_cases hv : s[j] = v
      · exact ⟨true, by simp [hi, hv, ← e]⟩
      · have hvb : (s[j] == v) = false := by simpa using hv
        exact ⟨false, by simp [hi, hvb, g1, ← e]⟩
    · exact ⟨false, by simp [hi, ← e]⟩
  | succ d ih =>
    intro i j k hd h1 h2 h3 hk
    obtain ⟨k, rfl, hk⟩ := rounds hk
    by_cases hij : i < j
    · have hm : (i + j) / 2 < s.length := by omega
      have hmj : (i + j) / 2 < j := by omega
      have hmi : i ≤ (i + j) / 2 := by omega
      have hh := half (i := i) (j := j) (by omega)
      generalize (i + j) / 2 = m at *
      rw [Lslices_BinarySearch_sstring_string_0_eq]
      by_cases hlt : s[m] < v
      · have hp : m < posS v s := by
          rcases Nat.lt_or_ge m (posS v s) with h | h
          · exact h
          · exact absurd hlt (posS_ge hm hs h)
        obtain ⟨b, hb⟩ := ih (m + 1) j k (by omega) (by omega) h2 h3 (by omega)
        refine ⟨b, ?_⟩
        simp [hh, hij, hm, g0, hlt, wrap_succ (i := m) (by omega)]
        simpa using hb
      · have hp : posS v s ≤ m := by
          rcases Nat.lt_or_ge m (posS v s) with h | h
          · exact absurd (posS_lt hm h) hlt
          · exact h
        obtain ⟨b, hb⟩ := ih i m k (by omega) h1 hp (by omega) (by omega)
        refine ⟨b, ?_⟩
        simp [hh, hij, hm, g0, hlt]
        simpa using hb
    · obtain ⟨b, hb⟩ := ih i j (k + 1) (by omega) h1 h2 h3 (by omega)
      exact ⟨b, hb⟩

theorem slices_BinarySearch_sstring_string_eq' {s : List Str} {v : Str} (hs : AscS s) (hl : s.length ≤ 1000000) : ∃ b, slices_BinarySearch_sstring_string [.sl 1 (txV s), tx v] = some ([.int .i64 (posS v s), .bool b], []) := by
  obtain ⟨b, hb⟩ := slices_BinarySearchS_loop (v := v) hs hl s.length 0 s.length N0 (by omega) (by omega) (posS_le v s) (Nat.le_refl _) (N0_pos (by omega))
  refine ⟨b, ?_⟩
  unfold slices_BinarySearch_sstring_string
  rw [Rslices_BinarySearch_sstring_string_eq]
  simpa using hb

theorem slices_CompactS_loop2 {l : List Str} (hl : l.length ≤ 1000000) {k0 : Nat} (m : Nat) : ∀ (d q kk : Nat) (cur : List Str) (k : Nat), k0 + q + d = l.length → 1 ≤ q → cur.length = l.length → kk ≤ k0 + q - 1 →
    kk = (compS (l.take (k0 + q))).length → cur.take kk = compS (l.take (k0 + q)) → cur.drop (k0 + q - 1) = l.drop (k0 + q - 1) → d < k →
    Lslices_Compact_sstring_string_2 N0 slices_Compact_sstring_string_G k m 0 l.length kk k0 (l.length - k0) q (txV cur) = some ([.sl 1 (txV (compS l))], []) := by
  intro d
  induction d with
  | zero =>
    intro q kk cur k hd hq hcl hkk hlen htake hdrop hk
    obtain ⟨k, rfl, _⟩ := rounds hk
    have e : l.take (k0 + q) = l := List.take_of_length_le (by omega)
    rw [e] at htake hlen
    have h1 : ¬ q < l.length - k0 := by omega
    have h2 : kk ≤ l.length := by omega
    have h3 : ((l.length : Int) - (kk : Int)).toNat = l.length - kk := by omega
    have h4 : kk + (l.length - kk) ≤ cur.length := by omega
    rw [Lslices_Compact_sstring_string_2_eq]
    have h5 : min kk cur.length = kk := by omega
    simp only [txV_take, txV_drop, txV_rep, txV_app]
    simp [h1, h2, h3, h4, h5, -List.all_eq_true]
    exact ⟨by omega, by rw [htake]⟩
  | succ d ih =>
    intro q kk cur k hd hq hcl hkk hlen htake hdrop hk
    obtain ⟨k, rfl, hk⟩ := rounds hk
    have h1 : q < l.length - k0 := by omega
    have hp : k0 + q < l.length := by omega
    have hpc : k0 + q < cur.length := by omega
    have hc1 : cur[k0 + q] = l[k0 + q] := by
      have := congrArg (·[1]?) hdrop
      simp only [List.getElem?_drop] at this
      rw [show k0 + q - 1 + 1 = k0 + q by omega, List.getElem?_eq_getElem hpc, List.getElem?_eq_getElem hp] at this
      simpa using this
    have hc2 : cur[k0 + (q - 1)]'(by omega) = l[k0 + q - 1] := by
      have := congrArg (·[0]?) hdrop
      simp only [List.getElem?_drop, Nat.add_zero] at this
      rw [List.getElem?_eq_getElem (by omega), List.getElem?_eq_getElem (by omega)] at this
      simp only [Option.some.injEq] at this
      rw [← this]
      congr 1
      omega
    have h2 : q - 1 < l.length - k0 := by omega
    have h3 : k0 + (q - 1) < cur.length := by omega
    have hw := wrap_pred (i := q) hq (by omega)
    have hw2 := wrap_succ (i := q) (by omega)
    have hw3 := wrap_succ (i := kk) (by omega)
    have hT := compS_take (l := l) (p := k0 + q) hp (by omega)
    have hkl : kk < l.length := by omega
    have hkc : kk < cur.length := by omega
    have hdrop' : cur.drop (k0 + q) = l.drop (k0 + q) := by
      have := congrArg (List.drop 1) hdrop
      simpa [List.drop_drop, show 1 + (k0 + q - 1) = k0 + q by omega, show k0 + q - 1 + 1 = k0 + q by omega] using this
    by_cases he : l[k0 + q] = l[k0 + q - 1]
    · rw [if_pos he] at hT
      have := ih (q + 1) kk cur k (by omega) (by omega) hcl (by omega) (by rw [← Nat.add_assoc, hT]; exact hlen) (by rw [← Nat.add_assoc, hT]; exact htake) (by rw [show k0 + (q + 1) - 1 = k0 + q by omega]; exact hdrop') (by omega)
      rw [Lslices_Compact_sstring_string_2_eq]
      simp [h1, h2, h3, hpc, hw, hw2, hc1, hc2, he]
      simpa using this
    · rw [if_neg he] at hT
      have htake' : (cur.set kk l[k0 + q]).take (kk + 1) = compS (l.take (k0 + q)) ++ [l[k0 + q]] := by
        rw [take_succ (by simpa using hkc), List.take_set_of_le (Nat.le_refl _), htake]
        simp
      have := ih (q + 1) (kk + 1) (cur.set kk l[k0 + q]) k (by omega) (by omega) (by simpa using hcl) (by omega) (by rw [← Nat.add_assoc, hT]; simp [hlen]) (by rw [← Nat.add_assoc, hT]; exact htake')
        (by rw [show k0 + (q + 1) - 1 = k0 + q by omega, List.drop_set_of_lt (by omega)]; exact hdrop') (by omega)
      have hb : (l[k0 + q] == l[k0 + q - 1]) = false := by simpa using he
      rw [Lslices_Compact_sstring_string_2_eq]
      simp [h1, h2, h3, hpc, hw, hw2, hw3, hc1, hc2, hb, hkl, hkc, txV_set]
      simpa using this

theorem slices_CompactS_loop0 {l : List Str} (hl : l.length ≤ 1000000) : ∀ (d i : Nat) (k : Nat), i + d = l.length → 1 ≤ i → (∀ (j : Nat) (hj : j < l.length), 1 ≤ j → j < i → l[j] ≠ l[j - 1]) → d < k →
    Lslices_Compact_sstring_string_0 N0 slices_Compact_sstring_string_G k 0 l.length i (txV l) = some ([.sl 1 (txV (compS l))], []) := by
  intro d
  induction d with
  | zero =>
    intro i k hd hi hne hk
    obtain ⟨k, rfl, _⟩ := rounds hk
    have h1 : ¬ i < l.length := by omega
    have := compS_id (l := l) (p := l.length) (Nat.le_refl _) (fun j hj h2 h3 => hne j hj h2 (by omega))
    rw [List.take_length] at this
    rw [Lslices_Compact_sstring_string_0_eq]
    simp [h1, this, -List.all_eq_true]
    rw [txV_take, List.take_length]
  | succ d ih =>
    intro i k hd hi hne hk
    obtain ⟨k, rfl, hk⟩ := rounds hk
    have h1 : i < l.length := by omega
    have h2 : i - 1 < l.length := by omega
    have hw := wrap_pred (i := i) hi (by omega)
    have hw2 := wrap_succ (i := i) (by omega)
    rw [Lslices_Compact_sstring_string_0_eq]
    by_cases he : l[i] = l[i - 1]
    · have hid := compS_id (l := l) (p := i) (by omega) hne
      have hT := compS_take (l := l) (p := i) h1 hi
      rw [if_pos he, hid] at hT
      have := slices_CompactS_loop2 (l := l) hl (k0 := i) k d 1 i l N0 (by omega) (by omega) rfl (by omega) (by rw [hT]; simp; omega) hT.symm rfl (N0_pos (by omega))
      have h3 : ((l.length : Int) - (i : Int)).toNat = l.length - i := by omega
      have h4 : i ≤ l.length := by omega
      simp [h1, h2, hw, he, h3, h4]
      simpa using this
    · have := ih (i + 1) k (by omega) (by omega) (fun j hj h1 h2 => by
        rcases Nat.lt_or_ge j i with h | h
        · exact hne j hj h1 h
        · have : j = i := by omega
          subst this; exact he) (by omega)
      have hb : (l[i] == l[i - 1]) = false := by simpa using he
      simp [h1, h2, hw, hw2, hb]
      simpa using this

theorem slices_Compact_sstring_string_eq' {l : List Str} (hl : l.length ≤ 1000000) : slices_Compact_sstring_string [.sl 1 (txV l)] = some ([.sl 1 (txV (compS l))], []) := by
  unfold slices_Compact_sstring_string
  rw [Rslices_Compact_sstring_string_eq]
  by_cases h : l.length < 2
  · have hc : compS l = l := by
      match l, h with
      | [], _ => rfl
      | [x], _ => rfl
    have h2 : (l.length : Int) < 2 := by omega
    simp [V.len, h2, hc, -List.all_eq_true]
  · have h2 : ¬ (l.length : Int) < 2 := by omega
    simp [V.len, h2]
    simpa using slices_CompactS_loop0 hl (l.length - 1) 1 N0 (by omega) (by omega) (fun j _ h1 h2 => by omega) (N0_pos (by omega))


end Go.Proofs.YtdhdhcllgkddnaaGreat.Va

namespace Go.Proofs.YtdhdhcllgkddnaaGreat.Va
open Go Go.RowKit

/-- The encoding of a text; of texts; of a list of texts. -/
def textB (s : Str) : List UInt8 := grp (zig (s.length : Int)) ++ s
def keysB (d : List Str) : List UInt8 := d.flatMap textB
theorem keysB_cons (x : Str) (d : List Str) : keysB (x :: d) = textB x ++ keysB d := by simp [keysB]
def idxL (l : List Str) : List Int := l.map fun x => (posS x (distS l) : Int)
def txtsB (l : List Str) : List UInt8 := grp (zig ((distS l).length : Int)) ++ keysB (distS l) ++ intsB (idxL l)
theorem idxL_length (l : List Str) : (idxL l).length = l.length := by simp [idxL]
theorem idxL_I64 {l : List Str} (hl : l.length ≤ 1000000) : ∀ x ∈ idxL l, I64 x := fun x hx => by
  simp only [idxL, List.mem_map] at hx
  obtain ⟨y, _, rfl⟩ := hx
  have := posS_le y (distS l)
  have := distS_len l
  exact I64_nat (by omega)
abbrev Short (l : List Str) : Prop := ∀ x ∈ l, x.length ≤ 1000000
theorem textB_len {s : Str} (h : s.length ≤ 1000000) : (textB s).length ≤ 1000010 := by
  have := grp_zig_len (I64_nat (n := s.length) (by omega))
  simp only [textB, List.length_append]
  omega
theorem keysB_len : ∀ {d : List Str}, Short d → (keysB d).length ≤ 1000010 * d.length
  | [], _ => by simp [keysB]
  | x :: d, h => by
    have h1 := textB_len (h x (by simp))
    have h2 := keysB_len (d := d) fun y hy => h y (List.mem_cons_of_mem _ hy)
    rw [keysB_cons, List.length_append, List.length_cons]
    omega
theorem intsB_len10 {l : List Int} (hI : ∀ x ∈ l, I64 x) (hl : l.length ≤ 1000000) : (intsB l).length ≤ 10 * l.length + 30 := by
  by_cases h0 : l = []
  · subst h0; simp [intsB]
  · have h1 := intsB_le h0 (k := 1) (by omega) (by omega)
    have h2 := plainB_len hI
    have h3 := grp_zig_len (I64_nat (n := 1) (by omega))
    have h4 := grp_zig_len (I64_nat (n := l.length) (by omega))
    have e : (encB 1 l).length = (grp (zig ((1 : Nat) : Int))).length + (grp (zig (l.length : Int))).length + (plainB l).length := by simp [encB, headB, bodyB]; omega
    omega

theorem wire_PutText_eq' {b : List UInt8} {s : Str} (hs : s.length ≤ 1000000) (hb : b.length ≤ 90000000000000) : wire_PutText [.sl 1 (byV b), tx s] = some ([.sl 1 (byV (b ++ textB s))], []) := by
  have hI : I64 (s.length : Int) := I64_nat (by omega)
  have hg := grp_zig_len hI
  have g0 : wire_PutText_G 0 [.int .i64 (s.length : Int)] = some ([.sl 1 (byV (grp (zig (s.length : Int))))], []) := wire_groups_eq hI
  have g1 : wire_PutText_G 1 [.sl 1 (byV b), .sl 1 (byV (grp (zig (s.length : Int)) ++ s))] = some ([.sl 1 (byV (b ++ textB s))], []) := wire_own_eq (by simp; omega)
  have r1 : room ((grp (zig (s.length : Int))).length + s.length) 1 := room1 (by omega)
  unfold wire_PutText
  rw [Rwire_PutText_eq]
  simp only [n_sl, asStr_tx, n_bind, size_tx, g0, n_len0, n_len1, n_get0, and_self, if_true, strV_tx, byV_length, r1, n_drop0, List.take_length, ← byV_append, byV_take, g1, bare_byV, Nat.le_refl]
theorem flagstoneref4_PutText_eq' {b : List UInt8} {s : Str} (hs : s.length ≤ 1000000) (hb : b.length ≤ 90000000000000) : flagstoneref4_PutText [.sl 1 (byV b), tx s] = some ([.sl 1 (byV (b ++ textB s))], []) := by
  have hI : I64 (s.length : Int) := I64_nat (by omega)
  have hg := grp_zig_len hI
  have g0 : flagstoneref4_PutText_G 0 [.sl 1 (byV b), .int .i64 (s.length : Int)] = some ([.sl 1 (byV (b ++ grp (zig (s.length : Int))))], []) := flagstoneref4_PutNumber_eq' hI (by omega)
  have r1 : room ((b ++ grp (zig (s.length : Int))).length + s.length) 1 := room1 (by simp; omega)
  unfold flagstoneref4_PutText
  rw [Rflagstoneref4_PutText_eq]
  simp only [n_sl, asStr_tx, n_bind, size_tx, g0, n_len0, n_len1, n_get0, and_self, if_true, strV_tx, byV_length, r1, ← byV_append, byV_take, List.take_length, bare_byV, Nat.le_refl, textB, List.append_assoc]

theorem texts_keys {d : List Str} {l : List V} (hd : Short d) (hdl : d.length ≤ 1000000) : ∀ (k i q : Nat) (b : List UInt8), i + k = d.length → k < q → b.length + 1000010 * k ≤ 20000000000000 →
    ∀ R : Ans, Lcolumn_Texts_2 N0 column_Texts_G N0 l (l.length : Int) 0 (txV d) (byV (b ++ keysB (d.drop i))) [] = R → Lcolumn_Texts_0 N0 column_Texts_G q l (d.length : Int) i (txV d) (byV b) = R := by
  intro k
  induction k with
  | zero =>
    intro i q b hk hq hb R hR
    obtain ⟨q, rfl, _⟩ := rounds hq
    have hi : ¬ ((i : Int) < (d.length : Int)) := by omega
    rw [List.drop_of_length_le (by omega)] at hR
    rw [Lcolumn_Texts_0_eq]
    simp only [decide_eq_false hi, n_cf]
    simpa [keysB] using hR
  | succ k ih =>
    intro i q b hk hq hb R hR
    obtain ⟨q, rfl, hq⟩ := rounds hq
    have hi : i < d.length := by omega
    have hx := hd _ (List.getElem_mem hi)
    have hl := textB_len hx
    have g : column_Texts_G 6 [.sl 1 (byV b), tx d[i]] = _ := wire_PutText_eq' hx (by omega)
    rw [List.drop_eq_getElem_cons hi, keysB_cons, ← List.append_assoc] at hR
    have := ih (i + 1) q (b ++ textB d[i]) (by omega) (by omega) (by simp; omega) R hR
    rw [Lcolumn_Texts_0_eq]
    simp only [decide_eq_true (show ((i : Int) < (d.length : Int)) by omega), n_ct, n_toNat, Nat.zero_add, txV_get hi, n_bind, cells_tx, n_get0, asStr_tx, str_tx, txV_length, g, n_len1, n_len0, and_self, if_true, n_drop0, List.take_length, n_sl, succ_wrap (i := i) (by omega)]
    rw [if_pos (by omega)]
    exact this

theorem texts_idx {d l : List Str} (hs : AscS d) (hdl : d.length ≤ 1000000) (hl : l.length ≤ 1000000) {b : List UInt8} (hb : b.length ≤ 30000000000000) : ∀ (k i q : Nat) (o : List Int), i + k = l.length → k < q → o = (l.take i).map (fun x => (posS x d : Int)) →
    Lcolumn_Texts_2 N0 column_Texts_G q (txV l) (l.length : Int) i (txV d) (byV b) (intV o) = some ([.sl 1 (byV (b ++ intsB (l.map fun x => (posS x d : Int))))], []) := by
  intro k
  induction k with
  | zero =>
    intro i q o hk hq ho
    obtain ⟨q, rfl, _⟩ := rounds hq
    have hi : ¬ ((i : Int) < (l.length : Int)) := by omega
    have hI : ∀ x ∈ l.map (fun x => (posS x d : Int)), I64 x := fun x hx => by
      obtain ⟨y, _, rfl⟩ := List.mem_map.1 hx
      have := posS_le y d
      exact I64_nat (by omega)
    rw [List.take_of_length_le (by omega)] at ho
    rw [← ho] at hI ⊢
    have hol : o.length = l.length := by rw [ho]; simp
    have g : column_Texts_G 0 [.sl 1 (intV o)] = _ := column_Ints_eq' hI (by omega)
    have h10 := intsB_len10 hI (by omega)
    have r1 : room (b.length + (intsB o).length) 1 := room1 (by omega)
    rw [Lcolumn_Texts_2_eq]
    simp only [decide_eq_false hi, n_cf, intV_length, n_drop0, intV_take, List.take_length, g, n_bind, n_len0, n_len1, n_get0, and_self, if_true, n_sl, byV_length, r1, ← byV_append, byV_take, bare_byV, Nat.le_refl]
  | succ k ih =>
    intro i q o hk hq ho
    obtain ⟨q, rfl, hq⟩ := rounds hq
    have hi : i < l.length := by omega
    obtain ⟨f, hf⟩ := slices_BinarySearch_sstring_string_eq' (v := l[i]) hs hdl
    have g : column_Texts_G 1 [.sl 1 (txV d), tx l[i]] = _ := hf
    have hol : o.length = i := by rw [ho]; simp; omega
    have r1 : room (o.length + 1) 8 := room8 (by omega)
    have := ih (i + 1) q (o ++ [(posS l[i] d : Int)]) (by omega) (by omega) (by rw [take_succ hi, List.map_append, ho]; rfl)
    rw [intV_snoc] at this
    rw [Lcolumn_Texts_2_eq]
    simp only [decide_eq_true (show ((i : Int) < (l.length : Int)) by omega), n_ct, n_toNat, txV_get hi, n_bind, cells_tx, n_get0, n_get1, asStr_tx, str_tx, txV_length, intV_length, n_drop0, txV_take, List.take_length, g, n_len2, n_len0, and_self, if_true, n_int, n_bool, r1, succ_wrap (i := i) (by omega)]
    rw [if_pos (by omega)]
    exact this

theorem column_Texts_eq' {l : List Str} (hs : Short l) (hl : l.length ≤ 1000000) : column_Texts [.sl 1 (txV l)] = some ([.sl 1 (byV (txtsB l))], []) := by
  have hdl := distS_len l
  have hds : Short (distS l) := fun x hx => hs x (mem_distS.1 hx)
  have hkl := keysB_len hds
  have hI : I64 ((distS l).length : Int) := I64_nat (by omega)
  have hg := grp_zig_len hI
  have hsl := sortS_length l
  have g2 : column_Texts_G 2 [.sl 1 (txV l)] = some ([.sl 1 (txV l)], []) := slices_Clone_sstring_string_eq (by rw [txV_length]; exact ⟨by omega, by omega⟩) (bare_txV l)
  have g4 : column_Texts_G 4 [.sl 1 (txV l)] = some ([], [.sl 1 (txV (sortS l))]) := slices_Sort_sstring_string_eq (by omega)
  have g3 : column_Texts_G 3 [.sl 1 (txV (sortS l))] = some ([.sl 1 (txV (distS l))], []) := by
    rw [← compS_sort]; exact slices_Compact_sstring_string_eq' (by omega)
  have g5 : column_Texts_G 5 [.sl 1 [], .int .i64 (distS l).length] = some ([.sl 1 (byV (grp (zig ((distS l).length : Int))))], []) := by
    have := wire_PutNumber_eq (a := []) hI (by simp)
    rw [List.nil_append] at this
    exact this
  have w2 := texts_idx (distS_asc l) (by omega) hl (b := grp (zig ((distS l).length : Int)) ++ keysB (distS l)) (by simp; omega) l.length 0 N0 [] (by omega) (N0_pos (by omega)) (by simp)
  have w0 := texts_keys (l := txV l) hds (by omega) (distS l).length 0 N0 (grp (zig ((distS l).length : Int))) (by omega) (N0_pos (by omega)) (by omega) (some ([.sl 1 (byV (txtsB l))], [])) (by rw [txV_length, List.drop_zero]; exact w2)
  unfold column_Texts
  rw [Rcolumn_Texts_eq]
  simp only [n_sl, n_bind, g2, n_len0, n_len1, n_get0, and_self, if_true, txV_length, n_drop0, txV_take, List.take_length, g4, hsl, Nat.le_refl, List.take_of_length_le (show (sortS l).length ≤ l.length by omega), g3, g5]
  exact w0

end Go.Proofs.YtdhdhcllgkddnaaGreat.Va

namespace Go.Proofs.YtdhdhcllgkddnaaGreat.Va
open Go Go.RowKit

theorem room16 {n : Nat} (h : n ≤ 8796093022208) : room n 16 := ⟨by omega, by omega⟩
theorem tx_one (x : Str) : [tx x] = txV [x] := rfl

theorem refT_inner {l s : List Str} (hl : l.length ≤ 1000000) (hsl : s.length ≤ 1000000) {i : Nat} (hi : i < l.length) (m : Nat) : ∀ (d j k : Nat), j + d = s.length → j ≤ posS l[i] s → d < k →
    ∀ R : Ans, Lflagstoneref31_Texts_0 N0 flagstoneref31_Texts_G m (txV l) ((i + 1 : Nat) : Int) (txV (insS s l[i])) = R → Lflagstoneref31_Texts_2 N0 flagstoneref31_Texts_G k m (txV l) i j (txV s) = R := by
  intro d
  have hple := posS_le l[i] s
  have hw := succ_wrap (i := i) (by omega)
  have hgi := txV_get hi
  have ci : (0 : Int) ≤ (i : Int) ∧ (i : Int) < (l.length : Int) := by omega
  induction d with
  | zero =>
    intro j k hd hj hk R hR
    obtain ⟨k, rfl, _⟩ := rounds hk
    have hjs : j = s.length := by omega
    subst hjs
    have hp : posS l[i] s = s.length := by omega
    have e : insS s l[i] = s ++ [l[i]] := by
      unfold insS
      rw [hp, List.getElem?_eq_none (Nat.le_refl _), if_neg (by simp)]
      simp
    have r1 : room s.length 16 := room16 (by omega)
    have r2 : room (s.length + 1) 16 := room16 (by omega)
    have q1 : ((s.length : Int) == (s.length : Int)) = true := by simp
    have c1 : (0 : Int) ≤ 0 ∧ (0 : Int) ≤ (s.length : Int) ∧ (s.length : Int) ≤ (s.length : Int) := by omega
    have c2 : (0 : Int) ≤ (s.length : Int) ∧ (s.length : Int) ≤ (s.length : Int) ∧ (s.length : Int) ≤ (s.length : Int) := by omega
    have z1 : ((s.length : Int) - (s.length : Int)).toNat = 0 := by omega
    rw [e, txV_append] at hR
    rw [Lflagstoneref31_Texts_2_eq]
    simp only [txV_length, decide_eq_false (show ¬ ((s.length : Int) < (s.length : Int)) by omega), n_cf, q1, n_ct, if_pos c1, if_pos c2, Int.sub_zero, n_toNat, n_drop0, n_napp, txV_take, List.take_length, Nat.zero_add, if_pos r1, if_pos ci, hgi, n_bind, cells_tx, n_get0, asStr_tx, str_tx, and_self, if_true, if_pos r2, z1, List.take_zero, List.length_nil, n_len0, Nat.add_zero, List.length_append, n_len1, hw, List.append_nil]
    rw [if_pos (by omega)]
    exact hR
  | succ d ih =>
    intro j k hd hj hk R hR
    obtain ⟨k, rfl, hk⟩ := rounds hk
    have hjs : j < s.length := by omega
    have hwj := succ_wrap (i := j) (by omega)
    have hgj := txV_get hjs
    have cj : (0 : Int) ≤ (j : Int) ∧ (j : Int) < (s.length : Int) := by omega
    rw [Lflagstoneref31_Texts_2_eq]
    by_cases hlt : s[j] < l[i]
    · have hj' : j + 1 ≤ posS l[i] s := posS_step hjs hj hlt
      have := ih (j + 1) k (by omega) hj' (by omega) R hR
      simp only [txV_length, decide_eq_true (show ((j : Int) < (s.length : Int)) by omega), n_ct, Nat.zero_add, n_toNat, if_pos cj, if_pos ci, hgi, hgj, n_bind, cells_tx, n_get0, asStr_tx, toList_tx, bytesLess_eq, decide_eq_true hlt, hwj]
      exact this
    · have hp : j = posS l[i] s := posS_stop hjs hj hlt
      have hne : ((j : Int) == (s.length : Int)) = false := by simp; omega
      by_cases he : s[j] = l[i]
      · have hb : (s[j] == l[i]) = true := by simpa using he
        have e : insS s l[i] = s := by
          unfold insS
          rw [← hp, List.getElem?_eq_getElem hjs, if_pos (by rw [he])]
        rw [e] at hR
        simp only [txV_length, decide_eq_true (show ((j : Int) < (s.length : Int)) by omega), n_ct, n_cf, Nat.zero_add, n_toNat, if_pos cj, if_pos ci, hgi, hgj, n_bind, cells_tx, n_get0, asStr_tx, toList_tx, bytesLess_eq, decide_eq_false hlt, hne, hb, n_nt, hw]
        exact hR
      · have hb : (s[j] == l[i]) = false := by simpa using he
        have e : insS s l[i] = s.take j ++ [l[i]] ++ s.drop j := by
          unfold insS
          rw [← hp, List.getElem?_eq_getElem hjs, if_neg (by simpa using he)]
        have r1 : room j 16 := room16 (by omega)
        have r2 : room (j + 1) 16 := room16 (by omega)
        have r3 : room (j + 1 + (s.length - j)) 16 := room16 (by omega)
        have hjl : min j s.length = j := by omega
        have hsub : ((s.length : Int) - (j : Int)).toNat = s.length - j := by omega
        have hdl : List.take (s.length - j) (s.drop j) = s.drop j := List.take_of_length_le (by simp)
        have c1 : (0 : Int) ≤ 0 ∧ (0 : Int) ≤ (j : Int) ∧ (j : Int) ≤ (s.length : Int) := by omega
        have c2 : (0 : Int) ≤ (j : Int) ∧ (j : Int) ≤ (s.length : Int) ∧ (s.length : Int) ≤ (s.length : Int) := by omega
        rw [e, txV_append, txV_append] at hR
        simp only [txV_length, decide_eq_true (show ((j : Int) < (s.length : Int)) by omega), n_ct, n_cf, Nat.zero_add, n_toNat, if_pos cj, if_pos ci, hgi, hgj, n_bind, cells_tx, n_get0, asStr_tx, str_tx, toList_tx, bytesLess_eq, decide_eq_false hlt, hne, hb, n_nf, if_pos c1, if_pos c2, Int.sub_zero, n_drop0, n_napp, txV_take, txV_drop, List.length_take, hjl, if_pos r1, List.length_append, n_len1, and_self, if_true, if_pos r2, hsub, hdl, List.length_drop, if_pos r3, hw]
        exact hR

theorem refT_loop {l : List Str} (hl : l.length ≤ 1000000) : ∀ (d i : Nat) (s : List Str) (k : Nat), i + d = l.length → s.length ≤ i → d < k →
    ∀ R : Ans, (Option.bind (flagstoneref31_Texts_G 1 [.sl 1 [], .int .i64 (((l.drop i).foldl insS s).length : Int)]) fun p1 => if p1.fst.length = 1 ∧ p1.snd.length = 0 then p1.fst[0]?.bind fun v2 => (asSl 1 v2).bind fun l3 => Lflagstoneref31_Texts_4 N0 flagstoneref31_Texts_G N0 (txV l) 0 (txV ((l.drop i).foldl insS s)) l3 else none) = R →
    Lflagstoneref31_Texts_0 N0 flagstoneref31_Texts_G k (txV l) i (txV s) = R := by
  intro d
  induction d with
  | zero =>
    intro i s k hd hs hk R hR
    obtain ⟨k, rfl, _⟩ := rounds hk
    rw [List.drop_of_length_le (show l.length ≤ i by omega)] at hR
    simp only [List.foldl_nil] at hR
    rw [Lflagstoneref31_Texts_0_eq]
    simp only [txV_length, decide_eq_false (show ¬ ((i : Int) < (l.length : Int)) by omega), n_cf]
    exact hR
  | succ d ih =>
    intro i s k hd hs hk R hR
    obtain ⟨k, rfl, hk⟩ := rounds hk
    have hi : i < l.length := by omega
    have h1 := insS_len s l[i]
    rw [List.drop_eq_getElem_cons hi, List.foldl_cons] at hR
    have := ih (i + 1) (insS s l[i]) k (by omega) (by omega) (by omega) R hR
    rw [Lflagstoneref31_Texts_0_eq]
    simp only [txV_length, decide_eq_true (show ((i : Int) < (l.length : Int)) by omega), n_ct]
    exact refT_inner (s := s) hl (by omega) hi k s.length 0 N0 (by omega) (by omega) (N0_pos (by omega)) R this

theorem refT_keys {d : List Str} {l : List V} (hd : Short d) (hdl : d.length ≤ 1000000) : ∀ (k i q : Nat) (b : List UInt8), i + k = d.length → k < q → b.length + 1000010 * k ≤ 20000000000000 →
    ∀ R : Ans, Lflagstoneref31_Texts_6 N0 flagstoneref31_Texts_G N0 l 0 (txV d) (byV (b ++ keysB (d.drop i))) [] = R → Lflagstoneref31_Texts_4 N0 flagstoneref31_Texts_G q l i (txV d) (byV b) = R := by
  intro k
  induction k with
  | zero =>
    intro i q b hk hq hb R hR
    obtain ⟨q, rfl, _⟩ := rounds hq
    have hi : ¬ ((i : Int) < (d.length : Int)) := by omega
    rw [List.drop_of_length_le (by omega)] at hR
    rw [Lflagstoneref31_Texts_4_eq]
    simp only [txV_length, decide_eq_false hi, n_cf]
    simpa [keysB] using hR
  | succ k ih =>
    intro i q b hk hq hb R hR
    obtain ⟨q, rfl, hq⟩ := rounds hq
    have hi : i < d.length := by omega
    have hx := hd _ (List.getElem_mem hi)
    have hl := textB_len hx
    have g : flagstoneref31_Texts_G 2 [.sl 1 (byV b), tx d[i]] = _ := flagstoneref4_PutText_eq' hx (by omega)
    rw [List.drop_eq_getElem_cons hi, keysB_cons, ← List.append_assoc] at hR
    have := ih (i + 1) q (b ++ textB d[i]) (by omega) (by omega) (by simp; omega) R hR
    rw [Lflagstoneref31_Texts_4_eq]
    simp only [decide_eq_true (show ((i : Int) < (d.length : Int)) by omega), n_ct, n_toNat, Nat.zero_add, txV_get hi, n_bind, cells_tx, n_get0, asStr_tx, str_tx, txV_length, byV_length, n_drop0, byV_take, List.take_length, g, n_len1, n_len0, and_self, if_true, n_sl, succ_wrap (i := i) (by omega)]
    rw [if_pos (by omega)]
    exact this

theorem refT_find {d l : List Str} (hs : AscS d) (hdl : d.length ≤ 1000000) {i : Nat} (hi : i < l.length) (hl : l.length ≤ 1000000) (hm : l[i] ∈ d) (m : Nat) {b : List V} {o : List Int} (ho : o.length ≤ 1000000) : ∀ (k j q : Nat), j + k = posS l[i] d → k < q →
    ∀ R : Ans, Lflagstoneref31_Texts_6 N0 flagstoneref31_Texts_G m (txV l) ((i + 1 : Nat) : Int) (txV d) b (intV (o ++ [(posS l[i] d : Int)])) = R → Lflagstoneref31_Texts_8 N0 flagstoneref31_Texts_G q m (txV l) i j (txV d) b (intV o) = R := by
  intro k
  have hat := posS_at hs hm
  obtain ⟨hlt, hget⟩ := List.getElem?_eq_some_iff.1 hat
  have hgi := txV_get hi
  have ci : (0 : Int) ≤ (i : Int) ∧ (i : Int) < (l.length : Int) := by omega
  have hw := succ_wrap (i := i) (by omega)
  have r1 : room (o.length + 1) 8 := room8 (by omega)
  induction k with
  | zero =>
    intro j q hk hq R hR
    obtain ⟨q, rfl, _⟩ := rounds hq
    have hj : j < d.length := by omega
    have cj : (0 : Int) ≤ (j : Int) ∧ (j : Int) < (d.length : Int) := by omega
    have ej : d[j] = l[i] := by
      have : j = posS l[i] d := by omega
      subst this; exact hget
    have hb : (d[j] == l[i]) = true := by simpa using ej
    rw [intV_snoc] at hR
    have : (posS l[i] d : Int) = (j : Int) := by omega
    rw [this] at hR
    rw [Lflagstoneref31_Texts_8_eq]
    simp only [txV_length, if_pos cj, if_pos ci, Nat.zero_add, n_toNat, txV_get hj, hgi, n_bind, cells_tx, n_get0, asStr_tx, toList_tx, hb, n_nt, n_cf, intV_length, and_self, if_true, if_pos r1, hw]
    exact hR
  | succ k ih =>
    intro j q hk hq R hR
    obtain ⟨q, rfl, hq⟩ := rounds hq
    have hj : j < d.length := by omega
    have cj : (0 : Int) ≤ (j : Int) ∧ (j : Int) < (d.length : Int) := by omega
    have hl2 := posS_lt (v := l[i]) hj (by omega)
    have hb : (d[j] == l[i]) = false := by
      rw [beq_eq_false_iff_ne]
      intro e
      rw [e] at hl2
      exact List.lt_irrefl _ hl2
    have := ih (j + 1) q (by omega) (by omega) R hR
    rw [Lflagstoneref31_Texts_8_eq]
    simp only [txV_length, if_pos cj, if_pos ci, Nat.zero_add, n_toNat, txV_get hj, hgi, n_bind, cells_tx, n_get0, asStr_tx, toList_tx, hb, n_nf, n_ct, succ_wrap (i := j) (by omega)]
    exact this

theorem refT_idx {d l : List Str} (hs : AscS d) (hdl : d.length ≤ 1000000) (hl : l.length ≤ 1000000) (hm : ∀ x ∈ l, x ∈ d) {b : List UInt8} (hb : b.length ≤ 30000000000000) : ∀ (k i q : Nat) (o : List Int), i + k = l.length → k < q → o = (l.take i).map (fun x => (posS x d : Int)) →
    Lflagstoneref31_Texts_6 N0 flagstoneref31_Texts_G q (txV l) i (txV d) (byV b) (intV o) = some ([.sl 1 (byV (b ++ intsB (l.map fun x => (posS x d : Int))))], []) := by
  intro k
  induction k with
  | zero =>
    intro i q o hk hq ho
    obtain ⟨q, rfl, _⟩ := rounds hq
    have hi : ¬ ((i : Int) < (l.length : Int)) := by omega
    have hI : ∀ x ∈ l.map (fun x => (posS x d : Int)), I64 x := fun x hx => by
      obtain ⟨y, _, rfl⟩ := List.mem_map.1 hx
      have := posS_le y d
      exact I64_nat (by omega)
    rw [List.take_of_length_le (by omega)] at ho
    rw [← ho] at hI ⊢
    have hol : o.length = l.length := by rw [ho]; simp
    have g : flagstoneref31_Texts_G 0 [.sl 1 (intV o)] = _ := flagstoneref31_Ints_eq' hI (by omega)
    have h10 := intsB_len10 hI (by omega)
    have r1 : room (b.length + (intsB o).length) 1 := room1 (by omega)
    rw [Lflagstoneref31_Texts_6_eq]
    simp only [txV_length, decide_eq_false hi, n_cf, intV_length, n_drop0, intV_take, List.take_length, g, n_bind, n_len0, n_len1, n_get0, and_self, if_true, n_sl, byV_length, byV_take, r1, ← byV_append, bare_byV, Nat.le_refl]
  | succ k ih =>
    intro i q o hk hq ho
    obtain ⟨q, rfl, hq⟩ := rounds hq
    have hi : i < l.length := by omega
    have hol : o.length = i := by rw [ho]; simp; omega
    have hpl := posS_le l[i] d
    have := ih (i + 1) q (o ++ [(posS l[i] d : Int)]) (by omega) (by omega) (by rw [take_succ hi, List.map_append, ho]; rfl)
    rw [Lflagstoneref31_Texts_6_eq]
    simp only [txV_length, decide_eq_true (show ((i : Int) < (l.length : Int)) by omega), n_ct]
    exact refT_find hs hdl hi hl (hm _ (List.getElem_mem hi)) q (by omega) (posS l[i] d) 0 N0 (by omega) (N0_pos (by omega)) _ this

theorem flagstoneref31_Texts_eq' {l : List Str} (hs : Short l) (hl : l.length ≤ 1000000) : flagstoneref31_Texts [.sl 1 (txV l)] = some ([.sl 1 (byV (txtsB l))], []) := by
  have hdl := distS_len l
  have hds : Short (distS l) := fun x hx => hs x (mem_distS.1 hx)
  have hkl := keysB_len hds
  have hI : I64 ((distS l).length : Int) := I64_nat (by omega)
  have hg := grp_zig_len hI
  have g1 : flagstoneref31_Texts_G 1 [.sl 1 [], .int .i64 (distS l).length] = some ([.sl 1 (byV (grp (zig ((distS l).length : Int))))], []) := by
    have := flagstoneref4_PutNumber_eq' (a := []) hI (by simp)
    rw [List.nil_append] at this
    exact this
  have w2 := refT_idx (distS_asc l) (by omega) hl (fun x hx => mem_distS.2 hx) (b := grp (zig ((distS l).length : Int)) ++ keysB (distS l)) (by simp; omega) l.length 0 N0 [] (by omega) (N0_pos (by omega)) (by simp)
  have w1 := refT_keys (l := txV l) hds (by omega) (distS l).length 0 N0 (grp (zig ((distS l).length : Int))) (by omega) (N0_pos (by omega)) (by omega) (some ([.sl 1 (byV (txtsB l))], [])) (by rw [List.drop_zero]; exact w2)
  have w0 := refT_loop hl l.length 0 [] N0 (by omega) (by simp) (N0_pos (by omega)) (some ([.sl 1 (byV (txtsB l))], [])) (by
    rw [List.drop_zero, show l.foldl insS [] = distS l from rfl]
    simp only [g1, n_bind, n_len0, n_len1, n_get0, and_self, if_true, n_sl]
    exact w1)
  unfold flagstoneref31_Texts
  rw [Rflagstoneref31_Texts_eq]
  simp only [n_sl, n_bind]
  exact w0

end Go.Proofs.YtdhdhcllgkddnaaGreat.Va

namespace Go.Proofs.YtdhdhcllgkddnaaGreat.Va
open Go Go.RowKit

/-- One text. -/
def text1 (most : Int) (b : List UInt8) : Option (Str × List UInt8) :=
  match cnt1 most b with
  | none => none
  | some (n, r) => if n.toNat ≤ r.length then some (r.take n.toNat, r.drop n.toNat) else none
theorem text1_text {most : Int} {s : Str} (h : (s.length : Int) ≤ most) (hs : s.length ≤ 1000000) (r : List UInt8) : text1 most (textB s ++ r) = some (s, r) := by
  have hc : cnt1 most (textB s ++ r) = some ((s.length : Int), s ++ r) := by
    unfold cnt1 textB
    rw [List.append_assoc, num1_zig (I64_nat (by omega))]
    exact if_pos (by omega)
  unfold text1
  rw [hc]
  simp
theorem text1_of {most : Int} {b r : List UInt8} {s : Str} (h : text1 most b = some (s, r)) : b = textB s ++ r ∧ (s.length : Int) ≤ most := by
  unfold text1 at h
  split at h
  · cases h
  · rename_i n q hc
    obtain ⟨_, h2, h3, h4⟩ := countS_some hc
    obtain ⟨_, e1⟩ := num1_of h2
    split at h
    · rename_i hl
      cases h
      have e : ((q.take n.toNat).length : Int) = n := by simp; omega
      refine ⟨?_, by omega⟩
      unfold textB
      rw [e, List.append_assoc, List.take_append_drop]
      exact e1
    · cases h

def lenS (b : List UInt8) (e most f : Int) : Int × List UInt8 × Int :=
  let s := numS b e
  let e' := if s.2.2 = 0 then (if s.1 < 0 then 3 else if most < s.1 then f else 0) else s.2.2
  (if e' = 0 then s.1 else 0, s.2.1, e')
theorem wire_Reader_length_eq' {b : List UInt8} (hb : b.length ≤ 100000000000000) (e most f : Int) (hf : f ≠ 0) :
    wire_Reader_length [.agg [.sl 1 (byV b), .int .i64 e], .int .i64 most, .int .i64 f] = some ([.int .i64 (lenS b e most f).1], [.agg [.sl 1 (byV (lenS b e most f).2.1), .int .i64 (lenS b e most f).2.2]]) := by
  have g1 : wire_Reader_length_G 1 [rdV b e] = some ([.int .i64 (numS b e).1], [rdV (numS b e).2.1 (numS b e).2.2]) := wire_Reader_Number_eq' hb e
  have g0 : ∀ (c : List UInt8) (x f : Int), wire_Reader_length_G 0 [rdV c x, .int .i64 f] = some ([], [rdV c (if x = 0 then f else x)]) := wire_Reader_Fail_eq'
  unfold wire_Reader_length
  rw [Rwire_Reader_length_eq]
  simp only [rdV] at g1 g0
  simp only [lenS]
  generalize numS b e = s at g1 ⊢
  obtain ⟨n, c, x⟩ := s
  simp only at g1 ⊢
  have hfb : (f != 0) = true := by simpa using hf
  by_cases hx : x = 0
  · subst hx
    have h3 : ((3 : Int) != 0) = true := by decide
    by_cases h1 : n < 0
    · simp [g1, g0, h1, h3]
    · by_cases h2 : most < n
      · simp [g1, g0, h1, h2, hfb, hf]
      · simp [g1, h1, h2]
  · have hb1 : (x != 0) = true := by simpa using hx
    by_cases h1 : n < 0
    · simp [g1, g0, h1, hx, hb1]
    · by_cases h2 : most < n
      · simp [g1, g0, h1, h2, hx, hb1]
      · simp [g1, h1, h2, hx, hb1]
theorem lenS_some {b r : List UInt8} {x most f : Int} (h : cnt1 most b = some (x, r)) : lenS b 0 most f = (x, r, 0) := by
  obtain ⟨_, h2, h3, h4⟩ := countS_some h
  unfold lenS
  rw [numS_some h2]
  simp [show ¬ x < 0 by omega, show ¬ most < x by omega]
theorem lenS_none {b : List UInt8} {most f : Int} (hf : f ≠ 0) (h : cnt1 most b = none) : ∃ e r, e ≠ 0 ∧ lenS b 0 most f = (0, r, e) ∧ r.length ≤ b.length := by
  unfold cnt1 at h
  cases hx : num1 b with
  | none =>
    obtain ⟨e, he, h1⟩ := numS_none hx
    refine ⟨e, b, he, ?_, Nat.le_refl _⟩
    unfold lenS
    rw [h1]
    simp [he]
  | some p =>
    obtain ⟨x, r⟩ := p
    rw [hx] at h
    have hr := num1_len hx
    by_cases hh : 0 ≤ x ∧ x ≤ most
    · simp [hh] at h
    · unfold lenS
      rw [numS_some hx]
      by_cases h1 : x < 0
      · exact ⟨3, r, by decide, by simp [h1], by omega⟩
      · exact ⟨f, r, hf, by simp [h1, show most < x by omega, hf], by omega⟩
theorem lenS_err {b : List UInt8} {e most f : Int} (h : e ≠ 0) : lenS b e most f = (0, b, e) := by
  unfold lenS
  rw [numS_err h]
  simp [h]

theorem wire_Reader_take_some {b : List UInt8} {n : Nat} (hn : n ≤ b.length) : wire_Reader_take [.agg [.sl 1 (byV b), .int .i64 0], .int .i64 n] = some ([.sl 1 (byV (b.take n))], [.agg [.sl 1 (byV (b.drop n)), .int .i64 0]]) := by
  unfold wire_Reader_take
  rw [Rwire_Reader_take_eq]
  simp only [n_agg, n_sl, n_int, n_bind, n_len2, n_get0, n_get1, if_true, n_eq0, n_ct, byV_length, decide_eq_false (show ¬ ((n : Int) > (b.length : Int)) by omega), n_cf]
  rw [Jwire_Reader_take_3_eq]
  simp only [n_ne0, n_cf, byV_length, n_toNat, n_drop0, byV_take, byV_drop, List.take_length]
  rw [if_pos (by omega), if_pos (by omega)]
theorem wire_Reader_take_none {b : List UInt8} {n : Nat} (hn : b.length < n) : wire_Reader_take [.agg [.sl 1 (byV b), .int .i64 0], .int .i64 n] = some ([.sl 1 (byV [])], [.agg [.sl 1 (byV b), .int .i64 16]]) := by
  unfold wire_Reader_take
  rw [Rwire_Reader_take_eq]
  simp only [n_agg, n_sl, n_int, n_bind, n_len2, n_get0, n_get1, if_true, n_eq0, n_ct, byV_length, decide_eq_true (show ((n : Int) > (b.length : Int)) by omega)]
  rw [Jwire_Reader_take_3_eq]
  have h : ((16 : Int) != 0) = true := rfl
  simp only [h, n_ct, n_nil]
theorem wire_Reader_take_err {b : List UInt8} {n e : Int} (he : e ≠ 0) : wire_Reader_take [.agg [.sl 1 (byV b), .int .i64 e], .int .i64 n] = some ([.sl 1 (byV [])], [.agg [.sl 1 (byV b), .int .i64 e]]) := by
  unfold wire_Reader_take
  rw [Rwire_Reader_take_eq]
  simp only [n_agg, n_sl, n_int, n_bind, n_len2, n_get0, n_get1, if_true, bne0 he, n_cf]
  rw [Jwire_Reader_take_3_eq]
  have h : (e != 0) = true := by simpa using he
  simp only [h, n_ct, n_nil]

theorem tx_of (s : List UInt8) : V.str ⟨(List.map V.byte (byV s)).toArray⟩ = tx s := by rw [byte_byV]; rfl
theorem text_step {b b2 b3 : List UInt8} {e e2 e3 most n : Int} {s : Str} (h1 : wire_Reader_length [.agg [.sl 1 (byV b), .int .i64 e], .int .i64 most, .int .i64 4] = some ([.int .i64 n], [.agg [.sl 1 (byV b2), .int .i64 e2]]))
    (h2 : wire_Reader_take [.agg [.sl 1 (byV b2), .int .i64 e2], .int .i64 n] = some ([.sl 1 (byV s)], [.agg [.sl 1 (byV b3), .int .i64 e3]])) :
    wire_Reader_Text [.agg [.sl 1 (byV b), .int .i64 e], .int .i64 most] = some ([tx s], [.agg [.sl 1 (byV b3), .int .i64 e3]]) := by
  have h1 : wire_Reader_Text_G 0 [.agg [.sl 1 (byV b), .int .i64 e], .int .i64 most, .int .i64 4] = _ := h1
  have h2 : wire_Reader_Text_G 1 [.agg [.sl 1 (byV b2), .int .i64 e2], .int .i64 n] = _ := h2
  unfold wire_Reader_Text
  rw [Rwire_Reader_Text_eq]
  simp only [n_agg, n_sl, n_int, n_bind, n_len1, n_len2, n_get0, n_get1, if_true, and_self, h1, h2, isU8_byV, tx_of]
theorem wire_Reader_Text_some {b r : List UInt8} {s : Str} {most : Int} (hb : b.length ≤ 100000000000000) (h : text1 most b = some (s, r)) :
    wire_Reader_Text [.agg [.sl 1 (byV b), .int .i64 0], .int .i64 most] = some ([tx s], [.agg [.sl 1 (byV r), .int .i64 0]]) := by
  unfold text1 at h
  split at h
  · cases h
  · rename_i n q hc
    obtain ⟨_, _, h3, h4⟩ := countS_some hc
    split at h
    · rename_i hl
      cases h
      have h1 := wire_Reader_length_eq' hb 0 most 4 (by decide)
      rw [lenS_some hc] at h1
      have h2 := wire_Reader_take_some hl
      rw [show ((n.toNat : Nat) : Int) = n by omega] at h2
      exact text_step h1 h2
    · cases h
theorem wire_Reader_Text_none {b : List UInt8} {most : Int} (hb : b.length ≤ 100000000000000) (h : text1 most b = none) :
    ∃ r e, e ≠ 0 ∧ r.length ≤ b.length ∧ wire_Reader_Text [.agg [.sl 1 (byV b), .int .i64 0], .int .i64 most] = some ([tx []], [.agg [.sl 1 (byV r), .int .i64 e]]) := by
  have h1 := wire_Reader_length_eq' hb 0 most 4 (by decide)
  unfold text1 at h
  cases hc : cnt1 most b with
  | none =>
    obtain ⟨e, r, he, h2, hr⟩ := lenS_none (f := 4) (by decide) hc
    rw [h2] at h1
    exact ⟨r, e, he, hr, text_step h1 (wire_Reader_take_err he)⟩
  | some p =>
    obtain ⟨n, q⟩ := p
    obtain ⟨_, h2, h3, h4⟩ := countS_some hc
    have hq := num1_len h2
    rw [hc] at h
    by_cases hl : n.toNat ≤ q.length
    · simp [hl] at h
    · rw [lenS_some hc] at h1
      have h5 := wire_Reader_take_none (b := q) (n := n.toNat) (by omega)
      rw [show ((n.toNat : Nat) : Int) = n by omega] at h5
      exact ⟨q, 16, by decide, by omega, text_step h1 h5⟩

theorem ref_Text_some {b r : List UInt8} {a : Nat} {s : Str} {most : Int} (hb : b.length ≤ 100000000000) (ha : a ≤ b.length) (h : text1 most (b.drop a) = some (s, r)) :
    ∃ a' : Nat, a' ≤ b.length ∧ b.drop a' = r ∧ flagstoneref4_Reader_Text [RF b a 0, .int .i64 most] = some ([tx s], [RF b a' 0]) := by
  unfold text1 at h
  split at h
  · cases h
  · rename_i n q hc
    obtain ⟨_, h2, h3, h4⟩ := countS_some hc
    split at h
    · rename_i hl
      cases h
      obtain ⟨a1, g1, g2, g3⟩ := r_num_some (by omega) ha h2
      have g3 : flagstoneref4_Reader_Text_G 1 [RF b a 0] = _ := g3
      obtain ⟨n, rfl⟩ : ∃ n' : Nat, n = (n' : Int) := ⟨n.toNat, by omega⟩
      rw [n_toNat] at hl ⊢
      have hql : q.length = b.length - a1 := by rw [← g2, List.length_drop]
      refine ⟨a1 + n, by omega, by rw [← List.drop_drop, g2], ?_⟩
      have w1 : IntKind.i64.wrap ((b.length : Int) - (a1 : Int)) = ((b.length - a1 : Nat) : Int) := by rw [wrap_i64 (by omega) (by omega)]; omega
      have w2 : IntKind.i64.wrap ((a1 : Int) + (n : Int)) = ((a1 + n : Nat) : Int) := by rw [wrap_i64 (by omega) (by omega)]; omega
      have w3 : IntKind.i64.wrap (((a1 + n : Nat) : Int) - (n : Int)) = (a1 : Int) := by rw [wrap_i64 (by omega) (by omega)]; omega
      have c1 : (0 : Int) ≤ (a1 : Int) ∧ (a1 : Int) ≤ ((a1 + n : Nat) : Int) ∧ ((a1 + n : Nat) : Int) ≤ (b.length : Int) := by omega
      have e1 : List.drop a1 (List.take (a1 + n) b) = q.take n := by rw [List.drop_take, g2, show a1 + n - a1 = n by omega]
      unfold flagstoneref4_Reader_Text
      rw [Rflagstoneref4_Reader_Text_eq]
      simp only [n_agg, n_sl, n_int, n_bind, n_len1, n_len3, n_get0, n_get1, n_get2, if_true, and_self, g3, n_ne0, n_cf, n_gt, decide_eq_false (show ¬ ((n : Int) < 0) by omega), decide_eq_false (show ¬ (most < (n : Int)) by omega), byV_length, w1, decide_eq_false (show ¬ (((b.length - a1 : Nat) : Int) < (n : Int)) by omega), w2, w3, if_pos c1, n_toNat, byV_take, byV_drop, e1, isU8_byV, tx_of]
    · cases h
theorem ref_Text_bad {b : List UInt8} {a a1 : Nat} {e e1 x most : Int} (g : flagstoneref4_Reader_Number [RF b a e] = some ([.int .i64 x], [RF b a1 e1]))
    (h : e1 ≠ 0 ∨ x < 0 ∨ most < x ∨ IntKind.i64.wrap ((b.length : Int) - (a1 : Int)) < x) : ∃ e', e' ≠ 0 ∧ (e1 ≠ 0 → e' = e1) ∧ flagstoneref4_Reader_Text [RF b a e, .int .i64 most] = some ([tx []], [RF b a e']) := by
  have g : flagstoneref4_Reader_Text_G 1 [RF b a e] = _ := g
  have hF : ∀ (a : Nat) (e f : Int), flagstoneref4_Reader_Text_G 0 [RF b a e, .int .i64 f] = some ([], [RF b a (if e = 0 then f else e)]) := fun a => r_fail
  have et : V.str ⟨#[]⟩ = tx [] := rfl
  unfold flagstoneref4_Reader_Text
  rw [Rflagstoneref4_Reader_Text_eq]
  by_cases h1 : e1 = 0
  · subst h1
    by_cases h2 : x < 0
    · refine ⟨3, by decide, fun h => absurd rfl h, ?_⟩
      simp only [n_agg, n_sl, n_int, n_bind, n_len0, n_len1, n_len3, n_get0, n_get1, n_get2, if_true, and_self, g, n_ne0, n_cf, decide_eq_true h2, n_ct, hF, et]
    · by_cases h3 : most < x
      · refine ⟨4, by decide, fun h => absurd rfl h, ?_⟩
        simp only [n_agg, n_sl, n_int, n_bind, n_len0, n_len1, n_len3, n_get0, n_get1, n_get2, if_true, and_self, g, n_ne0, n_cf, n_gt, decide_eq_false h2, decide_eq_true h3, n_ct, hF, et]
      · have h4 : IntKind.i64.wrap ((b.length : Int) - (a1 : Int)) < x := by
          rcases h with h | h | h | h
          · exact absurd rfl h
          · exact absurd h h2
          · exact absurd h h3
          · exact h
        refine ⟨16, by decide, fun h => absurd rfl h, ?_⟩
        simp only [n_agg, n_sl, n_int, n_bind, n_len0, n_len1, n_len3, n_get0, n_get1, n_get2, if_true, and_self, g, n_ne0, n_cf, n_gt, decide_eq_false h2, decide_eq_false h3, byV_length, decide_eq_true h4, n_ct, hF, et]
  · have hz : (e1 != 0) = true := by simpa using h1
    refine ⟨e1, h1, fun _ => rfl, ?_⟩
    simp only [n_agg, n_sl, n_int, n_bind, n_len0, n_len1, n_len3, n_get0, n_get1, n_get2, if_true, and_self, g, hz, n_ct, et]
theorem ref_Text_none {b : List UInt8} {a : Nat} {most : Int} (hb : b.length ≤ 100000000000) (ha : a ≤ b.length) (h : text1 most (b.drop a) = none) :
    ∃ e, e ≠ 0 ∧ flagstoneref4_Reader_Text [RF b a 0, .int .i64 most] = some ([tx []], [RF b a e]) := by
  unfold text1 cnt1 at h
  cases hx : num1 (b.drop a) with
  | none =>
    obtain ⟨e, he, g⟩ := r_num_none (by omega) ha hx
    obtain ⟨e', h1, _, h2⟩ := ref_Text_bad (most := most) g (.inl he)
    exact ⟨e', h1, h2⟩
  | some p =>
    obtain ⟨x, r⟩ := p
    obtain ⟨a1, g1, g2, g⟩ := r_num_some (by omega) ha hx
    rw [hx] at h
    have w1 : IntKind.i64.wrap ((b.length : Int) - (a1 : Int)) = ((b.length - a1 : Nat) : Int) := by rw [wrap_i64 (by omega) (by omega)]; omega
    have hrl : r.length = b.length - a1 := by rw [← g2, List.length_drop]
    obtain ⟨e', h1, _, h2⟩ := ref_Text_bad (most := most) g (by
      by_cases hh : 0 ≤ x ∧ x ≤ most
      · by_cases hl : x.toNat ≤ r.length
        · simp [hh, hl] at h
        · rw [w1]; omega
      · omega)
    exact ⟨e', h1, h2⟩
theorem ref_Text_err {b : List UInt8} {a : Nat} {e most : Int} (hb : b.length ≤ 100000000000) (ha : a ≤ b.length) (he : e ≠ 0) : flagstoneref4_Reader_Text [RF b a e, .int .i64 most] = some ([tx []], [RF b a e]) := by
  obtain ⟨e', _, h1, h2⟩ := ref_Text_bad (most := most) (r_num_err (by omega) ha he) (.inl he)
  rw [h1 he] at h2
  exact h2

end Go.Proofs.YtdhdhcllgkddnaaGreat.Va

namespace Go.Proofs.YtdhdhcllgkddnaaGreat.Va
open Go Go.RowKit

/-- So many texts. -/
def keysD : Nat → List UInt8 → Option (List Str × List UInt8)
  | 0, b => some ([], b)
  | n + 1, b =>
    match text1 200 b with
    | none => none
    | some (x, r) => match keysD n r with | none => none | some (l, q) => some (x :: l, q)
abbrev Fit (l : List Str) : Prop := ∀ x ∈ l, x.length ≤ 200
theorem Fit.short {l : List Str} (h : Fit l) : Short l := fun x hx => by have := h x hx; omega
theorem keysD_keys : ∀ (l : List Str) (r : List UInt8), Fit l → keysD l.length (keysB l ++ r) = some (l, r)
  | [], r, _ => rfl
  | x :: l, r, h => by
    have hx := h x (by simp)
    rw [keysB_cons, List.append_assoc, List.length_cons, keysD, text1_text (by omega) (by omega)]
    simp only [keysD_keys l r fun y hy => h y (List.mem_cons_of_mem _ hy)]
theorem keysD_of : ∀ {n : Nat} {b : List UInt8} {l : List Str} {r : List UInt8}, keysD n b = some (l, r) → l.length = n ∧ Fit l ∧ b = keysB l ++ r
  | 0, b, l, r, h => by cases h; exact ⟨rfl, fun _ h => by simp at h, by simp [keysB]⟩
  | n + 1, b, l, r, h => by
    rw [keysD] at h
    split at h
    · cases h
    · rename_i x q hx
      split at h
      · cases h
      · rename_i l' q' hl
        cases h
        obtain ⟨h1, h2, h3⟩ := keysD_of hl
        obtain ⟨h4, h5⟩ := text1_of hx
        refine ⟨by simp [h1], fun y hy => ?_, by rw [keysB_cons, List.append_assoc, ← h3]; exact h4⟩
        rcases List.mem_cons.1 hy with rfl | hy
        · omega
        · exact h2 y hy

def inR (n : Nat) (idx : List Int) : Prop := ∀ i ∈ idx, 0 ≤ i ∧ i < (n : Int)
instance (n : Nat) (idx : List Int) : Decidable (inR n idx) := by unfold inR; exact inferInstance
def picks (d : List Str) (idx : List Int) : List Str := idx.map fun i => d.getD i.toNat []
/-- What ReadTexts reads. -/
def rdT (b : List UInt8) : Option (List Str) :=
  match cnt1 512 b with
  | none => none
  | some (n, r) =>
    match keysD n.toNat r with
    | none => none
    | some (d, q) =>
      match rdI decP q with
      | none => none
      | some idx => if inR d.length idx ∧ txtsB (picks d idx) <+: b then some (picks d idx) else none
def ansT (o : Option (List Str)) : Ans :=
  match o with
  | some l => some ([.sl 1 (txV l), .int .i64 (txtsB l).length, .int .i64 0], [])
  | none => some ([.sl 1 (txV []), .int .i64 0, .int .i64 1], [])

theorem picks_idx {l : List Str} : inR (distS l).length (idxL l) ∧ picks (distS l) (idxL l) = l := by
  have key : ∀ x ∈ l, posS x (distS l) < (distS l).length ∧ (distS l).getD (posS x (distS l)) [] = x := fun x hx => by
    have h := posS_at (distS_asc l) (mem_distS.2 hx)
    obtain ⟨h1, h2⟩ := List.getElem?_eq_some_iff.1 h
    exact ⟨h1, by rw [List.getD_eq_getElem?_getD, h]; rfl⟩
  constructor
  · intro i hi
    simp only [idxL, List.mem_map] at hi
    obtain ⟨x, hx, rfl⟩ := hi
    have := (key x hx).1
    omega
  · unfold picks idxL
    rw [List.map_map]
    conv => rhs; rw [← List.map_id l]
    refine List.map_congr_left fun x hx => ?_
    simpa using (key x hx).2
theorem picks_fit {d : List Str} (h : Fit d) (idx : List Int) : Fit (picks d idx) := fun x hx => by
  simp only [picks, List.mem_map] at hx
  obtain ⟨i, _, rfl⟩ := hx
  rw [List.getD_eq_getElem?_getD]
  cases hg : d[i.toNat]? with
  | none => simp
  | some y => exact h y (List.mem_of_getElem? hg)
/-- Texts are read as they were encoded. -/
theorem rdT_texts {l : List Str} (h : Fit l) (hl : l.length ≤ 512) (r : List UInt8) : rdT (txtsB l ++ r) = some l := by
  have hdl := distS_len l
  have hdf : Fit (distS l) := fun x hx => h x (mem_distS.1 hx)
  have hc : cnt1 512 (txtsB l ++ r) = some (((distS l).length : Int), keysB (distS l) ++ (intsB (idxL l) ++ r)) := by
    unfold cnt1 txtsB
    rw [List.append_assoc, List.append_assoc, num1_zig (I64_nat (by omega))]
    exact if_pos (by omega)
  have hi : rdI decP (intsB (idxL l) ++ r) = some (idxL l) := (rdI_iff decP_ok).2 ⟨idxL_I64 (by omega), by rw [idxL_length]; exact hl, List.prefix_append _ _⟩
  obtain ⟨h1, h2⟩ := picks_idx (l := l)
  unfold rdT
  rw [hc]
  simp only [Int.toNat_natCast]
  rw [keysD_keys _ _ hdf]
  simp only [hi]
  rw [if_pos ⟨h1, by rw [h2]; exact List.prefix_append _ _⟩, h2]
theorem rdT_of {b : List UInt8} {l : List Str} (h : rdT b = some l) : Fit l ∧ l.length ≤ 512 ∧ txtsB l <+: b := by
  unfold rdT at h
  split at h
  · cases h
  · split at h
    · cases h
    · rename_i d q hk
      split at h
      · cases h
      · rename_i idx hi
        split at h
        · rename_i hh
          cases h
          exact ⟨picks_fit (keysD_of hk).2.1 idx, by simpa [picks] using ((rdI_iff decP_ok).1 hi).2.1, hh.2⟩
        · cases h

-- the program's
theorem readT_picks {b : List UInt8} {idx : List Int} (hx : idx.length ≤ 512) {d : List Str} (hd : Fit d) : ∀ (k i q : Nat) (l : List Str), i + k = idx.length → k < q → l = picks d (idx.take i) →
    Lcolumn_ReadTexts_2 N0 column_ReadTexts_G q (byV b) (intV idx) (idx.length : Int) i (txV d) (txV l) = ansT (if inR d.length (idx.drop i) ∧ txtsB (picks d idx) <+: b then some (picks d idx) else none) := by
  intro k
  induction k with
  | zero =>
    intro i q l hk hq hl
    obtain ⟨q, rfl, _⟩ := rounds hq
    have hi : ¬ ((i : Int) < (idx.length : Int)) := by omega
    rw [List.take_of_length_le (by omega)] at hl
    have hlf : Fit l := by rw [hl]; exact picks_fit hd idx
    have hll : l.length = idx.length := by rw [hl]; simp [picks]
    have g2 : column_ReadTexts_G 2 [.sl 1 (txV l)] = _ := column_Texts_eq' hlf.short (by omega)
    have g0 : column_ReadTexts_G 0 [.sl 1 (byV b), .sl 1 (byV (txtsB l))] = _ := bytes_HasPrefix_eq' b (txtsB l)
    rw [List.drop_of_length_le (by omega), ← hl]
    have h0 : inR d.length [] := fun i hi => by simp at hi
    by_cases hp : txtsB l <+: b
    · have e : (if inR d.length [] ∧ txtsB l <+: b then some l else none) = some l := if_pos ⟨h0, hp⟩
      rw [e, Lcolumn_ReadTexts_2_eq]
      simp only [decide_eq_false hi, n_cf, txV_length, n_drop0, txV_take, List.take_length, g2, g0, n_bind, n_len0, n_len1, n_get0, and_self, if_true, n_sl, n_bool, byV_length, byV_take, decide_eq_true hp, n_nt, bare_txV', Nat.le_refl, ansT]
    · have e : (if inR d.length [] ∧ txtsB l <+: b then some l else none) = none := if_neg fun h => hp h.2
      rw [e, Lcolumn_ReadTexts_2_eq]
      simp only [decide_eq_false hi, n_cf, txV_length, n_drop0, txV_take, List.take_length, g2, g0, n_bind, n_len0, n_len1, n_get0, and_self, if_true, n_sl, n_bool, byV_length, byV_take, decide_eq_false hp, n_nf, n_ct, ansT]
      rfl
  | succ k ih =>
    intro i q l hk hq hl
    obtain ⟨q, rfl, hq⟩ := rounds hq
    have hi : i < idx.length := by omega
    have hg := intV_get hi
    have hll : l.length = i := by rw [hl]; simp [picks]; omega
    have ci : (0 : Int) ≤ (i : Int) ∧ (i : Int) < (idx.length : Int) := by omega
    rw [List.drop_eq_getElem_cons hi]
    have bad : ¬ (0 ≤ idx[i] ∧ idx[i] < (d.length : Int)) → ansT (if inR d.length (idx[i] :: idx.drop (i + 1)) ∧ txtsB (picks d idx) <+: b then some (picks d idx) else none) = some ([.sl 1 [], .int .i64 0, .int .i64 1], []) := fun hh => by
      rw [if_neg fun h => hh (h.1 idx[i] List.mem_cons_self)]
      rfl
    rw [Lcolumn_ReadTexts_2_eq]
    by_cases h1 : idx[i] < 0
    · rw [bad (by omega)]
      simp only [intV_length, decide_eq_true (show ((i : Int) < (idx.length : Int)) by omega), n_ct, if_pos ci, n_toNat, hg, n_bind, n_cells, n_get0, n_int, decide_eq_true h1]
    · by_cases h2 : idx[i] ≥ (d.length : Int)
      · rw [bad (by omega)]
        simp only [intV_length, txV_length, decide_eq_true (show ((i : Int) < (idx.length : Int)) by omega), n_ct, n_cf, if_pos ci, n_toNat, hg, n_bind, n_cells, n_get0, n_int, decide_eq_false h1, decide_eq_true h2]
      · have hlt : idx[i].toNat < d.length := by omega
        have c2 : 0 ≤ idx[i] ∧ idx[i] < (d.length : Int) := by omega
        have r1 : room (l.length + 1) 16 := room16 (by omega)
        have hgd := txV_get hlt
        have := ih (i + 1) q (l ++ [d[idx[i].toNat]]) (by omega) (by omega) (by
          rw [take_succ hi]
          simp only [picks, List.map_append, List.map_cons, List.map_nil]
          rw [hl]
          simp [picks, List.getD_eq_getElem?_getD, hlt])
        rw [txV_snoc] at this
        have e : (inR d.length (idx[i] :: idx.drop (i + 1)) ∧ txtsB (picks d idx) <+: b) = (inR d.length (idx.drop (i + 1)) ∧ txtsB (picks d idx) <+: b) := by
          apply propext
          constructor
          · exact fun h => ⟨fun j hj => h.1 j (List.mem_cons_of_mem _ hj), h.2⟩
          · refine fun h => ⟨fun j hj => ?_, h.2⟩
            rcases List.mem_cons.1 hj with rfl | hj
            · exact c2
            · exact h.1 j hj
        simp only [e]
        simp only [intV_length, txV_length, decide_eq_true (show ((i : Int) < (idx.length : Int)) by omega), n_ct, n_cf, if_pos ci, n_toNat, hg, n_bind, n_cells, n_get0, n_int, decide_eq_false h1, decide_eq_false h2, if_pos c2, Nat.zero_add, hgd, cells_tx, asStr_tx, str_tx, and_self, if_true, if_pos r1, succ_wrap (i := i) (by omega)]
        exact this

theorem readT_join_err {b c : List UInt8} {e i7 : Int} (he : e ≠ 0) (d : List V) : Jcolumn_ReadTexts_12 N0 column_ReadTexts_G (byV b) i7 (byV c) e d = ansT none := by
  have g : column_ReadTexts_G 7 [.agg [.sl 1 (byV c), .int .i64 e]] = some ([.int .i64 e], [.agg [.sl 1 (byV c), .int .i64 e]]) := g_err c e
  have hz : (e != 0) = true := by simpa using he
  rw [Jcolumn_ReadTexts_12_eq]
  simp only [g, n_bind, n_len1, n_len2, n_get0, n_get1, and_self, if_true, n_int, n_agg, n_sl, hz, n_ct, ansT]
  rfl
theorem readT_join {b c : List UInt8} {at_ : Nat} (hb : b.length ≤ 1000000) (ha : at_ ≤ b.length) {d : List Str} (hd : Fit d) :
    Jcolumn_ReadTexts_12 N0 column_ReadTexts_G (byV b) at_ (byV c) 0 (txV d) = ansT (match rdI decP (b.drop at_) with | none => none | some idx => if inR d.length idx ∧ txtsB (picks d idx) <+: b then some (picks d idx) else none) := by
  have g : column_ReadTexts_G 7 [.agg [.sl 1 (byV c), .int .i64 0]] = some ([.int .i64 0], [.agg [.sl 1 (byV c), .int .i64 0]]) := g_err c 0
  have g1 : column_ReadTexts_G 1 [.sl 1 (byV (b.drop at_))] = _ := column_ReadInts_eq' (by simp; omega)
  have c1 : (0 : Int) ≤ (at_ : Int) ∧ (at_ : Int) ≤ (b.length : Int) ∧ (b.length : Int) ≤ (b.length : Int) := by omega
  rw [Jcolumn_ReadTexts_12_eq]
  cases hr : rdI decP (b.drop at_) with
  | none =>
    rw [hr] at g1
    have h1 : ((1 : Int) != 0) = true := rfl
    simp only [ansI] at g1
    simp only [g, n_bind, n_len0, n_len1, n_len2, n_len3, n_get0, n_get1, n_get2, and_self, if_true, n_int, n_agg, n_sl, n_ne0, n_cf, byV_length, if_pos c1, n_toNat, byV_take, List.take_length, byV_drop, g1, h1, n_ct, ansT]
    rfl
  | some idx =>
    rw [hr] at g1
    have hx := ((rdI_iff decP_ok).1 hr).2.1
    have w := readT_picks (b := b) hx hd idx.length 0 N0 [] (by omega) (N0_pos (by omega)) (by simp [picks])
    simp only [ansI] at g1
    rw [List.drop_zero] at w
    simp only [g, n_bind, n_len0, n_len1, n_len2, n_len3, n_get0, n_get1, n_get2, and_self, if_true, n_int, n_agg, n_sl, n_ne0, n_cf, byV_length, if_pos c1, n_toNat, byV_take, List.take_length, byV_drop, g1, intV_length]
    exact w

theorem readT_keys {b : List UInt8} (hb : b.length ≤ 1000000) {n : Nat} (hn : n ≤ 512) : ∀ (k i q at_ : Nat) (d : List Str), i + k = n → d.length = i → k < q → at_ ≤ b.length → Fit d →
    Lcolumn_ReadTexts_0 N0 column_ReadTexts_G q (byV b) at_ (n : Int) i (byV (b.drop at_)) 0 (txV d) = ansT (match keysD k (b.drop at_) with
      | none => none
      | some (d', r) => match rdI decP r with | none => none | some idx => if inR (d ++ d').length idx ∧ txtsB (picks (d ++ d') idx) <+: b then some (picks (d ++ d') idx) else none) := by
  intro k
  induction k with
  | zero =>
    intro i q at_ d hk hd hq ha hf
    obtain ⟨q, rfl, _⟩ := rounds hq
    have hi : ¬ ((i : Int) < (n : Int)) := by omega
    rw [Lcolumn_ReadTexts_0_eq]
    simp only [decide_eq_false hi, n_cf, keysD, List.append_nil]
    exact readT_join hb ha hf
  | succ k ih =>
    intro i q at_ d hk hd hq ha hf
    obtain ⟨q, rfl, hq⟩ := rounds hq
    have hi : ((i : Int) < (n : Int)) := by omega
    have hE : ∀ (c : List UInt8) (e : Int), column_ReadTexts_G 7 [.agg [.sl 1 (byV c), .int .i64 e]] = some ([.int .i64 e], [.agg [.sl 1 (byV c), .int .i64 e]]) := g_err
    have hbd : (b.drop at_).length ≤ 100000000000000 := by simp; omega
    rw [keysD]
    cases hx : text1 200 (b.drop at_) with
    | none =>
      obtain ⟨c, e, he, hc, g⟩ := wire_Reader_Text_none hbd hx
      have g : column_ReadTexts_G 8 [.agg [.sl 1 (byV (b.drop at_)), .int .i64 0], .int .i64 200] = _ := g
      have hz : (e != 0) = true := by simpa using he
      rw [Lcolumn_ReadTexts_0_eq]
      simp only [decide_eq_true hi, n_ct, g, hE, n_bind, n_len0, n_len1, n_len2, n_get0, n_get1, and_self, if_true, n_int, n_agg, n_sl, asStr_tx, hz]
      exact readT_join_err he _
    | some p =>
      obtain ⟨s, r⟩ := p
      obtain ⟨e1, e2⟩ := text1_of hx
      have g : column_ReadTexts_G 8 [.agg [.sl 1 (byV (b.drop at_)), .int .i64 0], .int .i64 200] = _ := wire_Reader_Text_some hbd hx
      have g5 : column_ReadTexts_G 5 [.sl 1 [], tx s] = some ([.sl 1 (byV (textB s))], []) := by
        have := wire_PutText_eq' (b := []) (s := s) (by omega) (by simp)
        rw [List.nil_append] at this
        exact this
      have hlen : at_ + (textB s).length ≤ b.length := by
        have := congrArg List.length e1
        simp at this
        omega
      have hdrop : b.drop (at_ + (textB s).length) = r := by
        rw [← List.drop_drop, e1, List.drop_left]
      have r1 : room (d.length + 1) 16 := room16 (by omega)
      have w1 : IntKind.i64.wrap ((at_ : Int) + ((textB s).length : Int)) = ((at_ + (textB s).length : Nat) : Int) := by rw [wrap_i64 (by omega) (by omega)]; omega
      have := ih (i + 1) q (at_ + (textB s).length) (d ++ [s]) (by omega) (by simp [hd]) (by omega) hlen (fun y hy => by
        rcases List.mem_append.1 hy with hy | hy
        · exact hf y hy
        · simp only [List.mem_singleton] at hy; subst hy; omega)
      rw [hdrop, txV_snoc] at this
      rw [Lcolumn_ReadTexts_0_eq]
      simp only [decide_eq_true hi, n_ct, n_cf, g, hE, n_bind, n_len0, n_len1, n_len2, n_get0, n_get1, and_self, if_true, n_int, n_agg, n_sl, asStr_tx, str_tx, n_ne0, txV_length, if_pos r1, g5, byV_length, w1, succ_wrap (i := i) (by omega)]
      rw [this]
      cases keysD k r with
      | none => rfl
      | some p => simp

theorem column_ReadTexts_eq' {b : List UInt8} (hb : b.length ≤ 1000000) : column_ReadTexts [.sl 1 (byV b)] = ansT (rdT b) := by
  have a3 : column_ReadTexts_G 3 [.sl 1 (byV b)] = _ := g_new (b := b) (by omega)
  have hP : ∀ n : Int, I64 n → column_ReadTexts_G 4 [.sl 1 [], .int .i64 n] = some ([.sl 1 (byV (grp (zig n)))], []) := fun n hn => by
    have := wire_PutNumber_eq (a := []) hn (by simp)
    rw [List.nil_append] at this
    exact this
  unfold rdT
  cases hc : cnt1 512 b with
  | none =>
    obtain ⟨f, r, hf, h2, hr⟩ := countS_none hc
    have a6 : column_ReadTexts_G 6 [.agg [.sl 1 (byV b), .int .i64 0], .int .i64 512] = some ([.int .i64 0], [.agg [.sl 1 (byV r), .int .i64 f]]) := by
      have := g_count (b := b) (by omega) 0 512
      rw [h2] at this
      exact this
    have key : ∀ k, Lcolumn_ReadTexts_0 N0 column_ReadTexts_G (k + 1) (byV b) ((grp (zig 0)).length : Int) 0 0 (byV r) f [] = ansT none := fun k => by
      rw [Lcolumn_ReadTexts_0_eq]
      simp only [decide_eq_false (show ¬ ((0 : Int) < 0) by omega), n_cf]
      exact readT_join_err hf _
    have key := N0_succ (p := fun k => Lcolumn_ReadTexts_0 N0 column_ReadTexts_G k (byV b) ((grp (zig 0)).length : Int) 0 0 (byV r) f [] = ansT none) key
    unfold column_ReadTexts
    rw [Rcolumn_ReadTexts_eq]
    simp only [n_sl, n_bind, a3, a6, hP 0 (by unfold I64; omega), n_len0, n_len1, n_len2, n_get0, n_get1, and_self, if_true, n_int, n_agg, byV_length]
    exact key
  | some p =>
    obtain ⟨n, r⟩ := p
    obtain ⟨h1, h2, h3, h4⟩ := countS_some hc
    obtain ⟨hI, hbr⟩ := num1_of h2
    have a6 : column_ReadTexts_G 6 [.agg [.sl 1 (byV b), .int .i64 0], .int .i64 512] = _ := g_count_some (by omega) hc
    obtain ⟨n, rfl⟩ : ∃ n' : Nat, n = (n' : Int) := ⟨n.toNat, by omega⟩
    have hlen : (grp (zig (n : Int))).length ≤ b.length := by rw [hbr]; simp
    have hdrop : b.drop (grp (zig (n : Int))).length = r := by rw [hbr, List.drop_left]
    have w := readT_keys hb (n := n) (by omega) n 0 N0 (grp (zig (n : Int))).length [] (by omega) rfl (N0_pos (by omega)) hlen (fun _ h => by simp at h)
    rw [hdrop] at w
    unfold column_ReadTexts
    rw [Rcolumn_ReadTexts_eq]
    simp only [n_sl, n_bind, a3, a6, hP n hI, n_len0, n_len1, n_len2, n_get0, n_get1, and_self, if_true, n_int, n_agg, byV_length, n_toNat]
    simp only [List.nil_append] at w
    exact w

end Go.Proofs.YtdhdhcllgkddnaaGreat.Va

namespace Go.Proofs.YtdhdhcllgkddnaaGreat.Va
open Go Go.RowKit

theorem refRT_picks {b : List UInt8} {idx : List Int} (hx : idx.length ≤ 512) {d : List Str} (hd : Fit d) : ∀ (k i q : Nat) (l : List Str), i + k = idx.length → k < q → l = picks d (idx.take i) →
    Lflagstoneref31_ReadTexts_2 N0 flagstoneref31_ReadTexts_G q (byV b) i (txV d) (txV l) (intV idx) = ansT (if inR d.length (idx.drop i) ∧ txtsB (picks d idx) <+: b then some (picks d idx) else none) := by
  intro k
  induction k with
  | zero =>
    intro i q l hk hq hl
    obtain ⟨q, rfl, _⟩ := rounds hq
    have hi : ¬ ((i : Int) < (idx.length : Int)) := by omega
    rw [List.take_of_length_le (by omega)] at hl
    have hlf : Fit l := by rw [hl]; exact picks_fit hd idx
    have hll : l.length = idx.length := by rw [hl]; simp [picks]
    have g1 : flagstoneref31_ReadTexts_G 1 [.sl 1 (txV l)] = _ := flagstoneref31_Texts_eq' hlf.short (by omega)
    have g2 : flagstoneref31_ReadTexts_G 2 [.sl 1 (byV b), .sl 1 (byV (txtsB l))] = _ := flagstoneref31_begins_eq' b (txtsB l)
    rw [List.drop_of_length_le (by omega), ← hl]
    have h0 : inR d.length [] := fun i hi => by simp at hi
    by_cases hp : txtsB l <+: b
    · have e : (if inR d.length [] ∧ txtsB l <+: b then some l else none) = some l := if_pos ⟨h0, hp⟩
      rw [e, Lflagstoneref31_ReadTexts_2_eq]
      simp only [intV_length, decide_eq_false hi, n_cf, txV_length, n_drop0, txV_take, List.take_length, g2, g1, n_bind, n_len0, n_len1, n_get0, and_self, if_true, n_sl, n_bool, byV_length, byV_take, decide_eq_true hp, n_nt, bare_txV', Nat.le_refl, ansT]
    · have e : (if inR d.length [] ∧ txtsB l <+: b then some l else none) = none := if_neg fun h => hp h.2
      rw [e, Lflagstoneref31_ReadTexts_2_eq]
      simp only [intV_length, decide_eq_false hi, n_cf, txV_length, n_drop0, txV_take, List.take_length, g2, g1, n_bind, n_len0, n_len1, n_get0, and_self, if_true, n_sl, n_bool, byV_length, byV_take, decide_eq_false hp, n_nf, n_ct, ansT]
      rfl
  | succ k ih =>
    intro i q l hk hq hl
    obtain ⟨q, rfl, hq⟩ := rounds hq
    have hi : i < idx.length := by omega
    have hg := intV_get hi
    have hll : l.length = i := by rw [hl]; simp [picks]; omega
    have ci : (0 : Int) ≤ (i : Int) ∧ (i : Int) < (idx.length : Int) := by omega
    rw [List.drop_eq_getElem_cons hi]
    have bad : ¬ (0 ≤ idx[i] ∧ idx[i] < (d.length : Int)) → ansT (if inR d.length (idx[i] :: idx.drop (i + 1)) ∧ txtsB (picks d idx) <+: b then some (picks d idx) else none) = some ([.sl 1 [], .int .i64 0, .int .i64 1], []) := fun hh => by
      rw [if_neg fun h => hh (h.1 idx[i] List.mem_cons_self)]
      rfl
    rw [Lflagstoneref31_ReadTexts_2_eq]
    by_cases h1 : idx[i] < 0
    · rw [bad (by omega)]
      simp only [intV_length, decide_eq_true (show ((i : Int) < (idx.length : Int)) by omega), n_ct, if_pos ci, Nat.zero_add, n_toNat, hg, n_bind, n_cells, n_get0, n_int, decide_eq_true h1]
    · by_cases h2 : idx[i] ≥ (d.length : Int)
      · rw [bad (by omega)]
        simp only [intV_length, txV_length, decide_eq_true (show ((i : Int) < (idx.length : Int)) by omega), n_ct, n_cf, if_pos ci, Nat.zero_add, n_toNat, hg, n_bind, n_cells, n_get0, n_int, decide_eq_false h1, decide_eq_true h2]
      · have hlt : idx[i].toNat < d.length := by omega
        have c2 : 0 ≤ idx[i] ∧ idx[i] < (d.length : Int) := by omega
        have r1 : room (l.length + 1) 16 := room16 (by omega)
        have hgd := txV_get hlt
        have := ih (i + 1) q (l ++ [d[idx[i].toNat]]) (by omega) (by omega) (by
          rw [take_succ hi]
          simp only [picks, List.map_append, List.map_cons, List.map_nil]
          rw [hl]
          simp [picks, List.getD_eq_getElem?_getD, hlt])
        rw [txV_snoc] at this
        have e : (inR d.length (idx[i] :: idx.drop (i + 1)) ∧ txtsB (picks d idx) <+: b) = (inR d.length (idx.drop (i + 1)) ∧ txtsB (picks d idx) <+: b) := by
          apply propext
          constructor
          · exact fun h => ⟨fun j hj => h.1 j (List.mem_cons_of_mem _ hj), h.2⟩
          · refine fun h => ⟨fun j hj => ?_, h.2⟩
            rcases List.mem_cons.1 hj with rfl | hj
            · exact c2
            · exact h.1 j hj
        simp only [e]
        simp only [intV_length, txV_length, decide_eq_true (show ((i : Int) < (idx.length : Int)) by omega), n_ct, n_cf, if_pos ci, n_toNat, hg, n_bind, n_cells, n_get0, n_int, decide_eq_false h1, decide_eq_false h2, if_pos c2, Nat.zero_add, hgd, cells_tx, asStr_tx, str_tx, and_self, if_true, if_pos r1, succ_wrap (i := i) (by omega)]
        exact this

theorem refRT_end {b : List UInt8} (hb : b.length ≤ 1000000) {n a : Nat} (ha : a ≤ b.length) {d : List Str} (hd : Fit d) (q : Nat) :
    Lflagstoneref31_ReadTexts_0 N0 flagstoneref31_ReadTexts_G (q + 1) (byV b) (n : Int) n (byV b) a 0 (txV d) = ansT (match rdI decP (b.drop a) with | none => none | some idx => if inR d.length idx ∧ txtsB (picks d idx) <+: b then some (picks d idx) else none) := by
  have g1 : flagstoneref31_ReadTexts_G 0 [.sl 1 (byV (b.drop a))] = _ := flagstoneref31_ReadInts_eq' (by simp; omega)
  rw [rdI_eq decR_ok decP_ok] at g1
  have c1 : (0 : Int) ≤ (a : Int) ∧ (a : Int) ≤ (b.length : Int) ∧ (b.length : Int) ≤ (b.length : Int) := by omega
  have hn : ¬ ((n : Int) < (n : Int)) := by omega
  rw [Lflagstoneref31_ReadTexts_0_eq]
  cases hr : rdI decP (b.drop a) with
  | none =>
    rw [hr] at g1
    have h1 : ((1 : Int) != 0) = true := rfl
    simp only [ansI] at g1
    simp only [decide_eq_false hn, n_bind, n_len0, n_len1, n_len2, n_len3, n_get0, n_get1, n_get2, and_self, if_true, n_int, n_agg, n_sl, n_ne0, n_cf, byV_length, if_pos c1, n_toNat, byV_take, List.take_length, byV_drop, g1, h1, n_ct, ansT]
    rfl
  | some idx =>
    rw [hr] at g1
    have hx := ((rdI_iff decP_ok).1 hr).2.1
    have w := refRT_picks (b := b) hx hd idx.length 0 N0 [] (by omega) (N0_pos (by omega)) (by simp [picks])
    simp only [ansI] at g1
    rw [List.drop_zero] at w
    simp only [decide_eq_false hn, n_bind, n_len0, n_len1, n_len2, n_len3, n_get0, n_get1, n_get2, and_self, if_true, n_int, n_agg, n_sl, n_ne0, n_cf, byV_length, if_pos c1, n_toNat, byV_take, List.take_length, byV_drop, g1, intV_length]
    exact w
theorem refRT_step (N : Nat) (G : Nat → List V → Ans) {b : List UInt8} {n i a a' : Nat} {e e' : Int} {s : Str} {d : List Str} (q : Nat) (g : G 5 [RF b a e, .int .i64 200] = some ([tx s], [RF b a' e'])) (hi : i < n) (hn : n ≤ 512) (hd : d.length ≤ 1000) :
    Lflagstoneref31_ReadTexts_0 N G (q + 1) (byV b) (n : Int) i (byV b) a e (txV d) = Lflagstoneref31_ReadTexts_0 N G q (byV b) (n : Int) ((i + 1 : Nat) : Int) (byV b) a' e' (txV (d ++ [s])) := by
  have r1 : room (d.length + 1) 16 := room16 (by omega)
  rw [txV_snoc, Lflagstoneref31_ReadTexts_0_eq]
  simp only [decide_eq_true (show ((i : Int) < (n : Int)) by omega), n_ct, g, n_bind, n_len0, n_len1, n_len2, n_len3, n_get0, n_get1, n_get2, and_self, if_true, n_int, n_agg, n_sl, asStr_tx, str_tx, txV_length, if_pos r1, succ_wrap (i := i) (by omega)]
theorem refRT_bad {b : List UInt8} (hb : b.length ≤ 1000000) {n a : Nat} (hn : n ≤ 512) (ha : a ≤ b.length) {e : Int} (he : e ≠ 0) : ∀ (k i q : Nat) (d : List Str), i + k = n → d.length = i → k < q →
    Lflagstoneref31_ReadTexts_0 N0 flagstoneref31_ReadTexts_G q (byV b) (n : Int) i (byV b) a e (txV d) = ansT none := by
  intro k
  induction k with
  | zero =>
    intro i q d hk hd hq
    obtain ⟨q, rfl, _⟩ := rounds hq
    have hi : ¬ ((i : Int) < (n : Int)) := by omega
    have hz : (e != 0) = true := by simpa using he
    rw [Lflagstoneref31_ReadTexts_0_eq]
    simp only [decide_eq_false hi, n_cf, hz, n_ct, ansT]
    rfl
  | succ k ih =>
    intro i q d hk hd hq
    obtain ⟨q, rfl, hq⟩ := rounds hq
    have := ih (i + 1) q (d ++ [[]]) (by omega) (by simp [hd]) (by omega)
    exact (refRT_step N0 flagstoneref31_ReadTexts_G q (ref_Text_err (by omega) ha he) (by omega) hn (by omega)).trans this
theorem refRT_keys {b : List UInt8} (hb : b.length ≤ 1000000) {n : Nat} (hn : n ≤ 512) : ∀ (k i q a : Nat) (d : List Str), i + k = n → d.length = i → k < q → a ≤ b.length → Fit d →
    Lflagstoneref31_ReadTexts_0 N0 flagstoneref31_ReadTexts_G q (byV b) (n : Int) i (byV b) a 0 (txV d) = ansT (match keysD k (b.drop a) with
      | none => none
      | some (d', r) => match rdI decP r with | none => none | some idx => if inR (d ++ d').length idx ∧ txtsB (picks (d ++ d') idx) <+: b then some (picks (d ++ d') idx) else none) := by
  intro k
  induction k with
  | zero =>
    intro i q a d hk hd hq ha hf
    obtain ⟨q, rfl, _⟩ := rounds hq
    obtain rfl : i = n := by omega
    simp only [keysD, List.append_nil]
    exact refRT_end hb ha hf q
  | succ k ih =>
    intro i q a d hk hd hq ha hf
    obtain ⟨q, rfl, hq⟩ := rounds hq
    rw [keysD]
    cases hx : text1 200 (b.drop a) with
    | none =>
      obtain ⟨e, he, g⟩ := ref_Text_none (by omega) ha hx
      have := refRT_bad hb hn ha he k (i + 1) q (d ++ [[]]) (by omega) (by simp [hd]) (by omega)
      exact (refRT_step N0 flagstoneref31_ReadTexts_G q g (by omega) hn (by omega)).trans this
    | some p =>
      obtain ⟨s, r⟩ := p
      obtain ⟨e1, e2⟩ := text1_of hx
      obtain ⟨a', h1, h2, g⟩ := ref_Text_some (by omega) ha hx
      have := ih (i + 1) q a' (d ++ [s]) (by omega) (by simp [hd]) (by omega) h1 (fun y hy => by
        rcases List.mem_append.1 hy with hy | hy
        · exact hf y hy
        · simp only [List.mem_singleton] at hy; subst hy; omega)
      rw [h2] at this
      rw [refRT_step N0 flagstoneref31_ReadTexts_G q g (by omega) hn (by omega), this]
      simp only
      cases keysD k r with
      | none => rfl
      | some p => simp

theorem flagstoneref31_ReadTexts_eq' {b : List UInt8} (hb : b.length ≤ 1000000) : flagstoneref31_ReadTexts [.sl 1 (byV b)] = ansT (rdT b) := by
  have a3 : flagstoneref31_ReadTexts_G 3 [.sl 1 (byV b)] = some ([RF b 0 0], []) := ref4_New_eq' b
  have hd0 : b.drop 0 = b := List.drop_zero
  unfold rdT
  cases hc : cnt1 512 b with
  | none =>
    obtain ⟨e, a', he, ha', g⟩ := r_count_none (b := b) (by omega) (Nat.zero_le _) (by rw [hd0]; exact hc)
    have g : flagstoneref31_ReadTexts_G 4 [RF b 0 0, .int .i64 512] = _ := g
    have w := refRT_bad hb (n := 0) (by omega) ha' he 0 0 N0 [] (by omega) rfl (N0_pos (by omega))
    unfold flagstoneref31_ReadTexts
    rw [Rflagstoneref31_ReadTexts_eq]
    simp only [n_sl, n_bind, a3, g, n_len0, n_len1, n_len3, n_get0, n_get1, n_get2, and_self, if_true, n_int, n_agg]
    exact w
  | some p =>
    obtain ⟨n, r⟩ := p
    obtain ⟨h1, h2, h3, h4⟩ := countS_some hc
    obtain ⟨a', g1, g2, g⟩ := r_count_some (b := b) (by omega) (Nat.zero_le _) (by rw [hd0]; exact hc)
    have g : flagstoneref31_ReadTexts_G 4 [RF b 0 0, .int .i64 512] = _ := g
    obtain ⟨n, rfl⟩ : ∃ n' : Nat, n = (n' : Int) := ⟨n.toNat, by omega⟩
    have w := refRT_keys hb (n := n) (by omega) n 0 N0 a' [] (by omega) rfl (N0_pos (by omega)) g1 (fun _ h => by simp at h)
    rw [g2] at w
    unfold flagstoneref31_ReadTexts
    rw [Rflagstoneref31_ReadTexts_eq]
    simp only [n_sl, n_bind, a3, g, n_len0, n_len1, n_len3, n_get0, n_get1, n_get2, and_self, if_true, n_int, n_agg, n_toNat]
    simp only [List.nil_append] at w
    exact w

end Go.Proofs.YtdhdhcllgkddnaaGreat.Va

namespace Go.Proofs.YtdhdhcllgkddnaaGreat.Va
open Go Go.RowKit

theorem sameT_loop {l : List Str} (hl : l.length ≤ 1000000) : ∀ (d i k : Nat), i + d = l.length → d < k → Lflagstoneref1_Same_0 N0 flagstoneref1_Same_G k (txV l) (txV l) i = some ([.bool true], []) := by
  intro d
  induction d with
  | zero =>
    intro i k hd hk
    obtain ⟨k, rfl, _⟩ := rounds hk
    have hi : ¬ ((i : Int) < (l.length : Int)) := by omega
    rw [Lflagstoneref1_Same_0_eq]
    simp only [txV_length, decide_eq_false hi, n_cf]
  | succ d ih =>
    intro i k hd hk
    obtain ⟨k, rfl, hk⟩ := rounds hk
    have hi : i < l.length := by omega
    have hg := txV_get hi
    have hb : (l[i] == l[i]) = true := by simp
    rw [Lflagstoneref1_Same_0_eq]
    simp only [txV_length, decide_eq_true (show ((i : Int) < (l.length : Int)) by omega), n_ct, n_toNat, hg, n_bind, cells_tx, n_get0, asStr_tx, toList_tx, hb, n_nt, n_cf, succ_wrap (i := i) (by omega)]
    rw [if_pos (by omega), if_pos (by omega)]
    exact ih (i + 1) k (by omega) (by omega)
theorem flagstoneref1_Same_same {l : List Str} (hl : l.length ≤ 1000000) : flagstoneref1_Same [.sl 1 (txV l), .sl 1 (txV l)] = some ([.bool true], []) := by
  unfold flagstoneref1_Same
  rw [Rflagstoneref1_Same_eq]
  have hb : ((l.length : Int) != (l.length : Int)) = false := by simp
  simp only [n_sl, n_bind, txV_length, hb, n_cf]
  exact sameT_loop hl l.length 0 N0 (by omega) (N0_pos (by omega))

def idsL : List Str := [[97, 110, 110], [98, 111, 98], [99, 97, 116], [100, 97, 110], [101, 118, 101], [102, 97, 121]]
theorem flagstonedata_Ids_eq' : flagstonedata_Ids [] = some ([.sl 1 (txV idsL)], []) := by
  unfold flagstonedata_Ids
  rw [Rflagstonedata_Ids_eq]
  rfl
theorem flagstonedata_Id_eq' {n : Nat} (hn : n < 1000000) : flagstonedata_Id [.int .i64 n] = some ([tx (idsL.getD (n % 6) [])], []) := by
  have g : flagstonedata_Id_G 0 [] = _ := flagstonedata_Ids_eq'
  have h6 : (txV idsL).length = 6 := by simp [idsL]
  have hm : n % 6 < idsL.length := by have := Nat.mod_lt n (show 0 < 6 by decide); simpa [idsL] using this
  have e : (n : Int).tmod ((6 : Nat) : Int) = ((n % 6 : Nat) : Int) := by rw [← Int.ofNat_tmod]
  have hg := txV_get hm
  have he : idsL.getD (n % 6) [] = idsL[n % 6] := by simp [List.getD_eq_getElem?_getD, hm]
  unfold flagstonedata_Id
  rw [Rflagstonedata_Id_eq, he]
  simp only [n_int, n_bind, g, n_len0, n_len1, n_get0, and_self, if_true, n_sl, h6, e, n_toNat, Nat.zero_add, hg, cells_tx, asStr_tx, str_tx]
  rw [if_pos (by omega), if_pos (by omega)]
theorem ids_short (n : Nat) : (idsL.getD (n % 6) []).length ≤ 200 := by
  have h := Nat.mod_lt n (show 0 < 6 by decide)
  generalize n % 6 = m at h
  match m, h with
  | 0, _ => decide
  | 1, _ => decide
  | 2, _ => decide
  | 3, _ => decide
  | 4, _ => decide
  | 5, _ => decide

theorem keysB_len200 : ∀ {d : List Str}, Fit d → (keysB d).length ≤ 210 * d.length
  | [], _ => by simp [keysB]
  | x :: d, h => by
    have hx := h x (by simp)
    have h1 := grp_zig_len (I64_nat (n := x.length) (by omega))
    have h2 := keysB_len200 (d := d) fun y hy => h y (List.mem_cons_of_mem _ hy)
    rw [keysB_cons, List.length_append, List.length_cons]
    simp only [textB, List.length_append]
    omega
theorem txtsB_len {l : List Str} (h : Fit l) (hl : l.length ≤ 1000) : (txtsB l).length ≤ 300000 := by
  have hdl := distS_len l
  have h1 := keysB_len200 (d := distS l) fun x hx => h x (mem_distS.1 hx)
  have h2 := intsB_len10 (idxL_I64 (l := l) (by omega)) (by rw [idxL_length]; omega)
  have h3 := grp_zig_len (I64_nat (n := (distS l).length) (by omega))
  rw [idxL_length] at h2
  simp only [txtsB, List.length_append]
  omega

/-- Both sides read bytes alike. -/
theorem readsT {y : List UInt8} (hy : y.length ≤ 1000000) : ∃ (l : List Str) (n e : Int), column_ReadTexts [.sl 1 (byV y)] = some ([.sl 1 (txV l), .int .i64 n, .int .i64 e], []) ∧ flagstoneref31_ReadTexts [.sl 1 (byV y)] = some ([.sl 1 (txV l), .int .i64 n, .int .i64 e], []) ∧
    flagstoneref1_Same [.sl 1 (txV l), .sl 1 (txV l)] = some ([.bool true], []) := by
  have h1 := column_ReadTexts_eq' hy
  have h2 := flagstoneref31_ReadTexts_eq' hy
  cases hr : rdT y with
  | none =>
    rw [hr] at h1 h2
    exact ⟨[], 0, 1, h1, h2, flagstoneref1_Same_same (l := []) (by simp)⟩
  | some l =>
    rw [hr] at h1 h2
    have := rdT_of hr
    exact ⟨l, _, 0, h1, h2, flagstoneref1_Same_same (by omega)⟩

theorem textsLaw_two {b x : List UInt8} (hb : b.length ≤ 1000000) (hx : x.length ≤ 1000000) : Lflagstonelaw31_ColumnTexts_2 N0 flagstonelaw31_ColumnTexts_G N0 (byV b) (byV x) 0 = some ([.bool true], []) := by
  have step : ∀ (i k : Nat) (y : List UInt8), i < 2 → y.length ≤ 1000000 → [V.sl 1 (byV b), V.sl 1 (byV x)][i]? = some (.sl 1 (byV y)) → Lflagstonelaw31_ColumnTexts_2 N0 flagstonelaw31_ColumnTexts_G (k + 1) (byV b) (byV x) i = Lflagstonelaw31_ColumnTexts_2 N0 flagstonelaw31_ColumnTexts_G k (byV b) (byV x) ((i + 1 : Nat) : Int) := by
    intro i k y hi hy hg
    obtain ⟨l, n, e, h1, h2, h3⟩ := readsT hy
    have h1 : flagstonelaw31_ColumnTexts_G 0 [.sl 1 (byV y)] = _ := h1
    have h2 : flagstonelaw31_ColumnTexts_G 5 [.sl 1 (byV y)] = _ := h2
    have h3 : flagstonelaw31_ColumnTexts_G 4 [.sl 1 (txV l), .sl 1 (txV l)] = _ := h3
    have q1 : (e != e) = false := by simp
    have q2 : (n != n) = false := by simp
    rw [Lflagstonelaw31_ColumnTexts_2_eq]
    simp only [decide_eq_true (show ((i : Int) < 2) by omega), n_ct, n_toNat, Nat.zero_add, hg, n_bind, n_cellsl, n_get0, n_get1, n_get2, n_sl, n_int, n_bool, h1, h2, n_len0, n_len1, n_len3, and_self, if_true, n_drop0, txV_length, txV_take, List.take_length, h3, q1, q2, n_nt, n_cf, succ_wrap (i := i) (by omega)]
    rw [if_pos (by omega)]
  have last : ∀ k, Lflagstonelaw31_ColumnTexts_2 N0 flagstonelaw31_ColumnTexts_G (k + 1) (byV b) (byV x) ((2 : Nat) : Int) = some ([.bool true], []) := by
    intro k
    rw [Lflagstonelaw31_ColumnTexts_2_eq]
    simp only [decide_eq_false (show ¬ (((2 : Nat) : Int) < 2) by omega), n_cf]
  obtain ⟨k, hk, hk2⟩ := rounds (N0_pos (k := 2) (by decide))
  obtain ⟨k, rfl, hk2⟩ := rounds (j := 1) (k := k) (by omega)
  obtain ⟨k, rfl, hk2⟩ := rounds (j := 0) (k := k) (by omega)
  have s0 := step 0 (k + 1 + 1) b (by omega) hb rfl
  have s1 := step 1 (k + 1) x (by omega) hx rfl
  have := s0.trans (s1.trans (last k))
  rw [← hk] at this
  exact this

theorem textsLaw_loop {l : List Str} {b more : List UInt8} {at_ how c : Int} (hl : l.length ≤ 100) (hb : b.length ≤ 1000) (hm : more.length ≤ 200) (ha : 0 ≤ at_ ∧ at_ < 65536) (hc : 0 ≤ c ∧ c < 256) :
    ∀ (d i k : Nat), i + d = l.length → d < k → (∀ (j : Nat) (hj : j < l.length), j < i → l[j].length ≤ 200) →
    Lflagstonelaw31_ColumnTexts_0 N0 flagstonelaw31_ColumnTexts_G k (txV l) (byV b) (byV more) at_ how c i = some ([.bool true], []) := by
  intro d
  induction d with
  | zero =>
    intro i k hd hk hf
    obtain ⟨k, rfl, _⟩ := rounds hk
    have hi : ¬ ((i : Int) < (l.length : Int)) := by omega
    have hfit : Fit l := fun x hx => by
      obtain ⟨j, hj, rfl⟩ := List.mem_iff_getElem.1 hx
      exact hf j hj (by omega)
    have hlen := txtsB_len hfit (by omega)
    have g1 : flagstonelaw31_ColumnTexts_G 1 [.sl 1 (txV l)] = _ := column_Texts_eq' hfit.short (by omega)
    have g6 : flagstonelaw31_ColumnTexts_G 6 [.sl 1 (txV l)] = _ := flagstoneref31_Texts_eq' hfit.short (by omega)
    have g0 : flagstonelaw31_ColumnTexts_G 0 [.sl 1 (byV (txtsB l ++ more))] = some ([.sl 1 (txV l), .int .i64 (txtsB l).length, .int .i64 0], []) := by
      have := column_ReadTexts_eq' (b := txtsB l ++ more) (by simp; omega)
      rw [rdT_texts hfit (by omega)] at this
      exact this
    have g4 : flagstonelaw31_ColumnTexts_G 4 [.sl 1 (txV l), .sl 1 (txV l)] = _ := flagstoneref1_Same_same (l := l) (by omega)
    obtain ⟨s, hs, hsl⟩ := flagstonedata_Spoil_eq' (b := txtsB l) (by omega) ha (how := how) hc
    have g2 : flagstonelaw31_ColumnTexts_G 2 [.sl 1 (byV (txtsB l)), .int .u16 at_, .int .u16 how, .int .u8 c] = _ := hs
    have w := textsLaw_two (b := b) (x := s) (by omega) (by omega)
    have r1 : room (txtsB l).length 1 := room1 (by omega)
    have r2 : room ((txtsB l).length + more.length) 1 := room1 (by omega)
    have q1 : (txtsB l == txtsB l) = true := by simp
    have q2 : (((txtsB l).length : Int) != ((txtsB l).length : Int)) = false := by simp
    rw [Lflagstonelaw31_ColumnTexts_0_eq]
    simp only [txV_length, decide_eq_false hi, n_cf, g1, n_bind, n_len0, n_len1, n_len3, n_get0, n_get1, n_get2, and_self, if_true, n_sl, n_int, n_bool, n_drop0, n_napp, byV_length, byV_take, List.take_length, Nat.zero_add, if_pos r1, if_pos r2, ← byV_append, g0, isU8_byV, g6, byte_byV, mk_toList, q1, n_nt, n_ne0, q2, txV_take, g4, g2]
    exact w
  | succ d ih =>
    intro i k hd hk hf
    obtain ⟨k, rfl, hk⟩ := rounds hk
    have hi : i < l.length := by omega
    have hg := txV_get hi
    have ci : (0 : Int) ≤ (i : Int) ∧ (i : Int) < (l.length : Int) := by omega
    rw [Lflagstonelaw31_ColumnTexts_0_eq]
    by_cases hx : l[i].length ≤ 200
    · have := ih (i + 1) k (by omega) (by omega) (fun j hj hji => by
        rcases Nat.lt_or_ge j i with h | h
        · exact hf j hj h
        · have : j = i := by omega
          subst this; exact hx)
      simp only [txV_length, decide_eq_true (show ((i : Int) < (l.length : Int)) by omega), n_ct, if_pos ci, n_toNat, hg, n_bind, cells_tx, n_get0, asStr_tx, size_tx, decide_eq_false (show ¬ ((l[i].length : Int) > 200) by omega), n_cf, succ_wrap (i := i) (by omega)]
      exact this
    · simp only [txV_length, decide_eq_true (show ((i : Int) < (l.length : Int)) by omega), n_ct, if_pos ci, n_toNat, hg, n_bind, cells_tx, n_get0, asStr_tx, size_tx, decide_eq_true (show ((l[i].length : Int) > 200) by omega)]

theorem flagstonelaw31_ColumnTexts_eq' {l : List Str} {b more : List UInt8} {at_ how c : Int} (ha : 0 ≤ at_ ∧ at_ < 65536) (hc : 0 ≤ c ∧ c < 256) :
    flagstonelaw31_ColumnTexts [.sl 1 (txV l), .sl 1 (byV b), .sl 1 (byV more), .int .u16 at_, .int .u16 how, .int .u8 c] = some ([.bool true], []) := by
  have a3 : flagstonelaw31_ColumnTexts_G 3 [] = some ([.bool true], []) := flagstonelaw31_awake_eq'
  unfold flagstonelaw31_ColumnTexts
  rw [Rflagstonelaw31_ColumnTexts_eq]
  by_cases h1 : l.length ≤ 100
  · by_cases h2 : b.length ≤ 1000
    · by_cases h3 : more.length ≤ 200
      · have w := textsLaw_loop (how := how) h1 h2 h3 ha hc l.length 0 N0 (by omega) (N0_pos (by omega)) (fun j _ h => absurd h (Nat.not_lt_zero _))
        simp only [n_sl, n_int, n_bool, n_bind, a3, n_len0, n_len1, n_get0, and_self, if_true, n_nt, n_cf, txV_length, byV_length, decide_eq_false (show ¬ ((l.length : Int) > 100) by omega), decide_eq_false (show ¬ ((b.length : Int) > 1000) by omega), decide_eq_false (show ¬ ((more.length : Int) > 200) by omega)]
        exact w
      · simp only [n_sl, n_int, n_bool, n_bind, a3, n_len0, n_len1, n_get0, and_self, if_true, n_nt, n_cf, txV_length, byV_length, decide_eq_false (show ¬ ((l.length : Int) > 100) by omega), decide_eq_false (show ¬ ((b.length : Int) > 1000) by omega), decide_eq_true (show ((more.length : Int) > 200) by omega), n_ct]
    · simp only [n_sl, n_int, n_bool, n_bind, a3, n_len0, n_len1, n_get0, and_self, if_true, n_nt, n_cf, txV_length, byV_length, decide_eq_false (show ¬ ((l.length : Int) > 100) by omega), decide_eq_true (show ((b.length : Int) > 1000) by omega), n_ct]
  · simp only [n_sl, n_int, n_bool, n_bind, a3, n_len0, n_len1, n_get0, and_self, if_true, n_nt, n_cf, txV_length, decide_eq_true (show ((l.length : Int) > 100) by omega), n_ct]

theorem namesLaw_loop {l : List UInt8} {at_ how c : Int} (hl : l.length ≤ 200) (ha : 0 ≤ at_ ∧ at_ < 65536) (hc : 0 ≤ c ∧ c < 256) :
    ∀ (d i k : Nat) (o : List Str), i + d = l.length → d < k → o.length = i → Fit o →
    Lflagstonelaw31_ColumnNames_0 N0 flagstonelaw31_ColumnNames_G k (byV l) at_ how c i (txV o) = some ([.bool true], []) := by
  intro d
  induction d with
  | zero =>
    intro i k o hd hk ho hfit
    obtain ⟨k, rfl, _⟩ := rounds hk
    have hi : ¬ ((i : Int) < (l.length : Int)) := by omega
    have hlen := txtsB_len hfit (by omega)
    have g1 : flagstonelaw31_ColumnNames_G 1 [.sl 1 (txV o)] = _ := column_Texts_eq' hfit.short (by omega)
    have g7 : flagstonelaw31_ColumnNames_G 7 [.sl 1 (txV o)] = _ := flagstoneref31_Texts_eq' hfit.short (by omega)
    obtain ⟨s, hs, hsl⟩ := flagstonedata_Spoil_eq' (b := txtsB o) (by omega) ha (how := how) hc
    have g3 : flagstonelaw31_ColumnNames_G 3 [.sl 1 (byV (txtsB o)), .int .u16 at_, .int .u16 how, .int .u8 c] = _ := hs
    obtain ⟨p, n, e, h1, h2, h3⟩ := readsT (y := s) (by omega)
    have h1 : flagstonelaw31_ColumnNames_G 0 [.sl 1 (byV s)] = _ := h1
    have h2 : flagstonelaw31_ColumnNames_G 6 [.sl 1 (byV s)] = _ := h2
    have h3 : flagstonelaw31_ColumnNames_G 5 [.sl 1 (txV p), .sl 1 (txV p)] = _ := h3
    have q1 : (txtsB o == txtsB o) = true := by simp
    have q2 : (e == e) = true := by simp
    have q3 : (n == n) = true := by simp
    rw [Lflagstonelaw31_ColumnNames_0_eq]
    simp only [byV_length, decide_eq_false hi, n_cf, n_drop0, txV_length, txV_take, List.take_length, g1, n_bind, n_len0, n_len1, n_len3, n_get0, n_get1, n_get2, and_self, if_true, n_sl, n_int, n_bool, byV_take, isU8_byV, g7, byte_byV, mk_toList, q1, n_nt, g3, h1, h2, q2, q3, n_ct, h3]
  | succ d ih =>
    intro i k o hd hk ho hfit
    obtain ⟨k, rfl, hk⟩ := rounds hk
    have hi : i < l.length := by omega
    have hg := byV_get hi
    have ci : (0 : Int) ≤ (i : Int) ∧ (i : Int) < (l.length : Int) := by omega
    have hu := (l[i]).toNat_lt
    have hw : IntKind.i64.wrap (((l[i]).toNat : Nat) : Int) = (((l[i]).toNat : Nat) : Int) := wrap_i64 (by omega) (by omega)
    have g2 : flagstonelaw31_ColumnNames_G 2 [.int .i64 (((l[i]).toNat : Nat) : Int)] = _ := flagstonedata_Id_eq' (by omega)
    have r1 : room (o.length + 1) 16 := room16 (by omega)
    have := ih (i + 1) k (o ++ [idsL.getD ((l[i]).toNat % 6) []]) (by omega) (by omega) (by simp [ho]) (fun y hy => by
      rcases List.mem_append.1 hy with hy | hy
      · exact hfit y hy
      · simp only [List.mem_singleton] at hy; subst hy; exact ids_short _)
    rw [txV_snoc] at this
    rw [Lflagstonelaw31_ColumnNames_0_eq]
    simp only [byV_length, decide_eq_true (show ((i : Int) < (l.length : Int)) by omega), n_ct, if_pos ci, n_toNat, hg, n_bind, n_cells, n_get0, n_int, hw, g2, n_len0, n_len1, and_self, if_true, asStr_tx, str_tx, txV_length, if_pos r1, succ_wrap (i := i) (by omega)]
    exact this

theorem flagstonelaw31_ColumnNames_eq' {l : List UInt8} {at_ how c : Int} (ha : 0 ≤ at_ ∧ at_ < 65536) (hc : 0 ≤ c ∧ c < 256) :
    flagstonelaw31_ColumnNames [.sl 1 (byV l), .int .u16 at_, .int .u16 how, .int .u8 c] = some ([.bool true], []) := by
  have a4 : flagstonelaw31_ColumnNames_G 4 [] = some ([.bool true], []) := flagstonelaw31_awake_eq'
  unfold flagstonelaw31_ColumnNames
  rw [Rflagstonelaw31_ColumnNames_eq]
  by_cases h1 : l.length ≤ 200
  · have w := namesLaw_loop (how := how) h1 ha hc l.length 0 N0 [] (by omega) (N0_pos (by omega)) rfl (fun _ h => by simp at h)
    simp only [n_sl, n_int, n_bool, n_bind, a4, n_len0, n_len1, n_get0, and_self, if_true, n_nt, n_cf, byV_length, decide_eq_false (show ¬ ((l.length : Int) > 200) by omega)]
    exact w
  · simp only [n_sl, n_int, n_bool, n_bind, a4, n_len0, n_len1, n_get0, and_self, if_true, n_nt, n_cf, byV_length, decide_eq_true (show ((l.length : Int) > 200) by omega), n_ct]

end Go.Proofs.YtdhdhcllgkddnaaGreat.Va
