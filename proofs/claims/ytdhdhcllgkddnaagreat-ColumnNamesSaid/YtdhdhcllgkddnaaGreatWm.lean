/-
  Mathematics of the encodings of lists of numbers, and words for functions that are worked out.
-/
import Derived.Test.YtdhdhcllgkddnaaGreatWa2
import Derived.Test.YtdhdhcllgkddnaaGreatWb
namespace Go.Proofs.YtdhdhcllgkddnaaGreat.Va
open Go Go.RowKit

theorem wrap_in (n : Int) : I64 (IntKind.i64.wrap n) := by
  have e : IntKind.i64.wrap n = if n % 18446744073709551616 ≥ 9223372036854775808 then n % 18446744073709551616 - 18446744073709551616 else n % 18446744073709551616 := by simp [IntKind.wrap, IntKind.bits, IntKind.signed]
  rw [e]
  unfold I64
  split <;> omega
theorem I64_nat {n : Nat} (h : n < 9223372036854775808) : I64 (n : Int) := by unfold I64; omega
theorem take_succ {α : Type} {l : List α} {i : Nat} (h : i < l.length) : l.take (i + 1) = l.take i ++ [l[i]] := by rw [List.take_add_one, List.getElem?_eq_getElem h]; rfl
theorem grp_zig_len {x : Int} (h : I64 x) : (grp (zig x)).length ≤ 10 := grp_len 9 (zig x) (Nat.lt_trans (zig_lt h.1 h.2) (by decide))

def plainB (l : List Int) : List UInt8 := l.flatMap fun x => grp (zig x)
theorem plainB_cons (x : Int) (l : List Int) : plainB (x :: l) = grp (zig x) ++ plainB l := by simp [plainB]
theorem plainB_len : ∀ {l : List Int}, (∀ x ∈ l, I64 x) → (plainB l).length ≤ 10 * l.length
  | [], _ => by simp [plainB]
  | x :: l, h => by
    have h1 := grp_zig_len (h x (by simp))
    have h2 := plainB_len (l := l) fun y hy => h y (List.mem_cons_of_mem _ hy)
    rw [plainB_cons]
    simp only [List.length_append, List.length_cons]
    omega

def stepsFrom (p : Int) : List Int → List UInt8
  | [] => []
  | x :: xs => grp (zig (IntKind.i64.wrap (x - p))) ++ stepsFrom x xs
def stepsB (l : List Int) : List UInt8 := stepsFrom 0 l
theorem stepsFrom_len : ∀ (p : Int) (l : List Int), (stepsFrom p l).length ≤ 10 * l.length
  | p, [] => by simp [stepsFrom]
  | p, x :: l => by
    have h1 := grp_zig_len (wrap_in (x - p))
    have h2 := stepsFrom_len x l
    simp only [stepsFrom, List.length_append, List.length_cons]
    omega

def runOf (x : Int) : List Int → Nat
  | [] => 0
  | y :: ys => if y = x then runOf x ys + 1 else 0
theorem runOf_le (x : Int) : ∀ l, runOf x l ≤ l.length
  | [] => Nat.le_refl _
  | y :: ys => by
    have := runOf_le x ys
    unfold runOf
    split
    · simp; omega
    · simp
def runsB : List Int → List UInt8
  | [] => []
  | x :: xs => grp (zig x) ++ grp (zig ((runOf x xs + 1 : Nat) : Int)) ++ runsB (xs.drop (runOf x xs))
termination_by l => l.length
decreasing_by simp; omega

theorem runOf_rep (x : Int) (r : List Int) (h : ∀ y, r.head? = some y → y ≠ x) : ∀ m, runOf x (List.replicate m x ++ r) = m
  | 0 => by
    simp only [List.replicate_zero, List.nil_append]
    cases r with
    | nil => rfl
    | cons y ys => unfold runOf; rw [if_neg (h y rfl)]
  | m + 1 => by
    rw [List.replicate_succ, List.cons_append]
    unfold runOf
    rw [if_pos rfl, runOf_rep x r h m]
theorem runsB_rep (x : Int) (r : List Int) (h : ∀ y, r.head? = some y → y ≠ x) (m : Nat) : runsB (List.replicate (m + 1) x ++ r) = grp (zig x) ++ grp (zig ((m + 1 : Nat) : Int)) ++ runsB r := by
  rw [List.replicate_succ, List.cons_append, runsB, runOf_rep x r h m]
  congr 2
  rw [List.drop_append, List.length_replicate, Nat.sub_self, List.drop_zero, List.drop_eq_nil_of_le (by simp), List.nil_append]

/-- The place of v in a sorted list: how many go ahead. -/
def posOf (v : Int) : List Int → Nat
  | [] => 0
  | x :: xs => if x < v then posOf v xs + 1 else 0
def insD (s : List Int) (v : Int) : List Int := if s[posOf v s]? = some v then s else s.take (posOf v s) ++ [v] ++ s.drop (posOf v s)
def distinctL (l : List Int) : List Int := l.foldl insD []
theorem posOf_le (v : Int) : ∀ s, posOf v s ≤ s.length
  | [] => Nat.le_refl _
  | x :: xs => by
    have := posOf_le v xs
    unfold posOf
    split
    · simp; omega
    · simp
theorem posOf_step {v : Int} : ∀ {s : List Int} {j : Nat} (h : j < s.length), j ≤ posOf v s → s[j] < v → j + 1 ≤ posOf v s
  | [], j, h, _, _ => by simp at h
  | x :: xs, 0, _, _, hv => by
    unfold posOf
    rw [if_pos (by simpa using hv)]; omega
  | x :: xs, j + 1, h, hj, hv => by
    simp only [posOf] at hj ⊢
    split at hj
    · rename_i hx
      rw [if_pos hx]
      have := posOf_step (v := v) (s := xs) (j := j) (by simpa using h) (by omega) (by simpa using hv)
      omega
    · omega
theorem posOf_stop {v : Int} : ∀ {s : List Int} {j : Nat} (h : j < s.length), j ≤ posOf v s → ¬ s[j] < v → j = posOf v s
  | [], j, h, _, _ => by simp at h
  | x :: xs, 0, _, _, hv => by
    unfold posOf
    rw [if_neg (by simpa using hv)]
  | x :: xs, j + 1, h, hj, hv => by
    simp only [posOf] at hj ⊢
    split at hj
    · rename_i hx
      rw [if_pos hx]
      have := posOf_stop (v := v) (s := xs) (j := j) (by simpa using h) (by omega) (by simpa using hv)
      omega
    · omega
theorem insD_len (s : List Int) (v : Int) : (insD s v).length ≤ s.length + 1 := by
  have := posOf_le v s
  unfold insD
  split
  · omega
  · simp; omega
theorem foldl_insD_len : ∀ (l s : List Int), (l.foldl insD s).length ≤ s.length + l.length
  | [], s => by simp
  | x :: l, s => by
    have h1 := foldl_insD_len l (insD s x)
    have h2 := insD_len s x
    simp only [List.foldl_cons, List.length_cons]
    omega
theorem distinctL_len (l : List Int) : (distinctL l).length ≤ l.length := by simpa [distinctL] using foldl_insD_len l []

def idxFrom (i : Nat) (v : Int) : List Int → Int
  | [] => -1
  | x :: xs => if x = v then i else idxFrom (i + 1) v xs
def wid (u : Nat) : Nat := if u = 0 then 0 else wid (u / 2) + 1
termination_by u
decreasing_by omega
theorem wid_le : ∀ k u, u < 2 ^ k → wid u ≤ k
  | 0, u, h => by
    have : u = 0 := by simpa using h
    subst this
    rw [wid]; simp
  | k + 1, u, h => by
    rw [wid]
    split
    · omega
    · have := wid_le k (u / 2) (by rw [Nat.pow_succ] at h; omega)
      omega
def foldL (f : Int → Int → Int) : List Int → Int
  | [] => 0
  | x :: xs => xs.foldl f x

end Go.Proofs.YtdhdhcllgkddnaaGreat.Va

namespace Go.Proofs.YtdhdhcllgkddnaaGreat.Va
open Go Go.RowKit

def cstep (acc : List Int) (x : Int) : List Int := if acc.getLast? = some x then acc else acc ++ [x]
def compactL (l : List Int) : List Int := l.foldl cstep []
theorem cstep_last (acc : List Int) (x : Int) : (cstep acc x).getLast? = some x := by
  unfold cstep
  split
  · assumption
  · simp
theorem compactL_snoc (l : List Int) (x : Int) : compactL (l ++ [x]) = cstep (compactL l) x := by simp [compactL, List.foldl_append]
theorem compactL_last (l : List Int) (h : l ≠ []) : (compactL l).getLast? = l.getLast? := by
  obtain ⟨r, x, rfl⟩ : ∃ r x, l = r ++ [x] := ⟨l.dropLast, l.getLast h, (List.dropLast_concat_getLast h).symm⟩
  rw [compactL_snoc, cstep_last]
  simp
theorem compactL_len (l : List Int) : (compactL l).length ≤ l.length := by
  have : ∀ (l a : List Int), (l.foldl cstep a).length ≤ a.length + l.length := by
    intro l
    induction l with
    | nil => simp
    | cons x l ih =>
      intro a
      have h1 := ih (cstep a x)
      have h2 : (cstep a x).length ≤ a.length + 1 := by unfold cstep; split <;> simp
      simp only [List.foldl_cons, List.length_cons]
      omega
  simpa [compactL] using this l []
theorem compactL_take {l : List Int} {p : Nat} (hp : p < l.length) (h1 : 1 ≤ p) : compactL (l.take (p + 1)) = if l[p] = l[p - 1] then compactL (l.take p) else compactL (l.take p) ++ [l[p]] := by
  rw [take_succ hp, compactL_snoc]
  have hl : (compactL (l.take p)).getLast? = some l[p - 1] := by
    rw [compactL_last _ (by intro e; have := congrArg List.length e; rw [List.length_take, List.length_nil] at this; omega), List.getLast?_eq_getElem?]
    simp only [List.length_take, Nat.min_eq_left (Nat.le_of_lt hp)]
    rw [List.getElem?_take, if_pos (by omega), List.getElem?_eq_getElem (by omega)]
  unfold cstep
  rw [hl]
  by_cases h : l[p] = l[p - 1]
  · rw [if_pos h, if_pos (by rw [h])]
  · rw [if_neg h, if_neg (fun e => h (by simpa using e.symm))]
/-- No two neighbours are equal: nothing is left out. -/
theorem compactL_id : ∀ {l : List Int} {p : Nat}, p ≤ l.length → (∀ (j : Nat) (hj : j < l.length), 1 ≤ j → j < p → l[j] ≠ l[j - 1]) → compactL (l.take p) = l.take p
  | l, 0, _, _ => by simp [compactL]
  | l, p + 1, hp, h => by
    have ih := compactL_id (l := l) (p := p) (by omega) fun j hj h1 h2 => h j hj h1 (by omega)
    rcases Nat.eq_zero_or_pos p with rfl | h0
    · rw [take_succ (by omega)]
      simp [compactL, cstep]
    · rw [compactL_take (by omega) h0, if_neg (h p (by omega) h0 (by omega)), ih, take_succ (by omega)]

abbrev Asc (l : List Int) : Prop := l.Pairwise (· < ·)
theorem asc_ext : ∀ {a b : List Int}, Asc a → Asc b → (∀ x, x ∈ a ↔ x ∈ b) → a = b
  | [], [], _, _, _ => rfl
  | [], y :: b, _, _, h => absurd ((h y).2 (by simp)) (by simp)
  | x :: a, [], _, _, h => absurd ((h x).1 (by simp)) (by simp)
  | x :: a, y :: b, ha, hb, h => by
    have ha' := List.pairwise_cons.1 ha
    have hb' := List.pairwise_cons.1 hb
    have hxy : x = y := by
      rcases List.mem_cons.1 ((h x).1 (by simp)) with e | e
      · exact e
      · rcases List.mem_cons.1 ((h y).2 (by simp)) with e' | e'
        · exact e'.symm
        · have := hb'.1 x e
          have := ha'.1 y e'
          omega
    subst hxy
    rw [asc_ext ha'.2 hb'.2 fun z => ?_]
    constructor
    · intro hz
      rcases List.mem_cons.1 ((h z).1 (List.mem_cons_of_mem _ hz)) with e | e
      · have := ha'.1 z hz; omega
      · exact e
    · intro hz
      rcases List.mem_cons.1 ((h z).2 (List.mem_cons_of_mem _ hz)) with e | e
      · have := hb'.1 z hz; omega
      · exact e

theorem posOf_lt {v : Int} : ∀ {s : List Int} {j : Nat} (hj : j < s.length), j < posOf v s → s[j] < v
  | [], j, hj, _ => by simp at hj
  | x :: xs, j, hj, h => by
    unfold posOf at h
    split at h
    · cases j with
      | zero => simpa using by assumption
      | succ j => simpa using posOf_lt (v := v) (s := xs) (j := j) (by simpa using hj) (by omega)
    · omega
theorem posOf_ge {v : Int} : ∀ {s : List Int} {j : Nat} (hj : j < s.length), Asc s → posOf v s ≤ j → v ≤ s[j]
  | [], j, hj, _, _ => by simp at hj
  | x :: xs, j, hj, ha, h => by
    have ha' := List.pairwise_cons.1 ha
    unfold posOf at h
    split at h
    · cases j with
      | zero => omega
      | succ j => simpa using posOf_ge (v := v) (s := xs) (j := j) (by simpa using hj) ha'.2 (by omega)
    · rename_i hx
      cases j with
      | zero => simp; omega
      | succ j =>
        have hj' : j < xs.length := by simpa using hj
        have := ha'.1 xs[j] (List.getElem_mem _)
        simp
        omega
theorem mem_insD {s : List Int} {v x : Int} : x ∈ insD s v ↔ x = v ∨ x ∈ s := by
  unfold insD
  split
  · rename_i h
    constructor
    · exact fun h => .inr h
    · rintro (rfl | h')
      · exact List.mem_of_getElem? h
      · exact h'
  · simp only [List.mem_append, List.mem_singleton]
    constructor
    · rintro ((h | h) | h)
      · exact .inr (List.mem_of_mem_take h)
      · exact .inl h
      · exact .inr (List.mem_of_mem_drop h)
    · rintro (h | h)
      · exact .inl (.inr h)
      · rw [← List.take_append_drop (posOf v s) s] at h
        rcases List.mem_append.1 h with h | h
        · exact .inl (.inl h)
        · exact .inr h
theorem insD_asc {s : List Int} {v : Int} (h : Asc s) : Asc (insD s v) := by
  unfold insD
  split
  · exact h
  · rename_i hne
    have h1 : ∀ x ∈ s.take (posOf v s), x < v := fun x hx => by
      obtain ⟨j, hj, rfl⟩ := List.mem_iff_getElem.1 hx
      simp only [List.getElem_take]
      simp only [List.length_take] at hj
      exact posOf_lt (by omega) (by omega)
    have h2 : ∀ x ∈ s.drop (posOf v s), v < x := fun x hx => by
      obtain ⟨j, hj, rfl⟩ := List.mem_iff_getElem.1 hx
      simp only [List.getElem_drop]
      simp only [List.length_drop] at hj
      have hp : posOf v s < s.length := by omega
      have h3 := posOf_ge (v := v) (s := s) (j := posOf v s) hp h (Nat.le_refl _)
      have h4 : s[posOf v s] ≠ v := fun e => hne (by rw [List.getElem?_eq_getElem hp, e])
      have h5 := posOf_ge (v := v) (s := s) (j := posOf v s + j) (by omega) h (by omega)
      rcases Nat.eq_zero_or_pos j with e | e
      · subst e; simp only [Nat.add_zero] at h5 ⊢; omega
      · have := List.pairwise_iff_getElem.1 h (posOf v s) (posOf v s + j) hp (by omega) (by omega)
        omega
    have hs := h
    rw [← List.take_append_drop (posOf v s) s] at hs
    obtain ⟨k1, k2, k3⟩ := List.pairwise_append.1 hs
    rw [List.append_assoc]
    refine List.pairwise_append.2 ⟨k1, ?_, fun x hx y hy => ?_⟩
    · simp only [List.singleton_append]
      exact List.pairwise_cons.2 ⟨h2, k2⟩
    · simp only [List.singleton_append, List.mem_cons] at hy
      rcases hy with rfl | hy
      · exact h1 x hx
      · exact k3 x hx y hy
theorem foldl_insD : ∀ (l s : List Int), Asc s → Asc (l.foldl insD s) ∧ ∀ x, x ∈ l.foldl insD s ↔ x ∈ s ∨ x ∈ l
  | [], s, h => ⟨h, by simp⟩
  | y :: l, s, h => by
    obtain ⟨h1, h2⟩ := foldl_insD l (insD s y) (insD_asc h)
    refine ⟨h1, fun x => ?_⟩
    simp only [List.foldl_cons, h2, mem_insD, List.mem_cons]
    constructor
    · rintro ((h | h) | h)
      · exact .inr (.inl h)
      · exact .inl h
      · exact .inr (.inr h)
    · rintro (h | h | h)
      · exact .inl (.inr h)
      · exact .inl (.inl h)
      · exact .inr h
theorem distinctL_asc (l : List Int) : Asc (distinctL l) := (foldl_insD l [] .nil).1
theorem mem_distinctL {l : List Int} {x : Int} : x ∈ distinctL l ↔ x ∈ l := by simpa [distinctL] using (foldl_insD l [] .nil).2 x

theorem compactL_facts : ∀ (l : List Int), l.Pairwise (· ≤ ·) → Asc (compactL l) ∧ ∀ x, x ∈ compactL l ↔ x ∈ l := by
  intro l
  have key : ∀ (n : Nat) (l : List Int), l.length = n → l.Pairwise (· ≤ ·) → Asc (compactL l) ∧ ∀ x, x ∈ compactL l ↔ x ∈ l := by
    intro n
    induction n with
    | zero => intro l hl _; have := List.eq_nil_of_length_eq_zero hl; subst this; exact ⟨.nil, by simp [compactL]⟩
    | succ n ih =>
      intro l hl hs
      obtain ⟨r, x, rfl⟩ : ∃ r x, l = r ++ [x] := by
        have hne : l ≠ [] := fun e => by subst e; simp at hl
        exact ⟨l.dropLast, l.getLast hne, (List.dropLast_concat_getLast hne).symm⟩
      obtain ⟨s1, s2, s3⟩ := List.pairwise_append.1 hs
      obtain ⟨h1, h2⟩ := ih r (by simpa using hl) s1
      rw [compactL_snoc]
      unfold cstep
      split
      · rename_i he
        refine ⟨h1, fun y => ?_⟩
        rw [h2 y, List.mem_append, List.mem_singleton]
        constructor
        · exact .inl
        · rintro (h | rfl)
          · exact h
          · exact (h2 y).1 (List.mem_of_getLast? he)
      · rename_i he
        refine ⟨List.pairwise_append.2 ⟨h1, List.pairwise_singleton _ _, fun y hy z hz => ?_⟩, fun y => by simp [h2 y]⟩
        simp only [List.mem_singleton] at hz
        subst hz
        have hle := s3 y ((h2 y).1 hy) z (by simp)
        rcases Int.lt_or_eq_of_le hle with h | h
        · exact h
        · exfalso
          subst h
          -- y is the last of r, since r is sorted and y is the greatest
          have hr : r ≠ [] := fun e => by subst e; simp [compactL] at hy
          have hlast := compactL_last r hr
          obtain ⟨w, hw⟩ : ∃ w, r.getLast? = some w := ⟨r.getLast hr, List.getLast?_eq_some_getLast hr⟩
          have hwr : w ∈ r := List.mem_of_getLast? hw
          have h5 := s3 w hwr y (by simp)
          have h6 : y ≤ w := by
            have hyr := (h2 y).1 hy
            obtain ⟨q, hq⟩ : ∃ q, r = q ++ [w] := by
              have := List.dropLast_concat_getLast hr
              have e : r.getLast hr = w := by rw [List.getLast?_eq_some_getLast hr] at hw; simpa using hw
              exact ⟨r.dropLast, by rw [← e, this]⟩
            rw [hq] at hyr s1
            obtain ⟨_, _, t3⟩ := List.pairwise_append.1 s1
            rcases List.mem_append.1 hyr with h | h
            · exact t3 y h w (by simp)
            · simp only [List.mem_singleton] at h; omega
          have : w = y := by omega
          subst this
          exact he (by rw [hlast, hw])
  exact key l.length l rfl

def sortL (l : List Int) : List Int := l.mergeSort fun x y => decide (x ≤ y)
theorem sortL_length (l : List Int) : (sortL l).length = l.length := List.length_mergeSort ..
theorem mem_sortL {l : List Int} {x : Int} : x ∈ sortL l ↔ x ∈ l := List.mem_mergeSort
theorem sortL_sorted (l : List Int) : (sortL l).Pairwise (· ≤ ·) := by
  have := List.pairwise_mergeSort (le := fun x y : Int => decide (x ≤ y)) (fun a b c h1 h2 => by simp at *; omega) (fun a b => by simp; omega) l
  exact this.imp fun h => by simpa using h
theorem compact_sort (l : List Int) : compactL (sortL l) = distinctL l := by
  obtain ⟨h1, h2⟩ := compactL_facts (sortL l) (sortL_sorted l)
  exact asc_ext h1 (distinctL_asc l) fun x => by rw [h2, mem_sortL, mem_distinctL]

theorem idxFrom_pos {v : Int} : ∀ {s : List Int} {k : Nat}, Asc s → v ∈ s → idxFrom k v s = ((k + posOf v s : Nat) : Int) ∧ s[posOf v s]? = some v
  | [], k, _, h => by simp at h
  | x :: xs, k, ha, h => by
    have ha' := List.pairwise_cons.1 ha
    unfold idxFrom posOf
    by_cases e : x = v
    · subst e
      rw [if_pos rfl, if_neg (by omega)]
      simp
    · rw [if_neg e]
      have hv := (List.mem_cons.1 h).resolve_left fun e' => e e'.symm
      have hlt := ha'.1 v hv
      rw [if_pos hlt]
      obtain ⟨h1, h2⟩ := idxFrom_pos (k := k + 1) ha'.2 hv
      refine ⟨by rw [h1]; omega, by simpa using h2⟩

end Go.Proofs.YtdhdhcllgkddnaaGreat.Va

namespace Go.Proofs.YtdhdhcllgkddnaaGreat.Va
open Go Go.RowKit

def u8V (l : List Int) : List V := l.map (V.int .u8)
@[simp] theorem u8V_length (l : List Int) : (u8V l).length = l.length := by simp [u8V]
@[simp] theorem u8V_getElem {l : List Int} {i : Nat} (h : i < (u8V l).length) : (u8V l)[i]'h = V.int .u8 (l[i]'(by simpa using h)) := by simp [u8V]
theorem u8V_set (l : List Int) (i : Nat) (x : Int) : (u8V l).set i (.int .u8 x) = u8V (l.set i x) := by simp [u8V, List.map_set]
theorem u8V_rep (n : Nat) (x : Int) : List.replicate n (V.int .u8 x) = u8V (List.replicate n x) := by simp [u8V]

/-- One bit of u, put at place a of a byte. -/
def orB (old u : Int) (k a : Nat) : Int := bits .or .u8 old (IntKind.u8.wrap (IntKind.u8.wrap (bits .and .u64 (u.fdiv (2 ^ min k 64)) 1) * 2 ^ min (a % 8) 8))
def packIn (u : Int) (i w : Nat) : Nat → Nat → List Int → List Int
  | 0, _, p => p
  | d + 1, k, p => packIn u i w d (k + 1) (p.set ((i * w + k) / 8) (orB (p.getD ((i * w + k) / 8) 0) u k (i * w + k)))
def offU (x least : Int) : Int := IntKind.u64.wrap (IntKind.u64.wrap x - IntKind.u64.wrap least)
def packOut (least : Int) (w : Nat) : List Int → Nat → List Int → List Int
  | [], _, p => p
  | x :: xs, i, p => packOut least w xs (i + 1) (packIn (offU x least) i w w 0 p)
theorem packIn_length (u : Int) (i w : Nat) : ∀ (d k : Nat) (p : List Int), (packIn u i w d k p).length = p.length
  | 0, _, _ => rfl
  | d + 1, k, p => by simp only [packIn]; rw [packIn_length]; simp
theorem packOut_length (least : Int) (w : Nat) : ∀ (l : List Int) (i : Nat) (p : List Int), (packOut least w l i p).length = p.length
  | [], _, _ => rfl
  | x :: xs, i, p => by simp only [packOut]; rw [packOut_length, packIn_length]
theorem orB_range (old u : Int) (k a : Nat) : 0 ≤ orB old u k a ∧ orB old u k a < 256 := by
  unfold orB bits
  have : ∀ n : Int, 0 ≤ IntKind.u8.wrap n ∧ IntKind.u8.wrap n < 256 := fun n => by rw [wrap_u8]; omega
  exact this _
def Bytes (p : List Int) : Prop := ∀ x ∈ p, 0 ≤ x ∧ x < 256
theorem packIn_bytes (u : Int) (i w : Nat) : ∀ (d k : Nat) (p : List Int), Bytes p → Bytes (packIn u i w d k p)
  | 0, _, _, h => h
  | d + 1, k, p, h => packIn_bytes u i w d (k + 1) _ fun x hx => by
    rcases List.mem_or_eq_of_mem_set hx with hx | rfl
    · exact h x hx
    · exact orB_range _ _ _ _
theorem packOut_bytes (least : Int) (w : Nat) : ∀ (l : List Int) (i : Nat) (p : List Int), Bytes p → Bytes (packOut least w l i p)
  | [], _, _, h => h
  | _ :: xs, i, _, h => packOut_bytes least w xs (i + 1) _ (packIn_bytes _ _ _ _ _ _ h)
theorem rep_bytes (n : Nat) : Bytes (List.replicate n 0) := fun _ hx => by rw [(List.mem_replicate.1 hx).2]; omega
theorem u8V_byV {p : List Int} (h : Bytes p) : u8V p = byV (p.map fun x => UInt8.ofNat x.toNat) := by
  unfold u8V byV
  rw [List.map_map]
  refine List.map_congr_left fun x hx => ?_
  have := h x hx
  simp only [Function.comp_def, UInt8.toNat_ofNat']
  congr 1
  omega

def minL (l : List Int) : Int := foldL (fun a b => if b < a then b else a) l
def maxL (l : List Int) : Int := foldL (fun a b => if b > a then b else a) l
/-- The bytes of the packed bits. -/
def packB (least : Int) (w : Nat) (l : List Int) : List UInt8 := (packOut least w l 0 (List.replicate ((l.length * w + 7) / 8) 0)).map fun x => UInt8.ofNat x.toNat
def widthL (l : List Int) : Nat := wid (maxL l - minL l).toNat
def bitsB (l : List Int) : List UInt8 := grp (zig (minL l)) ++ grp (zig (widthL l : Int)) ++ packB (minL l) (widthL l) l

theorem minL_facts : ∀ {l : List Int}, l ≠ [] → minL l ∈ l ∧ ∀ x ∈ l, minL l ≤ x
  | [], h => absurd rfl h
  | x :: l, _ => by
    have : ∀ (l : List Int) (a : Int), (l.foldl (fun a b => if b < a then b else a) a = a ∨ l.foldl (fun a b => if b < a then b else a) a ∈ l) ∧ l.foldl (fun a b => if b < a then b else a) a ≤ a ∧ ∀ y ∈ l, l.foldl (fun a b => if b < a then b else a) a ≤ y := by
      intro l
      induction l with
      | nil => intro a; simp
      | cons y l ih =>
        intro a
        obtain ⟨h1, h2, h3⟩ := ih (if y < a then y else a)
        simp only [List.foldl_cons, List.mem_cons]
        refine ⟨?_, ?_, ?_⟩
        · rcases h1 with h1 | h1
          · rw [h1]
            split
            · exact .inr (.inl rfl)
            · exact .inl rfl
          · exact .inr (.inr h1)
        · have : (if y < a then y else a) ≤ a := by split <;> omega
          omega
        · rintro z (rfl | hz)
          · have : (if z < a then z else a) ≤ z := by split <;> omega
            omega
          · exact h3 z hz
    obtain ⟨h1, h2, h3⟩ := this l x
    refine ⟨?_, ?_⟩
    · simp only [minL, foldL, List.mem_cons]; exact h1
    · intro y hy
      rcases List.mem_cons.1 hy with rfl | hy
      · exact h2
      · exact h3 y hy
theorem maxL_facts : ∀ {l : List Int}, l ≠ [] → maxL l ∈ l ∧ ∀ x ∈ l, x ≤ maxL l
  | [], h => absurd rfl h
  | x :: l, _ => by
    have : ∀ (l : List Int) (a : Int), (l.foldl (fun a b => if b > a then b else a) a = a ∨ l.foldl (fun a b => if b > a then b else a) a ∈ l) ∧ a ≤ l.foldl (fun a b => if b > a then b else a) a ∧ ∀ y ∈ l, y ≤ l.foldl (fun a b => if b > a then b else a) a := by
      intro l
      induction l with
      | nil => intro a; simp
      | cons y l ih =>
        intro a
        obtain ⟨h1, h2, h3⟩ := ih (if y > a then y else a)
        simp only [List.foldl_cons, List.mem_cons]
        refine ⟨?_, ?_, ?_⟩
        · rcases h1 with h1 | h1
          · rw [h1]
            split
            · exact .inr (.inl rfl)
            · exact .inl rfl
          · exact .inr (.inr h1)
        · have : a ≤ (if y > a then y else a) := by split <;> omega
          omega
        · rintro z (rfl | hz)
          · have : z ≤ (if z > a then z else a) := by split <;> omega
            omega
          · exact h3 z hz
    obtain ⟨h1, h2, h3⟩ := this l x
    refine ⟨?_, ?_⟩
    · simp only [maxL, foldL, List.mem_cons]; exact h1
    · intro y hy
      rcases List.mem_cons.1 hy with rfl | hy
      · exact h2
      · exact h3 y hy
/-- The ends of the sorted list are the least and the greatest. -/
theorem distinct_ends {l : List Int} (h : l ≠ []) : ∃ h0 : 0 < (distinctL l).length, (distinctL l)[0] = minL l ∧ (distinctL l)[(distinctL l).length - 1]'(by omega) = maxL l := by
  obtain ⟨m1, m2⟩ := minL_facts h
  obtain ⟨m3, m4⟩ := maxL_facts h
  have h0 : 0 < (distinctL l).length := List.length_pos_of_mem (mem_distinctL.2 m1)
  have hs := distinctL_asc l
  refine ⟨h0, ?_, ?_⟩
  · obtain ⟨j, hj, e⟩ := List.mem_iff_getElem.1 (mem_distinctL.2 m1)
    have h1 := m2 _ (mem_distinctL.1 (List.getElem_mem h0))
    rcases Nat.eq_zero_or_pos j with rfl | hp
    · exact e
    · have := List.pairwise_iff_getElem.1 hs 0 j h0 hj hp
      omega
  · obtain ⟨j, hj, e⟩ := List.mem_iff_getElem.1 (mem_distinctL.2 m3)
    have h1 := m4 _ (mem_distinctL.1 (List.getElem_mem (show (distinctL l).length - 1 < (distinctL l).length by omega)))
    rcases Nat.lt_or_ge j ((distinctL l).length - 1) with hp | hp
    · have := List.pairwise_iff_getElem.1 hs j ((distinctL l).length - 1) hj (by omega) hp
      omega
    · have : j = (distinctL l).length - 1 := by omega
      subst this
      exact e
theorem offU_eq {x least : Int} (h1 : I64 x) (h2 : I64 least) (h : least ≤ x) : offU x least = ((x - least).toNat : Int) := by
  unfold offU
  rw [wrap_u64, wrap_u64, wrap_u64]
  have := h1.1; have := h1.2; have := h2.1; have := h2.2
  omega
theorem wid_bound {u : Nat} (h : u < 18446744073709551616) : wid u ≤ 64 := wid_le 64 u h
theorem widthL_le {l : List Int} (hI : ∀ x ∈ l, I64 x) (h : l ≠ []) : widthL l ≤ 64 := by
  have h1 := hI _ (minL_facts h).1
  have h2 := hI _ (maxL_facts h).1
  exact wid_bound (by have := h1.1; have := h2.2; omega)

end Go.Proofs.YtdhdhcllgkddnaaGreat.Va

namespace Go.Proofs.YtdhdhcllgkddnaaGreat.Va
open Go Go.RowKit

@[simp] theorem asInt_int (k : IntKind) (n : Int) : asInt k (.int k n) = some n := by simp [asInt]
@[simp] theorem asBool_bool (b : Bool) : asBool (.bool b) = some b := rfl
@[simp] theorem asStr_str (s : ByteArray) : asStr (.str s) = some s := rfl
@[simp] theorem asSl_sl (sz : Nat) (xs : List V) : asSl sz (.sl sz xs) = some xs := by simp [asSl]
@[simp] theorem asAgg_agg (cs : List V) : asAgg (.agg cs) = some cs := rfl
@[simp] theorem cells_int (k : IntKind) (n : Int) : (V.int k n).cells = [.int k n] := rfl
@[simp] theorem cells_bool (b : Bool) : (V.bool b).cells = [.bool b] := rfl
@[simp] theorem cells_str (s : ByteArray) : (V.str s).cells = [.str s] := rfl
@[simp] theorem cells_sl (sz : Nat) (xs : List V) : (V.sl sz xs).cells = [.sl sz xs] := rfl
@[simp] theorem cells_agg (cs : List V) : (V.agg cs).cells = cs := rfl
@[simp] theorem bare_int (k : IntKind) (n : Int) : (V.int k n).bare = true := rfl
@[simp] theorem bare_bool (b : Bool) : (V.bool b).bare = true := rfl
@[simp] theorem bare_str (s : ByteArray) : (V.str s).bare = true := rfl
@[simp] theorem setCells_int (k : IntKind) (n : Int) (y : V) : (V.int k n).setCells 0 [y] = y := rfl
@[simp] theorem bare_byV (b : List UInt8) : (byV b).all V.bare = true := by simp [byV, List.all_eq_true]
@[simp] theorem bare_intV (b : List Int) : (intV b).all V.bare = true := by simp [intV, List.all_eq_true]
@[simp] theorem isU8_byV (b : List UInt8) : (byV b).all V.isU8 = true := by simp [byV, List.all_eq_true, V.isU8]
@[simp] theorem byte_byV (b : List UInt8) : (byV b).map V.byte = b := by
  simp only [byV, List.map_map]
  conv => rhs; rw [← List.map_id b]
  refine List.map_congr_left fun x _ => ?_
  simp [V.byte]
@[simp] theorem intV_getElem {l : List Int} {i : Nat} (h : i < (intV l).length) : (intV l)[i]'h = V.int .i64 (l[i]'(by simpa using h)) := by simp [intV]
@[simp] theorem byV_getElem {l : List UInt8} {i : Nat} (h : i < (byV l).length) : (byV l)[i]'h = V.int .u8 ((l[i]'(by simpa using h)).toNat : Int) := by simp [byV]
@[simp] theorem intV_eq_nil {l : List Int} : intV l = [] ↔ l = [] := by simp [intV]
@[simp] theorem byV_eq_nil {l : List UInt8} : byV l = [] ↔ l = [] := by simp [byV]
theorem room_of {n b : Nat} (h : n * b ≤ 140737488355328) (h1 : n ≤ 9223372036854775807) : room n b := ⟨h, h1⟩
/-- A number that fits easily. -/
theorem room1 {n : Nat} (h : n ≤ 140737488355328) : room n 1 := ⟨by omega, by omega⟩
theorem room8 {n : Nat} (h : n ≤ 17592186044416) : room n 8 := ⟨by omega, by omega⟩
theorem N0_pos {k : Nat} (h : k < 18446744073709551616) : k < N0 := by unfold N0; exact h
/-- One round more. -/
theorem rounds {k j : Nat} (h : j < k) : ∃ k', k = k' + 1 ∧ j ≤ k' := ⟨k - 1, by omega, by omega⟩

end Go.Proofs.YtdhdhcllgkddnaaGreat.Va

namespace Go.Proofs.YtdhdhcllgkddnaaGreat.Va
open Go Go.RowKit

theorem n_bind {α β : Type} (x : α) (f : α → Option β) : Option.bind (some x) f = f x := Eq.trans rfl rfl
theorem n_bindn {α β : Type} (f : α → Option β) : Option.bind none f = none := Eq.trans rfl rfl
theorem n_get0 {α : Type} (x : α) (l : List α) : (x :: l)[0]? = some x := Eq.trans rfl rfl
theorem n_get1 {α : Type} (x y : α) (l : List α) : (x :: y :: l)[1]? = some y := Eq.trans rfl rfl
theorem n_get2 {α : Type} (x y z : α) (l : List α) : (x :: y :: z :: l)[2]? = some z := Eq.trans rfl rfl
theorem n_get3 {α : Type} (x y z u : α) (l : List α) : (x :: y :: z :: u :: l)[3]? = some u := Eq.trans rfl rfl
theorem n_len0 {α : Type} : ([] : List α).length = 0 := Eq.trans rfl rfl
theorem n_len1 {α : Type} (x : α) : [x].length = 1 := Eq.trans rfl rfl
theorem n_len2 {α : Type} (x y : α) : [x, y].length = 2 := Eq.trans rfl rfl
theorem n_len3 {α : Type} (x y z : α) : [x, y, z].length = 3 := Eq.trans rfl rfl
theorem n_len4 {α : Type} (x y z u : α) : [x, y, z, u].length = 4 := Eq.trans rfl rfl
theorem n_ct {α : Type} (x y : α) : (bif true then x else y) = x := Eq.trans rfl rfl
theorem n_cf {α : Type} (x y : α) : (bif false then x else y) = y := Eq.trans rfl rfl
theorem n_nt : (!true) = false := Eq.trans rfl rfl
theorem n_nf : (!false) = true := Eq.trans rfl rfl
theorem n_int (k : IntKind) (n : Int) : asInt k (.int k n) = some n := by simp [asInt]
theorem n_bool (b : Bool) : asBool (.bool b) = some b := Eq.trans rfl rfl
theorem n_str (s : ByteArray) : asStr (.str s) = some s := Eq.trans rfl rfl
theorem n_sl (sz : Nat) (xs : List V) : asSl sz (.sl sz xs) = some xs := by simp [asSl]
theorem n_agg (cs : List V) : asAgg (.agg cs) = some cs := Eq.trans rfl rfl
theorem n_cells (k : IntKind) (n : Int) : (V.int k n).cells = [.int k n] := Eq.trans rfl rfl
theorem n_cellsb (b : Bool) : (V.bool b).cells = [.bool b] := Eq.trans rfl rfl
theorem n_cellss (s : ByteArray) : (V.str s).cells = [.str s] := Eq.trans rfl rfl
theorem n_cellsl (sz : Nat) (xs : List V) : (V.sl sz xs).cells = [.sl sz xs] := Eq.trans rfl rfl
theorem n_cellsa (cs : List V) : (V.agg cs).cells = cs := Eq.trans rfl rfl
theorem n_drop0 {α : Type} (l : List α) : l.drop 0 = l := Eq.trans rfl rfl
theorem n_napp {α : Type} (l : List α) : [] ++ l = l := Eq.trans rfl rfl
theorem n_toNat (n : Nat) : ((n : Nat) : Int).toNat = n := Eq.trans rfl rfl
theorem n_cast0 : ((0 : Nat) : Int) = 0 := Eq.trans rfl rfl
theorem n_toNat0 : (0 : Int).toNat = 0 := Eq.trans rfl rfl
theorem n_ge (a b : Int) : (a ≥ b) = (b ≤ a) := Eq.trans rfl rfl
theorem n_gt (a b : Int) : (a > b) = (b < a) := Eq.trans rfl rfl
theorem n_nil : byV [] = [] := Eq.trans rfl rfl
theorem n_nili : intV [] = [] := Eq.trans rfl rfl
theorem n_ne0 : ((0 : Int) != 0) = false := Eq.trans rfl rfl
theorem n_eq0 : ((0 : Int) == 0) = true := Eq.trans rfl rfl

end Go.Proofs.YtdhdhcllgkddnaaGreat.Va
