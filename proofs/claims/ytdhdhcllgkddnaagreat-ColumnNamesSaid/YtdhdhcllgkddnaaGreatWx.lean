/-
  Lists of texts: their mathematics, Sort and Clone at texts, and functions of the program, worked out by program.
-/
import Derived.Test.YtdhdhcllgkddnaaGreatWr
import Derived.Shelf.Sort.Plain
import Derived.Test.YtdhdhcllgkddnaaGreatProg
import Derived.Shelf.Slices.In.SortNone
import Derived.Test.YtdhdhcllgkddnaaGreatWs
import Derived.Test.YtdhdhcllgkddnaaGreatWb
import Derived.Test.YtdhdhcllgkddnaaGreatWp
import Derived.Test.YtdhdhcllgkddnaaGreatWu
namespace Go.Proofs.YtdhdhcllgkddnaaGreat.Va
open Go Go.RowKit

/-- A text: its bytes. -/
abbrev Str := List UInt8
theorem s_lt_of {a b : Str} (h : a ≤ b) (hne : a ≠ b) : a < b := Decidable.byContradiction fun hn => hne (List.le_antisymm h hn)
theorem s_lt_or_eq {a b : Str} (h : a ≤ b) : a < b ∨ a = b := by
  by_cases e : a = b
  · exact .inr e
  · exact .inl (s_lt_of h e)

/-- The place of v in a sorted list: how many go ahead. -/
def posS (v : Str) : List Str → Nat
  | [] => 0
  | x :: xs => if x < v then posS v xs + 1 else 0
def insS (s : List Str) (v : Str) : List Str := if s[posS v s]? = some v then s else s.take (posS v s) ++ [v] ++ s.drop (posS v s)
def distS (l : List Str) : List Str := l.foldl insS []
theorem posS_le (v : Str) : ∀ s, posS v s ≤ s.length
  | [] => Nat.le_refl _
  | x :: xs => by
    have := posS_le v xs
    unfold posS
    split
    · simp; omega
    · simp
theorem posS_step {v : Str} : ∀ {s : List Str} {j : Nat} (h : j < s.length), j ≤ posS v s → s[j] < v → j + 1 ≤ posS v s
  | [], j, h, _, _ => by simp at h
  | x :: xs, 0, _, _, hv => by
    unfold posS
    rw [if_pos (by simpa using hv)]; omega
  | x :: xs, j + 1, h, hj, hv => by
    simp only [posS] at hj ⊢
    split at hj
    · rename_i hx
      rw [if_pos hx]
      have := posS_step (v := v) (s := xs) (j := j) (by simpa using h) (by omega) (by simpa using hv)
      omega
    · omega
theorem posS_stop {v : Str} : ∀ {s : List Str} {j : Nat} (h : j < s.length), j ≤ posS v s → ¬ s[j] < v → j = posS v s
  | [], j, h, _, _ => by simp at h
  | x :: xs, 0, _, _, hv => by
    unfold posS
    rw [if_neg (by simpa using hv)]
  | x :: xs, j + 1, h, hj, hv => by
    simp only [posS] at hj ⊢
    split at hj
    · rename_i hx
      rw [if_pos hx]
      have := posS_stop (v := v) (s := xs) (j := j) (by simpa using h) (by omega) (by simpa using hv)
      omega
    · omega
theorem insS_len (s : List Str) (v : Str) : (insS s v).length ≤ s.length + 1 := by
  have := posS_le v s
  unfold insS
  split
  · omega
  · simp; omega
theorem foldl_insS_len : ∀ (l s : List Str), (l.foldl insS s).length ≤ s.length + l.length
  | [], s => by simp
  | x :: l, s => by
    have h1 := foldl_insS_len l (insS s x)
    have h2 := insS_len s x
    simp only [List.foldl_cons, List.length_cons]
    omega
theorem distS_len (l : List Str) : (distS l).length ≤ l.length := by simpa [distS] using foldl_insS_len l []

def cstepS (acc : List Str) (x : Str) : List Str := if acc.getLast? = some x then acc else acc ++ [x]
def compS (l : List Str) : List Str := l.foldl cstepS []
theorem cstepS_last (acc : List Str) (x : Str) : (cstepS acc x).getLast? = some x := by
  unfold cstepS
  split
  · assumption
  · simp
theorem compS_snoc (l : List Str) (x : Str) : compS (l ++ [x]) = cstepS (compS l) x := by simp [compS, List.foldl_append]
theorem compS_last (l : List Str) (h : l ≠ []) : (compS l).getLast? = l.getLast? := by
  obtain ⟨r, x, rfl⟩ : ∃ r x, l = r ++ [x] := ⟨l.dropLast, l.getLast h, (List.dropLast_concat_getLast h).symm⟩
  rw [compS_snoc, cstepS_last]
  simp
theorem compS_len (l : List Str) : (compS l).length ≤ l.length := by
  have : ∀ (l a : List Str), (l.foldl cstepS a).length ≤ a.length + l.length := by
    intro l
    induction l with
    | nil => simp
    | cons x l ih =>
      intro a
      have h1 := ih (cstepS a x)
      have h2 : (cstepS a x).length ≤ a.length + 1 := by unfold cstepS; split <;> simp
      simp only [List.foldl_cons, List.length_cons]
      omega
  simpa [compS] using this l []
theorem compS_take {l : List Str} {p : Nat} (hp : p < l.length) (h1 : 1 ≤ p) : compS (l.take (p + 1)) = if l[p] = l[p - 1] then compS (l.take p) else compS (l.take p) ++ [l[p]] := by
  rw [take_succ hp, compS_snoc]
  have hl : (compS (l.take p)).getLast? = some l[p - 1] := by
    rw [compS_last _ (by intro e; have := congrArg List.length e; rw [List.length_take, List.length_nil] at this; omega), List.getLast?_eq_getElem?]
    simp only [List.length_take, Nat.min_eq_left (Nat.le_of_lt hp)]
    rw [List.getElem?_take, if_pos (by omega), List.getElem?_eq_getElem (by omega)]
  unfold cstepS
  rw [hl]
  by_cases h : l[p] = l[p - 1]
  · rw [if_pos h, if_pos (by rw [h])]
  · rw [if_neg h, if_neg (fun e => h (by simpa using e.symm))]
/-- No two neighbours are equal: nothing is left out. -/
theorem compS_id : ∀ {l : List Str} {p : Nat}, p ≤ l.length → (∀ (j : Nat) (hj : j < l.length), 1 ≤ j → j < p → l[j] ≠ l[j - 1]) → compS (l.take p) = l.take p
  | l, 0, _, _ => by simp [compS]
  | l, p + 1, hp, h => by
    have ih := compS_id (l := l) (p := p) (by omega) fun j hj h1 h2 => h j hj h1 (by omega)
    rcases Nat.eq_zero_or_pos p with rfl | h0
    · rw [take_succ (by omega)]
      simp [compS, cstepS]
    · rw [compS_take (by omega) h0, if_neg (h p (by omega) h0 (by omega)), ih, take_succ (by omega)]

abbrev AscS (l : List Str) : Prop := l.Pairwise (· < ·)
theorem ascS_ext : ∀ {a b : List Str}, AscS a → AscS b → (∀ x, x ∈ a ↔ x ∈ b) → a = b
  | [], [], _, _, _ => rfl
  | [], y :: b, _, _, h => absurd ((h y).2 (by simp)) (by simp)
  | x :: a, [], _, _, h => absurd ((h x).1 (by simp)) (by simp)
  | x :: a, y :: b, ha, hb, h => by
    have ha' := List.pairwise_cons.1 ha
    have hb' := List.pairwise_cons.1 hb
    have hxy : x = y := by
      rcases List.mem_cons.1 ((h x).1 (by simp)) with e | e
      · exact e
      · rcases List.mem_cons.1 ((h y).2 (by simp)) with e' | e'
        · exact e'.symm
        · exact absurd (List.lt_trans (hb'.1 x e) (ha'.1 y e')) (List.lt_irrefl _)
    subst hxy
    rw [ascS_ext ha'.2 hb'.2 fun z => ?_]
    constructor
    · intro hz
      rcases List.mem_cons.1 ((h z).1 (List.mem_cons_of_mem _ hz)) with e | e
      · have := ha'.1 z hz; rw [e] at this; exact absurd this (List.lt_irrefl _)
      · exact e
    · intro hz
      rcases List.mem_cons.1 ((h z).2 (List.mem_cons_of_mem _ hz)) with e | e
      · have := hb'.1 z hz; rw [e] at this; exact absurd this (List.lt_irrefl _)
      · exact e

theorem posS_lt {v : Str} : ∀ {s : List Str} {j : Nat} (hj : j < s.length), j < posS v s → s[j] < v
  | [], j, hj, _ => by simp at hj
  | x :: xs, j, hj, h => by
    unfold posS at h
    split at h
    · cases j with
      | zero => simpa using by assumption
      | succ j => simpa using posS_lt (v := v) (s := xs) (j := j) (by simpa using hj) (by omega)
    · omega
theorem posS_ge {v : Str} : ∀ {s : List Str} {j : Nat} (hj : j < s.length), AscS s → posS v s ≤ j → v ≤ s[j]
  | [], j, hj, _, _ => by simp at hj
  | x :: xs, j, hj, ha, h => by
    have ha' := List.pairwise_cons.1 ha
    unfold posS at h
    split at h
    · cases j with
      | zero => omega
      | succ j => simpa using posS_ge (v := v) (s := xs) (j := j) (by simpa using hj) ha'.2 (by omega)
    · rename_i hx
      cases j with
      | zero => simpa using hx
      | succ j =>
        have hj' : j < xs.length := by simpa using hj
        have := ha'.1 xs[j] (List.getElem_mem _)
        simp only [List.getElem_cons_succ]
        exact List.le_of_lt (List.lt_of_le_of_lt hx this)
theorem mem_insS {s : List Str} {v x : Str} : x ∈ insS s v ↔ x = v ∨ x ∈ s := by
  unfold insS
  split
  · rename_i h
    constructor
    · exact fun h => .inr h
    · rintro (rfl | h')
      · exact List.mem_of_getElem? h
      · exact h'
  · simp only [List.mem_append, List.mem_singleton]
    constructor
    · rintro ((h | h) | h)
      · exact .inr (List.mem_of_mem_take h)
      · exact .inl h
      · exact .inr (List.mem_of_mem_drop h)
    · rintro (h | h)
      · exact .inl (.inr h)
      · rw [← List.take_append_drop (posS v s) s] at h
        rcases List.mem_append.1 h with h | h
        · exact .inl (.inl h)
        · exact .inr h
theorem insS_asc {s : List Str} {v : Str} (h : AscS s) : AscS (insS s v) := by
  unfold insS
  split
  · exact h
  · rename_i hne
    have h1 : ∀ x ∈ s.take (posS v s), x < v := fun x hx => by
      obtain ⟨j, hj, rfl⟩ := List.mem_iff_getElem.1 hx
      simp only [List.getElem_take]
      simp only [List.length_take] at hj
      exact posS_lt (by omega) (by omega)
    have h2 : ∀ x ∈ s.drop (posS v s), v < x := fun x hx => by
      obtain ⟨j, hj, rfl⟩ := List.mem_iff_getElem.1 hx
      simp only [List.getElem_drop]
      simp only [List.length_drop] at hj
      have hp : posS v s < s.length := by omega
      have h3 := posS_ge (v := v) (s := s) (j := posS v s) hp h (Nat.le_refl _)
      have h4 : s[posS v s] ≠ v := fun e => hne (by rw [List.getElem?_eq_getElem hp, e])
      have h5 := posS_ge (v := v) (s := s) (j := posS v s + j) (by omega) h (by omega)
      rcases Nat.eq_zero_or_pos j with e | e
      · subst e; simp only [Nat.add_zero] at h5 ⊢; exact s_lt_of h5 (Ne.symm h4)
      · have := List.pairwise_iff_getElem.1 h (posS v s) (posS v s + j) hp (by omega) (by omega)
        exact List.lt_of_le_of_lt h3 this
    have hs := h
    rw [← List.take_append_drop (posS v s) s] at hs
    obtain ⟨k1, k2, k3⟩ := List.pairwise_append.1 hs
    rw [List.append_assoc]
    refine List.pairwise_append.2 ⟨k1, ?_, fun x hx y hy => ?_⟩
    · simp only [List.singleton_append]
      exact List.pairwise_cons.2 ⟨h2, k2⟩
    · simp only [List.singleton_append, List.mem_cons] at hy
      rcases hy with rfl | hy
      · exact h1 x hx
      · exact k3 x hx y hy
theorem foldl_insS : ∀ (l s : List Str), AscS s → AscS (l.foldl insS s) ∧ ∀ x, x ∈ l.foldl insS s ↔ x ∈ s ∨ x ∈ l
  | [], s, h => ⟨h, by simp⟩
  | y :: l, s, h => by
    obtain ⟨h1, h2⟩ := foldl_insS l (insS s y) (insS_asc h)
    refine ⟨h1, fun x => ?_⟩
    simp only [List.foldl_cons, h2, mem_insS, List.mem_cons]
    constructor
    · rintro ((h | h) | h)
      · exact .inr (.inl h)
      · exact .inl h
      · exact .inr (.inr h)
    · rintro (h | h | h)
      · exact .inl (.inr h)
      · exact .inl (.inl h)
      · exact .inr h
theorem distS_asc (l : List Str) : AscS (distS l) := (foldl_insS l [] .nil).1
theorem mem_distS {l : List Str} {x : Str} : x ∈ distS l ↔ x ∈ l := by simpa [distS] using (foldl_insS l [] .nil).2 x

theorem compS_facts : ∀ (l : List Str), l.Pairwise (· ≤ ·) → AscS (compS l) ∧ ∀ x, x ∈ compS l ↔ x ∈ l := by
  intro l
  have key : ∀ (n : Nat) (l : List Str), l.length = n → l.Pairwise (· ≤ ·) → AscS (compS l) ∧ ∀ x, x ∈ compS l ↔ x ∈ l := by
    intro n
    induction n with
    | zero => intro l hl _; have := List.eq_nil_of_length_eq_zero hl; subst this; exact ⟨.nil, by simp [compS]⟩
    | succ n ih =>
      intro l hl hs
      obtain ⟨r, x, rfl⟩ : ∃ r x, l = r ++ [x] := by
        have hne : l ≠ [] := fun e => by subst e; simp at hl
        exact ⟨l.dropLast, l.getLast hne, (List.dropLast_concat_getLast hne).symm⟩
      obtain ⟨s1, s2, s3⟩ := List.pairwise_append.1 hs
      obtain ⟨h1, h2⟩ := ih r (by simpa using hl) s1
      rw [compS_snoc]
      unfold cstepS
      split
      · rename_i he
        refine ⟨h1, fun y => ?_⟩
        rw [h2 y, List.mem_append, List.mem_singleton]
        constructor
        · exact .inl
        · rintro (h | rfl)
          · exact h
          · exact (h2 y).1 (List.mem_of_getLast? he)
      · rename_i he
        refine ⟨List.pairwise_append.2 ⟨h1, List.pairwise_singleton _ _, fun y hy z hz => ?_⟩, fun y => by simp [h2 y]⟩
        simp only [List.mem_singleton] at hz
        subst hz
        have hle := s3 y ((h2 y).1 hy) z (by simp)
        rcases s_lt_or_eq hle with h | h
        · exact h
        · exfalso
          subst h
          -- y is the last of r, since r is sorted and y is the greatest
          have hr : r ≠ [] := fun e => by subst e; simp [compS] at hy
          have hlast := compS_last r hr
          obtain ⟨w, hw⟩ : ∃ w, r.getLast? = some w := ⟨r.getLast hr, List.getLast?_eq_some_getLast hr⟩
          have hwr : w ∈ r := List.mem_of_getLast? hw
          have h5 := s3 w hwr y (by simp)
          have h6 : y ≤ w := by
            have hyr := (h2 y).1 hy
            obtain ⟨q, hq⟩ : ∃ q, r = q ++ [w] := by
              have := List.dropLast_concat_getLast hr
              have e : r.getLast hr = w := by rw [List.getLast?_eq_some_getLast hr] at hw; simpa using hw
              exact ⟨r.dropLast, by rw [← e, this]⟩
            rw [hq] at hyr s1
            obtain ⟨_, _, t3⟩ := List.pairwise_append.1 s1
            rcases List.mem_append.1 hyr with h | h
            · exact t3 y h w (by simp)
            · simp only [List.mem_singleton] at h; rw [h]; exact List.le_refl _
          have : w = y := List.le_antisymm h5 h6
          subst this
          exact he (by rw [hlast, hw])
  exact key l.length l rfl

def sortS (l : List Str) : List Str := l.mergeSort fun x y => decide (x ≤ y)
theorem sortS_length (l : List Str) : (sortS l).length = l.length := List.length_mergeSort ..
theorem mem_sortS {l : List Str} {x : Str} : x ∈ sortS l ↔ x ∈ l := List.mem_mergeSort
theorem sortS_sorted (l : List Str) : (sortS l).Pairwise (· ≤ ·) := by
  have := List.pairwise_mergeSort (le := fun x y : Str => decide (x ≤ y)) (fun a b c h1 h2 => by simp only [decide_eq_true_eq] at *; exact List.le_trans h1 h2) (fun a b => by simp only [Bool.or_eq_true, decide_eq_true_eq]; exact List.le_total a b) l
  exact this.imp fun h => by simpa using h
theorem compS_sort (l : List Str) : compS (sortS l) = distS l := by
  obtain ⟨h1, h2⟩ := compS_facts (sortS l) (sortS_sorted l)
  exact ascS_ext h1 (distS_asc l) fun x => by rw [h2, mem_sortS, mem_distS]

/-- The place of a text in a list. -/
theorem posS_at {v : Str} : ∀ {s : List Str}, AscS s → v ∈ s → s[posS v s]? = some v
  | [], _, h => by simp at h
  | x :: xs, ha, h => by
    have ha' := List.pairwise_cons.1 ha
    unfold posS
    by_cases e : x = v
    · subst e
      rw [if_neg (List.lt_irrefl _)]
      simp
    · have hv := (List.mem_cons.1 h).resolve_left fun e' => e e'.symm
      rw [if_pos (ha'.1 v hv)]
      simpa using posS_at ha'.2 hv

end Go.Proofs.YtdhdhcllgkddnaaGreat.Va

namespace Go.Proofs
open Go.Shelf
def Tryz.lays190_ren : Go.Shelf.Ren := ⟨fun | 190 => 15 | 125 => 37 | 258 => 36 | 128 => 68 | 129 => 69 | 302 => 60 | 303 => 61 | 304 => 62 | 305 => 63 | 306 => 64 | 307 => 65 | 308 => 40 | 309 => 66 | 310 => 67 | 333 => 82 | 329 => 83 | 330 => 84 | 334 => 85 | 335 => 86 | 336 => 70 | 344 => 91 | n => n, fun | 31 => 22 | 9 => 9 | 3 => 3 | 46 => 64 | 0 => 0 | 51 => 86 | 53 => 74 | 4 => 4 | 183 => 80 | 182 => 79 | 131 => 42 | 5 => 5 | 218 => 94 | 222 => 98 | 228 => 105 | 229 => 106 | n => n, fun | n => n⟩
theorem Tryz.lays190 : Go.Proofs.Lays.n190 Tryz.prog Tryz.lays190_ren where
  mixed := by kernel_rfl
  f125 := Tryz.func37.trans (congrArg some (by kernel_rfl))
  f128 := Tryz.func68.trans (congrArg some (by kernel_rfl))
  f129 := Tryz.func69.trans (congrArg some (by kernel_rfl))
  f190 := Tryz.func15.trans (congrArg some (by kernel_rfl))
  f258 := Tryz.func36.trans (congrArg some (by kernel_rfl))
  f302 := Tryz.func60.trans (congrArg some (by kernel_rfl))
  f303 := Tryz.func61.trans (congrArg some (by kernel_rfl))
  f304 := Tryz.func62.trans (congrArg some (by kernel_rfl))
  f305 := Tryz.func63.trans (congrArg some (by kernel_rfl))
  f306 := Tryz.func64.trans (congrArg some (by kernel_rfl))
  f307 := Tryz.func65.trans (congrArg some (by kernel_rfl))
  f308 := Tryz.func40.trans (congrArg some (by kernel_rfl))
  f309 := Tryz.func66.trans (congrArg some (by kernel_rfl))
  f310 := Tryz.func67.trans (congrArg some (by kernel_rfl))
  f329 := Tryz.func83.trans (congrArg some (by kernel_rfl))
  f330 := Tryz.func84.trans (congrArg some (by kernel_rfl))
  f333 := Tryz.func82.trans (congrArg some (by kernel_rfl))
  f334 := Tryz.func85.trans (congrArg some (by kernel_rfl))
  f335 := Tryz.func86.trans (congrArg some (by kernel_rfl))
  f336 := Tryz.func70.trans (congrArg some (by kernel_rfl))
  f344 := Tryz.func91.trans (congrArg some (by kernel_rfl))
  t0 := Tryz.underlying0
  a0 := Tryz.isAgg0
  z0 := Tryz.sizeOf0
  v0 := Tryz.zeroValue0
  t3 := Tryz.underlying3
  a3 := Tryz.isAgg3
  z3 := Tryz.sizeOf3
  v3 := Tryz.zeroValue3
  t4 := Tryz.underlying4
  a4 := Tryz.isAgg4
  z4 := Tryz.sizeOf4
  v4 := Tryz.zeroValue4
  t5 := Tryz.underlying5
  a5 := Tryz.isAgg5
  z5 := Tryz.sizeOf5
  v5 := Tryz.zeroValue5
  t9 := Tryz.underlying9
  a9 := Tryz.isAgg9
  z9 := Tryz.sizeOf9
  v9 := Tryz.zeroValue9
  t31 := Tryz.underlying22
  a31 := Tryz.isAgg22
  z31 := Tryz.sizeOf22
  v31 := Tryz.zeroValue22
  t46 := Tryz.underlying64
  a46 := Tryz.isAgg64
  z46 := Tryz.sizeOf64
  v46 := Tryz.zeroValue64
  t51 := Tryz.underlying86
  a51 := Tryz.isAgg86
  z51 := Tryz.sizeOf86
  v51 := Tryz.zeroValue86
  t53 := Tryz.underlying74
  a53 := Tryz.isAgg74
  z53 := Tryz.sizeOf74
  v53 := Tryz.zeroValue74
  t131 := Tryz.underlying42
  a131 := Tryz.isAgg42
  z131 := Tryz.sizeOf42
  v131 := Tryz.zeroValue42
  t182 := Tryz.underlying79
  a182 := Tryz.isAgg79
  z182 := Tryz.sizeOf79
  v182 := Tryz.zeroValue79
  t183 := Tryz.underlying80
  a183 := Tryz.isAgg80
  z183 := Tryz.sizeOf80
  v183 := Tryz.zeroValue80
  t218 := Tryz.underlying94
  a218 := Tryz.isAgg94
  z218 := Tryz.sizeOf94
  v218 := Tryz.zeroValue94
  t222 := Tryz.underlying98
  a222 := Tryz.isAgg98
  z222 := Tryz.sizeOf98
  v222 := Tryz.zeroValue98
  t228 := Tryz.underlying105
  a228 := Tryz.isAgg105
  z228 := Tryz.sizeOf105
  v228 := Tryz.zeroValue105
  t229 := Tryz.underlying106
  a229 := Tryz.isAgg106
  z229 := Tryz.sizeOf106
  v229 := Tryz.zeroValue106
open Go.Sort Go.RowKit in
theorem Tryz.slices_Sort_string (blk off cap : Nat) (zs : List (List UInt8)) (w : World) (hH : Holds encStr w blk off zs.toArray) (hblk : blk < w.heap.size) (hsz : zs.length < 4611686018427387904) :
    Calls Tryz.prog 15 #[.slice (some ⟨blk, off, none⟩) zs.length cap] w fun e w' =>
      e = .returned (.tuple #[]) ∧ ∃ n os, w' = grow (putRow encStr (Sort.ahead w n) blk off (zs.mergeSort fun x y => decide (x ≤ y)).toArray) os := Any.slices_Sort_string Tryz.lays190 blk off cap zs w hH hblk hsz
end Go.Proofs
namespace Go.Proofs.YtdhdhcllgkddnaaGreat.Va
open Go Go.RowKit Go.Sort

def tx (s : Str) : V := .str ⟨s.toArray⟩
def txV (l : List Str) : List V := l.map tx
@[simp] theorem cells_tx (s : Str) : (tx s).cells = [tx s] := rfl
@[simp] theorem asStr_tx (s : Str) : asStr (tx s) = some ⟨s.toArray⟩ := rfl
@[simp] theorem txV_length (l : List Str) : (txV l).length = l.length := by simp [txV]
theorem txV_cons (x : Str) (b : List Str) : txV (x :: b) = tx x :: txV b := rfl
theorem txV_append (a b : List Str) : txV (a ++ b) = txV a ++ txV b := by simp [txV]
theorem txV_take (b : List Str) (n : Nat) : List.take n (txV b) = txV (b.take n) := by simp [txV]
theorem txV_drop (b : List Str) (n : Nat) : List.drop n (txV b) = txV (b.drop n) := by simp [txV]
theorem txV_get {l : List Str} {i : Nat} (h : i < l.length) : (txV l)[i]? = some (tx l[i]) := by simp [txV, h]
theorem txV_snoc (l : List Str) (x : Str) : txV (l ++ [x]) = txV l ++ [tx x] := txV_append ..
theorem bare_txV (b : List Str) : (txV b).all V.bare = true := by
  rw [List.all_eq_true]
  intro x hx
  obtain ⟨y, _, rfl⟩ := List.mem_map.1 hx
  rfl
theorem txV_set (l : List Str) (i : Nat) (x : Str) : (txV l).set i (tx x) = txV (l.set i x) := by simp [txV, List.map_set]
def strsOf : List V → Option (List Str)
  | [] => some []
  | .str s :: xs => (strsOf xs).map (s.data.toList :: ·)
  | _ => none
theorem strsOf_txV : ∀ (l : List Str), strsOf (txV l) = some l
  | [] => rfl
  | x :: l => by simp [txV_cons, tx, strsOf, strsOf_txV l]
theorem strsOf_some : ∀ {a : List V} {b : List Str}, strsOf a = some b → a = txV b
  | [], b, h => by cases h; rfl
  | x :: xs, b, h => by
    cases x with
    | str s =>
      simp only [strsOf, Option.map_eq_some_iff] at h
      obtain ⟨l, hl, rfl⟩ := h
      rw [strsOf_some hl, txV_cons, tx]
    | _ => cases h

noncomputable def slices_Sort_sstring_string (xs : List V) : Ans :=
  match xs with
  | [.sl 1 x] => (strsOf x).bind fun l => if l.length < 1000000000 then some ([], [.sl 1 (txV (sortS l))]) else none
  | _ => none
def slices_Sort_sstring_string_c (g : List V → Ans) : Con := ⟨⟨[.ios], [], true, g⟩, [], [[]], none⟩

theorem slices_Sort_sstring_string_eq {l : List Str} (hl : l.length < 1000000000) : slices_Sort_sstring_string [.sl 1 (txV l)] = some ([], [.sl 1 (txV (sortS l))]) := by
  simp [slices_Sort_sstring_string, strsOf_txV, hl]

theorem slices_Sort_sstring_string_ok : Sound Tryz.prog 15 (slices_Sort_sstring_string_c slices_Sort_sstring_string).spec := by
  refine ⟨by kernel_rfl, fun xs rs zs hfn w F vals M T hF hM hn ha => ?_⟩
  simp only [slices_Sort_sstring_string_c] at hfn ha ⊢
  unfold slices_Sort_sstring_string at hfn
  split at hfn
  · rename_i x
    simp only [Option.bind_eq_some_iff] at hfn
    obtain ⟨l, hl, hfn⟩ := hfn
    have := strsOf_some hl
    subst this
    split at hfn
    · rename_i hlt
      cases hfn
      obtain ⟨v, κ, g, rfl, h, rfl, rfl⟩ := ios1_inv ha
      clear ha
      · skip
        have hlen : (txV (sortS l)).length = (txV l).length := by simp [sortS_length]
        rcases h.place with ⟨hk, ad, hv⟩ | ⟨hk, hv, hgF, cur, ty, hw, hcs, hat⟩
        · have h0 : l = [] := by have := h.le; rw [hk] at this; simpa using this
          subst h0
          subst hv
          subst hk
          refine (Any.slices_Sort_string_none Tryz.lays190 ad 0 w).mono fun e w' he => ?_
          obtain ⟨rfl, rfl⟩ := he
          have hO : ∀ F2 : Nat → Prop, OwnRow w' F2 1 (txV (sortS [])) (.slice ad 0 0) 0 g := fun F2 => ⟨by simp [sortS], by unfold maxLen; omega, by simp [sortS, txV], .inl ⟨rfl, ad, rfl⟩⟩
          exact ⟨[], F, rfl, rfl, rfl, rfl, Nat.le_refl _, fun _ _ _ => rfl, fun _ hb => hb, fun _ hb _ _ => hb, hF, .ios hlen (hO F) .nil, .nil, fun _ F2 _ _ => ⟨.ios hlen (hO F2) .nil, .nil⟩⟩
        · subst hv
          rw [if_neg hk] at hM hn ⊢
          have hle := h.le
          simp only [txV_length] at hle
          have hgw : g < w.heap.size := (hM g (by simp)).2
          have hat' : ∀ j (hj : j < l.length), cur[j]? = some (encStr l[j]) := fun j hj => by
            obtain ⟨u, u1, u2, u3⟩ := hat j 0 (tx l[j]) (tx l[j]) (by simp [txV, hj]) rfl
            rw [u3.str_inv] at u1
            simpa using u1
          have hH : Holds encStr w g 0 l.toArray := fun j hj => by
            have hj' : j < l.length := by simpa using hj
            refine ⟨?_, ?_⟩
            · rw [Nat.zero_add, cell_of_row w g j cur ty (0, 0) hw, hat' j hj']
              simp [hj']
            · simp [World.frozen?, hw]
          have hcall := Tryz.slices_Sort_string g 0 κ l w hH hgw (by omega)
          have elen : (txV l).length = l.length := txV_length l
          rw [elen]
          refine Calls.mono hcall fun e w' he => ?_
          · obtain ⟨rfl, k, os, rfl⟩ := he
            have hheap : ∀ b, b < w.heap.size → (grow (putRow encStr (Go.Sort.ahead w k) g 0 (sortS l).toArray) os).heap[b]? = if g = b then (w.heap[b]?).map (onCells (Go.Sort.putCells encStr 0 (sortS l).toArray)) else w.heap[b]? := fun b hb => by
              rw [heap_grow_old _ _ (by simpa using hb)]
              exact heap_mapBlock _ _ _ _
            have hnew : (grow (putRow encStr (Go.Sort.ahead w k) g 0 (sortS l).toArray) os).heap[g]? = some (.cells (Go.Sort.putCells encStr 0 (sortS l).toArray cur) ty (0, 0)) := by
              rw [hheap g hgw, if_pos rfl, hw]; rfl
            have hO : ∀ F2 : Nat → Prop, (∀ b, F2 b → F b) → OwnRow (grow (putRow encStr (Go.Sort.ahead w k) g 0 (sortS l).toArray) os) F2 1 (txV (sortS l)) (.slice (some ⟨g, 0, none⟩) l.length κ) κ g := fun F2 h2 =>
              ⟨by rw [hlen]; exact h.le, h.max, fun x hx => by
                simp only [txV, List.mem_map] at hx
                obtain ⟨y, _, rfl⟩ := hx; rfl, .inr ⟨hk, by rw [hlen, elen], fun hf => hgF (h2 g hf), _, ty, hnew, by simpa [Go.Sort.putCells] using hcs, fun i c x y hx hy => by
                  simp only [txV, List.getElem?_map, Option.map_eq_some_iff] at hx
                  obtain ⟨z, hz, rfl⟩ := hx
                  have hi := (List.getElem?_eq_some_iff.1 hz).1
                  cases c with
                  | succ c => simp at hy
                  | zero =>
                    simp only [cells_tx, List.getElem?_cons_zero, Option.some.injEq] at hy
                    subst hy
                    have hi2 : i < l.length := by rw [sortS_length] at hi; exact hi
                    refine ⟨encStr z, ?_, rfl, .str _⟩
                    simp only [Nat.mul_one, Nat.add_zero, Go.Sort.putCells, Array.getElem?_mapIdx, hat' i hi2, Option.map_some]
                    rw [if_pos ⟨Nat.zero_le _, by simpa using hi⟩]
                    have := List.getElem?_eq_some_iff.1 hz
                    obtain ⟨h5, h6⟩ := this
                    simp [h5, h6]⟩⟩
            refine ⟨[], F, rfl, rfl, rfl, rfl, by simp, fun b hb hbM => ?_, fun _ hb => hb, fun _ hb _ _ => hb, fun b hb => by simp; have := hF b hb; omega, .ios hlen (hO F fun _ hb => hb) .nil, .nil, fun _ F2 _ h2 => ⟨.ios hlen (hO F2 h2) .nil, .nil⟩⟩
            refine (hheap b hb).trans (if_neg ?_)
            intro e
            subst e
            exact hbM (by simp)
    · cases hfn
  · cases hfn

end Go.Proofs.YtdhdhcllgkddnaaGreat.Va

namespace Go.Proofs.YtdhdhcllgkddnaaGreat.Va
open Go Go.RowKit

noncomputable def slices_Clone_sstring_string_fu : Fun := ⟨[.rd []], [.own 1], true, [[]], Tryz.f14.body.getD .skip, [.tmp 2], [], []⟩
noncomputable def slices_Clone_sstring_string_r (xs : List V) : Ans := slices_Clone_sstring_string_fu.run optAlg Tryz.prog (conTab []) N0 xs
theorem slices_Clone_sstring_string_r0 : slices_Clone_sstring_string_r [.nil] = some ([.sl 1 []], []) := by kernel_rfl
theorem slices_Clone_sstring_string_r1 : slices_Clone_sstring_string_r [.ne 1] = some ([.sl 1 []], []) := by kernel_rfl
theorem slices_Clone_sstring_string_sound0 : Sound Tryz.prog 14 ⟨[.rd []], [.own 1], true, slices_Clone_sstring_string_r⟩ :=
  sound_fun (u := slices_Clone_sstring_string_fu) (nt := 8) mixed const_nil (fun f s h => by cases h) Tryz.func14 (by rfl) (by kernel_rfl) (by kernel_rfl) (by kernel_rfl) (by kernel_rfl) (by decide) (by rfl)
noncomputable def slices_Clone_sstring_string (xs : List V) : Ans :=
  match xs with
  | [.sl 1 []] => some ([.sl 1 []], [])
  | [.sl 1 (y :: l)] => slices_Clone_sstring_string_r [.sl 1 (y :: l)]
  | _ => none
def slices_Clone_sstring_string_c (g : List V → Ans) : Con := ⟨⟨[.rd [some 1]], [.own 1], true, g⟩, [[]], [], none⟩
theorem slices_Clone_sstring_string_ok : Sound Tryz.prog 14 (slices_Clone_sstring_string_c slices_Clone_sstring_string).spec := by
  refine sound_split (fn0 := slices_Clone_sstring_string_r) slices_Clone_sstring_string_sound0 (fun r h => ?_) (fun xs r h0 h => ?_) fun xs r h => ?_
  · have h : some ([V.sl 1 []], []) = some r := h
    rw [slices_Clone_sstring_string_r0, slices_Clone_sstring_string_r1]
    exact ⟨h, h⟩
  · cases xs with
    | nil => exact absurd rfl h0
    | cons y l => exact h
  · unfold slices_Clone_sstring_string at h
    split at h
    · exact ⟨_, rfl⟩
    · exact ⟨_, rfl⟩
    · cases h
theorem slices_Clone_sstring_string_rs (l0 : List V) : slices_Clone_sstring_string_r [.sl 1 l0] = (if l0.length ≠ (0 : Nat) then if room ((0 : Nat) + l0.length) (16 : Nat) then if (0 : Nat) = (0 : Nat) ∧ ([] ++ l0).length ≤ ([] ++ l0).length then if ([] ++ l0).all V.bare = true then some ([V.sl (1 : Nat) (List.take ([] ++ l0).length ([] ++ l0))], []) else none else none else none else none) := by kernel_rfl
theorem slices_Clone_sstring_string_eq {l : List V} (h : room l.length 16) (hb : l.all V.bare = true) : slices_Clone_sstring_string [.sl 1 l] = some ([.sl 1 l], []) := by
  cases l with
  | nil => rfl
  | cons y l =>
    have e : slices_Clone_sstring_string [.sl 1 (y :: l)] = slices_Clone_sstring_string_r [.sl 1 (y :: l)] := rfl
    rw [e, slices_Clone_sstring_string_rs]
    have h0 : (y :: l).length ≠ 0 := by simp
    rw [if_pos h0, if_pos (by rw [Nat.zero_add]; exact h)]
    simp only [List.nil_append, List.take_length, true_and, Nat.le_refl, if_true, hb]

end Go.Proofs.YtdhdhcllgkddnaaGreat.Va

set_option maxRecDepth 100000
namespace Go.Proofs.YtdhdhcllgkddnaaGreat.Va
open Go Go.RowKit

def slices_Compact_sstring_string_c (g : List V → Ans) : Con := ⟨⟨[.take 1], [.own 1], true, g⟩, [[]], [], none⟩
noncomputable def slices_Compact_sstring_string_fu : Fun := ⟨[.take 1], [.own 1], true, [[.sl 1]], Tryz.f16.body.getD .skip, [.tmp 2], [(0, ⟨[0, 3], [], false⟩), (2, ⟨[0, 3, 4, 5], [], false⟩)], []⟩
noncomputable def slices_Compact_sstring_string_ga (G : Nat → List V → Ans) : FuncId → Option Con := conTab []
noncomputable def Rslices_Compact_sstring_string (N : Nat) (G : Nat → List V → Ans) (xs : List V) : Ans := slices_Compact_sstring_string_fu.run optAlg Tryz.prog (slices_Compact_sstring_string_ga G) N xs
noncomputable def Lslices_Compact_sstring_string_0 (N : Nat) (G : Nat → List V → Ans) (n : Nat) (n0 : Nat) (n0_1 : Nat) (i3 : Int) (lr0 : List V) : Ans := slices_Compact_sstring_string_fu.go optAlg Tryz.prog (slices_Compact_sstring_string_ga G) N [V.bool false] (look (0 : Nat) [((0 : Nat), n)]) 0 false (mkSt [((0 : Nat), D.own (0 : Nat) (0 : Nat) n0 n0_1), ((3 : Nat), D.v (V.int IntKind.i64 i3))] [((0 : Nat), RS.mk (0 : Nat) (some (Reg.mk (Body.row (1 : Nat) lr0) false)))])
noncomputable def Lslices_Compact_sstring_string_2 (N : Nat) (G : Nat → List V → Ans) (n : Nat) (m0 : Nat) (n0 : Nat) (n0_1 : Nat) (i3 : Int) (n4 : Nat) (n4_4 : Nat) (i5 : Int) (lr0 : List V) : Ans := slices_Compact_sstring_string_fu.go optAlg Tryz.prog (slices_Compact_sstring_string_ga G) N [V.bool false] (look (0 : Nat) [((2 : Nat), n), ((0 : Nat), m0)]) 2 false (mkSt [((0 : Nat), D.own (0 : Nat) (0 : Nat) n0 n0_1), ((3 : Nat), D.v (V.int IntKind.i64 i3)), ((4 : Nat), D.own (0 : Nat) (0 : Nat) n4 n4_4), ((5 : Nat), D.v (V.int IntKind.i64 i5))] [((0 : Nat), RS.mk (0 : Nat) (some (Reg.mk (Body.row (1 : Nat) lr0) false)))])
theorem Rslices_Compact_sstring_string_eq (N : Nat) (G : Nat → List V → Ans) (v0 : V) : Rslices_Compact_sstring_string N G [v0] =
  (asSl (1 : Nat) v0).bind fun l0 => bif decide ((↑(V.sl (1 : Nat) l0).len : Int) < (2 : Int)) then if (0 : Nat) = (0 : Nat) ∧ (V.sl (1 : Nat) l0).len ≤ l0.length then if l0.all V.bare = true then some ([V.sl (1 : Nat) (List.take (V.sl (1 : Nat) l0).len l0)], []) else none else none else Lslices_Compact_sstring_string_0 N G N (0 : Nat) (V.sl (1 : Nat) l0).len (1 : Int) l0 := by kernel_rfl
theorem Lslices_Compact_sstring_string_0_eq (N : Nat) (G : Nat → List V → Ans) (n : Nat) (n0 : Nat) (n0_1 : Nat) (i3 : Int) (lr0 : List V) : Lslices_Compact_sstring_string_0 N G (n + 1) n0 n0_1 i3 lr0 =
  bif decide (i3 < (↑n0_1 : Int)) then if (0 : Int) ≤ i3 ∧ i3 < (↑n0_1 : Int) then lr0[n0 + i3.toNat]?.bind fun v1 => v1.cells[(0 : Nat)]?.bind fun v2 => (asStr v2).bind fun s3 => if (0 : Int) ≤ IntKind.i64.wrap (i3 - (1 : Int)) ∧ IntKind.i64.wrap (i3 - (1 : Int)) < (↑n0_1 : Int) then lr0[n0 + (IntKind.i64.wrap (i3 - (1 : Int))).toNat]?.bind fun v4 => v4.cells[(0 : Nat)]?.bind fun v5 => (asStr v5).bind fun s6 => bif s3.toList == s6.toList then if (0 : Int) ≤ i3 ∧ i3 ≤ (↑n0_1 : Int) ∧ (↑n0_1 : Int) ≤ (↑n0_1 : Int) then Lslices_Compact_sstring_string_2 N G N n n0 n0_1 i3 (n0 + i3.toNat) ((↑n0_1 : Int) - i3).toNat (1 : Int) lr0 else none else Lslices_Compact_sstring_string_0 N G n n0 n0_1 (IntKind.i64.wrap (i3 + (1 : Int))) lr0 else none else none else if n0 = (0 : Nat) ∧ n0_1 ≤ lr0.length then if lr0.all V.bare = true then some ([V.sl (1 : Nat) (List.take n0_1 lr0)], []) else none else none := by kernel_rfl
theorem Lslices_Compact_sstring_string_2_eq (N : Nat) (G : Nat → List V → Ans) (n : Nat) (m0 : Nat) (n0 : Nat) (n0_1 : Nat) (i3 : Int) (n4 : Nat) (n4_4 : Nat) (i5 : Int) (lr0 : List V) : Lslices_Compact_sstring_string_2 N G (n + 1) m0 n0 n0_1 i3 n4 n4_4 i5 lr0 =
  bif decide (i5 < (↑n4_4 : Int)) then if (0 : Int) ≤ i5 ∧ i5 < (↑n4_4 : Int) then lr0[n4 + i5.toNat]?.bind fun v7 => v7.cells[(0 : Nat)]?.bind fun v8 => (asStr v8).bind fun s9 => if (0 : Int) ≤ IntKind.i64.wrap (i5 - (1 : Int)) ∧ IntKind.i64.wrap (i5 - (1 : Int)) < (↑n4_4 : Int) then lr0[n4 + (IntKind.i64.wrap (i5 - (1 : Int))).toNat]?.bind fun v10 => v10.cells[(0 : Nat)]?.bind fun v11 => (asStr v11).bind fun s12 => bif !s9.toList == s12.toList then if (0 : Int) ≤ i5 ∧ i5 < (↑n4_4 : Int) then lr0[n4 + i5.toNat]?.bind fun v13 => v13.cells[(0 : Nat)]?.bind fun v14 => (asStr v14).bind fun s15 => if (0 : Int) ≤ i3 ∧ i3 < (↑n0_1 : Int) then lr0[n0 + i3.toNat]?.bind fun v16 => if (0 : Nat) + (1 : Nat) ≤ v16.cells.length then Lslices_Compact_sstring_string_2 N G n m0 n0 n0_1 (IntKind.i64.wrap (i3 + (1 : Int))) n4 n4_4 (IntKind.i64.wrap (i5 + (1 : Int))) (lr0.set (n0 + i3.toNat) (v16.setCells (0 : Nat) [V.str s15])) else none else none else none else Lslices_Compact_sstring_string_2 N G n m0 n0 n0_1 i3 n4 n4_4 (IntKind.i64.wrap (i5 + (1 : Int))) lr0 else none else none else if (0 : Int) ≤ i3 ∧ i3 ≤ (↑n0_1 : Int) ∧ (↑n0_1 : Int) ≤ (↑n0_1 : Int) then if n0 + i3.toNat + ((↑n0_1 : Int) - i3).toNat ≤ lr0.length then if (0 : Int) ≤ (0 : Int) ∧ (0 : Int) ≤ i3 ∧ i3 ≤ (↑n0_1 : Int) then if n0 + (0 : Nat) = (0 : Nat) ∧ (i3 - (0 : Int)).toNat ≤ (List.take (n0 + i3.toNat) lr0 ++ List.replicate ((↑n0_1 : Int) - i3).toNat (V.str (ByteArray.mk #[])) ++ List.drop (n0 + i3.toNat + ((↑n0_1 : Int) - i3).toNat) lr0).length then if (List.take (n0 + i3.toNat) lr0 ++ List.replicate ((↑n0_1 : Int) - i3).toNat (V.str (ByteArray.mk #[])) ++ List.drop (n0 + i3.toNat + ((↑n0_1 : Int) - i3).toNat) lr0).all V.bare = true then some ([V.sl (1 : Nat) (List.take (i3 - (0 : Int)).toNat (List.take (n0 + i3.toNat) lr0 ++ List.replicate ((↑n0_1 : Int) - i3).toNat (V.str (ByteArray.mk #[])) ++ List.drop (n0 + i3.toNat + ((↑n0_1 : Int) - i3).toNat) lr0))], []) else none else none else none else none else none := by kernel_rfl
theorem slices_Compact_sstring_string_sound (N : Nat) (G : Nat → List V → Ans) (hC : ConstOk (slices_Compact_sstring_string_ga G)) (h : ∀ f s, specs (slices_Compact_sstring_string_ga G) f = some s → Sound Tryz.prog f s) : Sound Tryz.prog 16 (slices_Compact_sstring_string_c (Rslices_Compact_sstring_string N G)).spec :=
  sound_fun (u := slices_Compact_sstring_string_fu) (nt := 61) mixed hC h Tryz.func16 (by rfl) (by kernel_rfl) (by kernel_rfl) (by kernel_rfl) (by kernel_rfl) (by decide) (by rfl)
noncomputable def slices_Compact_sstring_string_G : Nat → List V → Ans := look (fun _ => none) []
noncomputable def slices_Compact_sstring_string : List V → Ans := Rslices_Compact_sstring_string N0 slices_Compact_sstring_string_G
theorem slices_Compact_sstring_string_ok : Sound Tryz.prog 16 (slices_Compact_sstring_string_c slices_Compact_sstring_string).spec := slices_Compact_sstring_string_sound N0 slices_Compact_sstring_string_G const_nil (conTab_ok (by simp))
def cmp_isNaN_string_c (g : List V → Ans) : Con := ⟨⟨[.rd [none]], [.plain [none]], true, g⟩, [[.bool]], [], none⟩
noncomputable def cmp_isNaN_string_fu : Fun := ⟨[.rd [none]], [.plain [none]], true, [[.str]], Tryz.f70.body.getD .skip, [.tmp 2], [], []⟩
noncomputable def cmp_isNaN_string_ga (G : Nat → List V → Ans) : FuncId → Option Con := conTab []
noncomputable def Rcmp_isNaN_string (N : Nat) (G : Nat → List V → Ans) (xs : List V) : Ans := cmp_isNaN_string_fu.run optAlg Tryz.prog (cmp_isNaN_string_ga G) N xs
theorem Rcmp_isNaN_string_eq (N : Nat) (G : Nat → List V → Ans) (v0 : V) : Rcmp_isNaN_string N G [v0] =
  (asStr v0).bind fun s0 => some ([V.bool !s0.toList == s0.toList], []) := by kernel_rfl
theorem cmp_isNaN_string_sound (N : Nat) (G : Nat → List V → Ans) (hC : ConstOk (cmp_isNaN_string_ga G)) (h : ∀ f s, specs (cmp_isNaN_string_ga G) f = some s → Sound Tryz.prog f s) : Sound Tryz.prog 70 (cmp_isNaN_string_c (Rcmp_isNaN_string N G)).spec :=
  sound_fun (u := cmp_isNaN_string_fu) (nt := 6) mixed hC h Tryz.func70 (by rfl) (by kernel_rfl) (by kernel_rfl) (by kernel_rfl) (by kernel_rfl) (by decide) (by rfl)
noncomputable def cmp_isNaN_string_G : Nat → List V → Ans := look (fun _ => none) []
noncomputable def cmp_isNaN_string : List V → Ans := Rcmp_isNaN_string N0 cmp_isNaN_string_G
theorem cmp_isNaN_string_ok : Sound Tryz.prog 70 (cmp_isNaN_string_c cmp_isNaN_string).spec := cmp_isNaN_string_sound N0 cmp_isNaN_string_G const_nil (conTab_ok (by simp))
def cmp_Less_string_c (g : List V → Ans) : Con := ⟨⟨[.rd [none], .rd [none]], [.plain [none]], true, g⟩, [[.bool]], [], none⟩
noncomputable def cmp_Less_string_fu : Fun := ⟨[.rd [none], .rd [none]], [.plain [none]], true, [[.str], [.str]], Tryz.f40.body.getD .skip, [.tmp 4], [], []⟩
noncomputable def cmp_Less_string_ga (G : Nat → List V → Ans) : FuncId → Option Con := conTab [(70, cmp_isNaN_string_c (G 0))]
noncomputable def Rcmp_Less_string (N : Nat) (G : Nat → List V → Ans) (xs : List V) : Ans := cmp_Less_string_fu.run optAlg Tryz.prog (cmp_Less_string_ga G) N xs
theorem Rcmp_Less_string_eq (N : Nat) (G : Nat → List V → Ans) (v0 : V) (v1 : V) : Rcmp_Less_string N G [v0, v1] =
  (asStr v0).bind fun s0 => (asStr v1).bind fun s1 => Option.bind (G (0 : Nat) [V.str s0]) fun p2 => if p2.fst.length = (1 : Nat) ∧ p2.snd.length = (0 : Nat) then p2.fst[(0 : Nat)]?.bind fun v3 => (asBool v3).bind fun b4 => bif b4 then Option.bind (G (0 : Nat) [V.str s1]) fun p5 => if p5.fst.length = (1 : Nat) ∧ p5.snd.length = (0 : Nat) then p5.fst[(0 : Nat)]?.bind fun v6 => (asBool v6).bind fun b7 => bif !b7 then some ([V.bool true], []) else some ([V.bool (Op.bytesLess s0.toList s1.toList)], []) else none else some ([V.bool (Op.bytesLess s0.toList s1.toList)], []) else none := by kernel_rfl
theorem cmp_Less_string_sound (N : Nat) (G : Nat → List V → Ans) (hC : ConstOk (cmp_Less_string_ga G)) (h : ∀ f s, specs (cmp_Less_string_ga G) f = some s → Sound Tryz.prog f s) : Sound Tryz.prog 40 (cmp_Less_string_c (Rcmp_Less_string N G)).spec :=
  sound_fun (u := cmp_Less_string_fu) (nt := 17) mixed hC h Tryz.func40 (by rfl) (by kernel_rfl) (by kernel_rfl) (by kernel_rfl) (by kernel_rfl) (by decide) (by rfl)
noncomputable def cmp_Less_string_G : Nat → List V → Ans := look (fun _ => none) [(0, cmp_isNaN_string)]
noncomputable def cmp_Less_string : List V → Ans := Rcmp_Less_string N0 cmp_Less_string_G
theorem cmp_Less_string_ok : Sound Tryz.prog 40 (cmp_Less_string_c cmp_Less_string).spec := cmp_Less_string_sound N0 cmp_Less_string_G (const_cons (const_none rfl) const_nil) (conTab_ok (List.forall_mem_cons.2 ⟨cmp_isNaN_string_ok, (by simp)⟩))
def slices_isNaN_string_c (g : List V → Ans) : Con := ⟨⟨[.rd [none]], [.plain [none]], true, g⟩, [[.bool]], [], none⟩
noncomputable def slices_isNaN_string_fu : Fun := ⟨[.rd [none]], [.plain [none]], true, [[.str]], Tryz.f41.body.getD .skip, [.tmp 2], [], []⟩
noncomputable def slices_isNaN_string_ga (G : Nat → List V → Ans) : FuncId → Option Con := conTab []
noncomputable def Rslices_isNaN_string (N : Nat) (G : Nat → List V → Ans) (xs : List V) : Ans := slices_isNaN_string_fu.run optAlg Tryz.prog (slices_isNaN_string_ga G) N xs
theorem Rslices_isNaN_string_eq (N : Nat) (G : Nat → List V → Ans) (v0 : V) : Rslices_isNaN_string N G [v0] =
  (asStr v0).bind fun s0 => some ([V.bool !s0.toList == s0.toList], []) := by kernel_rfl
theorem slices_isNaN_string_sound (N : Nat) (G : Nat → List V → Ans) (hC : ConstOk (slices_isNaN_string_ga G)) (h : ∀ f s, specs (slices_isNaN_string_ga G) f = some s → Sound Tryz.prog f s) : Sound Tryz.prog 41 (slices_isNaN_string_c (Rslices_isNaN_string N G)).spec :=
  sound_fun (u := slices_isNaN_string_fu) (nt := 6) mixed hC h Tryz.func41 (by rfl) (by kernel_rfl) (by kernel_rfl) (by kernel_rfl) (by kernel_rfl) (by decide) (by rfl)
noncomputable def slices_isNaN_string_G : Nat → List V → Ans := look (fun _ => none) []
noncomputable def slices_isNaN_string : List V → Ans := Rslices_isNaN_string N0 slices_isNaN_string_G
theorem slices_isNaN_string_ok : Sound Tryz.prog 41 (slices_isNaN_string_c slices_isNaN_string).spec := slices_isNaN_string_sound N0 slices_isNaN_string_G const_nil (conTab_ok (by simp))
def slices_BinarySearch_sstring_string_c (g : List V → Ans) : Con := ⟨⟨[.rd [some 1], .rd [none]], [.plain [none], .plain [none]], true, g⟩, [[.int .i64], [.bool]], [], none⟩
noncomputable def slices_BinarySearch_sstring_string_fu : Fun := ⟨[.rd [some 1], .rd [none]], [.plain [none], .plain [none]], true, [[.sl 1], [.str]], Tryz.f19.body.getD .skip, [.tmp 4, .tmp 5], [(0, ⟨[0, 1, 6, 7, 8], [], false⟩)], []⟩
noncomputable def slices_BinarySearch_sstring_string_ga (G : Nat → List V → Ans) : FuncId → Option Con := conTab [(40, cmp_Less_string_c (G 0)), (41, slices_isNaN_string_c (G 1))]
noncomputable def Rslices_BinarySearch_sstring_string (N : Nat) (G : Nat → List V → Ans) (xs : List V) : Ans := slices_BinarySearch_sstring_string_fu.run optAlg Tryz.prog (slices_BinarySearch_sstring_string_ga G) N xs
noncomputable def Lslices_BinarySearch_sstring_string_0 (N : Nat) (G : Nat → List V → Ans) (n : Nat) (l0 : List V) (s1 : ByteArray) (i6 : Int) (i7 : Int) (i8 : Int) : Ans := slices_BinarySearch_sstring_string_fu.go optAlg Tryz.prog (slices_BinarySearch_sstring_string_ga G) N [V.bool false, V.bool false] (look (0 : Nat) [((0 : Nat), n)]) 0 false (mkSt [((0 : Nat), D.v (V.sl (1 : Nat) l0)), ((1 : Nat), D.v (V.str s1)), ((6 : Nat), D.v (V.int IntKind.i64 i6)), ((7 : Nat), D.v (V.int IntKind.i64 i7)), ((8 : Nat), D.v (V.int IntKind.i64 i8))] [])
theorem Rslices_BinarySearch_sstring_string_eq (N : Nat) (G : Nat → List V → Ans) (v0 : V) (v1 : V) : Rslices_BinarySearch_sstring_string N G [v0, v1] =
  (asSl (1 : Nat) v0).bind fun l0 => (asStr v1).bind fun s1 => Lslices_BinarySearch_sstring_string_0 N G N l0 s1 (↑l0.length : Int) (0 : Int) (↑l0.length : Int) := by kernel_rfl
theorem Lslices_BinarySearch_sstring_string_0_eq (N : Nat) (G : Nat → List V → Ans) (n : Nat) (l0 : List V) (s1 : ByteArray) (i6 : Int) (i7 : Int) (i8 : Int) : Lslices_BinarySearch_sstring_string_0 N G (n + 1) l0 s1 i6 i7 i8 =
  bif decide (i7 < i8) then if (0 : Int) ≤ IntKind.i64.wrap ((IntKind.u64.wrap (IntKind.i64.wrap (i7 + i8))).fdiv (2 : Int)) ∧ IntKind.i64.wrap ((IntKind.u64.wrap (IntKind.i64.wrap (i7 + i8))).fdiv (2 : Int)) < (↑l0.length : Int) then l0[(IntKind.i64.wrap ((IntKind.u64.wrap (IntKind.i64.wrap (i7 + i8))).fdiv (2 : Int))).toNat]?.bind fun v2 => v2.cells[(0 : Nat)]?.bind fun v3 => (asStr v3).bind fun s4 => Option.bind (G (0 : Nat) [V.str s4, V.str s1]) fun p5 => if p5.fst.length = (1 : Nat) ∧ p5.snd.length = (0 : Nat) then p5.fst[(0 : Nat)]?.bind fun v6 => (asBool v6).bind fun b7 => bif b7 then Lslices_BinarySearch_sstring_string_0 N G n l0 s1 i6 (IntKind.i64.wrap (IntKind.i64.wrap ((IntKind.u64.wrap (IntKind.i64.wrap (i7 + i8))).fdiv (2 : Int)) + (1 : Int))) i8 else Lslices_BinarySearch_sstring_string_0 N G n l0 s1 i6 i7 (IntKind.i64.wrap ((IntKind.u64.wrap (IntKind.i64.wrap (i7 + i8))).fdiv (2 : Int))) else none else none else bif decide (i7 < i6) then if (0 : Int) ≤ i7 ∧ i7 < (↑l0.length : Int) then l0[i7.toNat]?.bind fun v8 => v8.cells[(0 : Nat)]?.bind fun v9 => (asStr v9).bind fun s10 => bif s10.toList == s1.toList then some ([V.int IntKind.i64 i7, V.bool true], []) else if (0 : Int) ≤ i7 ∧ i7 < (↑l0.length : Int) then l0[i7.toNat]?.bind fun v11 => v11.cells[(0 : Nat)]?.bind fun v12 => (asStr v12).bind fun s13 => Option.bind (G (1 : Nat) [V.str s13]) fun p14 => if p14.fst.length = (1 : Nat) ∧ p14.snd.length = (0 : Nat) then p14.fst[(0 : Nat)]?.bind fun v15 => (asBool v15).bind fun b16 => bif b16 then Option.bind (G (1 : Nat) [V.str s1]) fun p17 => if p17.fst.length = (1 : Nat) ∧ p17.snd.length = (0 : Nat) then p17.fst[(0 : Nat)]?.bind fun v18 => (asBool v18).bind fun b19 => some ([V.int IntKind.i64 i7, V.bool b19], []) else none else some ([V.int IntKind.i64 i7, V.bool false], []) else none else none else none else some ([V.int IntKind.i64 i7, V.bool false], []) := by kernel_rfl
theorem slices_BinarySearch_sstring_string_sound (N : Nat) (G : Nat → List V → Ans) (hC : ConstOk (slices_BinarySearch_sstring_string_ga G)) (h : ∀ f s, specs (slices_BinarySearch_sstring_string_ga G) f = some s → Sound Tryz.prog f s) : Sound Tryz.prog 19 (slices_BinarySearch_sstring_string_c (Rslices_BinarySearch_sstring_string N G)).spec :=
  sound_fun (u := slices_BinarySearch_sstring_string_fu) (nt := 54) mixed hC h Tryz.func19 (by rfl) (by kernel_rfl) (by kernel_rfl) (by kernel_rfl) (by kernel_rfl) (by decide) (by rfl)
noncomputable def slices_BinarySearch_sstring_string_G : Nat → List V → Ans := look (fun _ => none) [(0, cmp_Less_string), (1, slices_isNaN_string)]
noncomputable def slices_BinarySearch_sstring_string : List V → Ans := Rslices_BinarySearch_sstring_string N0 slices_BinarySearch_sstring_string_G
theorem slices_BinarySearch_sstring_string_ok : Sound Tryz.prog 19 (slices_BinarySearch_sstring_string_c slices_BinarySearch_sstring_string).spec := slices_BinarySearch_sstring_string_sound N0 slices_BinarySearch_sstring_string_G (const_cons (const_none rfl) (const_cons (const_none rfl) const_nil)) (conTab_ok (List.forall_mem_cons.2 ⟨cmp_Less_string_ok, (List.forall_mem_cons.2 ⟨slices_isNaN_string_ok, (by simp)⟩)⟩))
def wire_PutText_c (g : List V → Ans) : Con := ⟨⟨[.rd [some 1], .rd [none]], [.own 1], true, g⟩, [[]], [], none⟩
noncomputable def wire_PutText_fu : Fun := ⟨[.rd [some 1], .rd [none]], [.own 1], true, [[.sl 1], [.str]], Tryz.f18.body.getD .skip, [.tmp 4], [], []⟩
noncomputable def wire_PutText_ga (G : Nat → List V → Ans) : FuncId → Option Con := conTab [(39, wire_groups_c (G 0)), (38, wire_own_c (G 1))]
noncomputable def Rwire_PutText (N : Nat) (G : Nat → List V → Ans) (xs : List V) : Ans := wire_PutText_fu.run optAlg Tryz.prog (wire_PutText_ga G) N xs
theorem Rwire_PutText_eq (N : Nat) (G : Nat → List V → Ans) (v0 : V) (v1 : V) : Rwire_PutText N G [v0, v1] =
  (asSl (1 : Nat) v0).bind fun l0 => (asStr v1).bind fun s1 => Option.bind (G (0 : Nat) [V.int IntKind.i64 (↑s1.size : Int)]) fun p2 => if p2.fst.length = (1 : Nat) ∧ p2.snd.length = (0 : Nat) then p2.fst[(0 : Nat)]?.bind fun v3 => (asSl (1 : Nat) v3).bind fun l4 => if (0 : Nat) = (0 : Nat) ∧ l4.length = l4.length then if room (l4.length + (strV s1).length) (1 : Nat) then Option.bind (G (1 : Nat) [V.sl (1 : Nat) l0, V.sl (1 : Nat) (List.take (l4 ++ strV s1).length (List.drop (0 : Nat) (l4 ++ strV s1)))]) fun p5 => if p5.fst.length = (1 : Nat) ∧ p5.snd.length = (0 : Nat) then p5.fst[(0 : Nat)]?.bind fun v6 => (asSl (1 : Nat) v6).bind fun l7 => if (0 : Nat) = (0 : Nat) ∧ l7.length ≤ l7.length then if l7.all V.bare = true then some ([V.sl (1 : Nat) (List.take l7.length l7)], []) else none else none else none else none else none else none := by kernel_rfl
theorem wire_PutText_sound (N : Nat) (G : Nat → List V → Ans) (hC : ConstOk (wire_PutText_ga G)) (h : ∀ f s, specs (wire_PutText_ga G) f = some s → Sound Tryz.prog f s) : Sound Tryz.prog 18 (wire_PutText_c (Rwire_PutText N G)).spec :=
  sound_fun (u := wire_PutText_fu) (nt := 12) mixed hC h Tryz.func18 (by rfl) (by kernel_rfl) (by kernel_rfl) (by kernel_rfl) (by kernel_rfl) (by decide) (by rfl)
noncomputable def wire_PutText_G : Nat → List V → Ans := look (fun _ => none) [(0, wire_groups), (1, wire_own)]
noncomputable def wire_PutText : List V → Ans := Rwire_PutText N0 wire_PutText_G
theorem wire_PutText_ok : Sound Tryz.prog 18 (wire_PutText_c wire_PutText).spec := wire_PutText_sound N0 wire_PutText_G (const_cons (const_none rfl) (const_cons (const_none rfl) const_nil)) (conTab_ok (List.forall_mem_cons.2 ⟨wire_groups_ok, (List.forall_mem_cons.2 ⟨wire_own_ok, (by simp)⟩)⟩))
def wire_Reader_take_c (g : List V → Ans) : Con := ⟨⟨[.io [some 1, none], .rd [none]], [.plain [some 1]], false, g⟩, [[.sl 1]], [[.sl 1, .int .i64]], none⟩
noncomputable def wire_Reader_take_fu : Fun := ⟨[.io [some 1, none], .rd [none]], [.plain [some 1]], false, [[.sl 1, .int .i64], [.int .i64]], Tryz.f43.body.getD .skip, [.tmp 4], [], [(3, ⟨[0, 1], [], false⟩)]⟩
noncomputable def wire_Reader_take_ga (G : Nat → List V → Ans) : FuncId → Option Con := conTab []
noncomputable def Rwire_Reader_take (N : Nat) (G : Nat → List V → Ans) (xs : List V) : Ans := wire_Reader_take_fu.run optAlg Tryz.prog (wire_Reader_take_ga G) N xs
noncomputable def Jwire_Reader_take_3 (N : Nat) (G : Nat → List V → Ans) (i1 : Int) (lr0 : List V) (ir0 : Int) : Ans := wire_Reader_take_fu.go optAlg Tryz.prog (wire_Reader_take_ga G) N [V.agg [V.bool false, V.bool false], V.bool false] (look (0 : Nat) []) 3 true (mkSt [((0 : Nat), D.ptr (0 : Nat) (0 : Nat) (0 : Nat) (0 : Nat)), ((1 : Nat), D.v (V.int IntKind.i64 i1))] [((0 : Nat), RS.mk (0 : Nat) (some (Reg.mk (Body.box [D.v (V.sl (1 : Nat) lr0), D.v (V.int IntKind.i64 ir0)]) false)))])
theorem Rwire_Reader_take_eq (N : Nat) (G : Nat → List V → Ans) (v0 : V) (v1 : V) : Rwire_Reader_take N G [v0, v1] =
  (asAgg v0).bind fun l0 => if l0.length = (2 : Nat) then l0[(0 : Nat)]?.bind fun v1_1 => (asSl (1 : Nat) v1_1).bind fun l2 => l0[(1 : Nat)]?.bind fun v3 => (asInt IntKind.i64 v3).bind fun i4 => (asInt IntKind.i64 v1).bind fun i5 => bif i4 == (0 : Int) then bif decide (i5 > (↑l2.length : Int)) then Jwire_Reader_take_3 N G i5 l2 (16 : Int) else Jwire_Reader_take_3 N G i5 l2 i4 else Jwire_Reader_take_3 N G i5 l2 i4 else none := by kernel_rfl
theorem Jwire_Reader_take_3_eq (N : Nat) (G : Nat → List V → Ans) (i1 : Int) (lr0 : List V) (ir0 : Int) : Jwire_Reader_take_3 N G  i1 lr0 ir0 =
  bif ir0 != (0 : Int) then some ([V.sl (1 : Nat) []], [V.agg [V.sl (1 : Nat) lr0, V.int IntKind.i64 ir0]]) else if (0 : Int) ≤ (0 : Int) ∧ (0 : Int) ≤ i1 ∧ i1 ≤ i1 ∧ i1 ≤ (↑lr0.length : Int) then if (0 : Int) ≤ i1 ∧ i1 ≤ (↑lr0.length : Int) ∧ (↑lr0.length : Int) ≤ (↑lr0.length : Int) then some ([V.sl (1 : Nat) (List.drop (0 : Nat) (List.take i1.toNat lr0))], [V.agg [V.sl (1 : Nat) (List.drop i1.toNat (List.take (↑lr0.length : Int).toNat lr0)), V.int IntKind.i64 ir0]]) else none else none := by kernel_rfl
theorem wire_Reader_take_sound (N : Nat) (G : Nat → List V → Ans) (hC : ConstOk (wire_Reader_take_ga G)) (h : ∀ f s, specs (wire_Reader_take_ga G) f = some s → Sound Tryz.prog f s) : Sound Tryz.prog 43 (wire_Reader_take_c (Rwire_Reader_take N G)).spec :=
  sound_fun (u := wire_Reader_take_fu) (nt := 45) mixed hC h Tryz.func43 (by rfl) (by kernel_rfl) (by kernel_rfl) (by kernel_rfl) (by kernel_rfl) (by decide) (by rfl)
noncomputable def wire_Reader_take_G : Nat → List V → Ans := look (fun _ => none) []
noncomputable def wire_Reader_take : List V → Ans := Rwire_Reader_take N0 wire_Reader_take_G
theorem wire_Reader_take_ok : Sound Tryz.prog 43 (wire_Reader_take_c wire_Reader_take).spec := wire_Reader_take_sound N0 wire_Reader_take_G const_nil (conTab_ok (by simp))
def wire_Reader_Text_c (g : List V → Ans) : Con := ⟨⟨[.io [some 1, none], .rd [none]], [.plain [none]], false, g⟩, [[.str]], [[.sl 1, .int .i64]], none⟩
noncomputable def wire_Reader_Text_fu : Fun := ⟨[.io [some 1, none], .rd [none]], [.plain [none]], false, [[.sl 1, .int .i64], [.int .i64]], Tryz.f22.body.getD .skip, [.tmp 4], [], []⟩
noncomputable def wire_Reader_Text_ga (G : Nat → List V → Ans) : FuncId → Option Con := conTab [(42, wire_Reader_length_c (G 0)), (43, wire_Reader_take_c (G 1))]
noncomputable def Rwire_Reader_Text (N : Nat) (G : Nat → List V → Ans) (xs : List V) : Ans := wire_Reader_Text_fu.run optAlg Tryz.prog (wire_Reader_Text_ga G) N xs
theorem Rwire_Reader_Text_eq (N : Nat) (G : Nat → List V → Ans) (v0 : V) (v1 : V) : Rwire_Reader_Text N G [v0, v1] =
  (asAgg v0).bind fun l0 => if l0.length = (2 : Nat) then l0[(0 : Nat)]?.bind fun v1_1 => (asSl (1 : Nat) v1_1).bind fun l2 => l0[(1 : Nat)]?.bind fun v3 => (asInt IntKind.i64 v3).bind fun i4 => (asInt IntKind.i64 v1).bind fun i5 => Option.bind (G (0 : Nat) [V.agg [V.sl (1 : Nat) l2, V.int IntKind.i64 i4], V.int IntKind.i64 i5, V.int IntKind.i64 (4 : Int)]) fun p6 => if p6.fst.length = (1 : Nat) ∧ p6.snd.length = (1 : Nat) then p6.fst[(0 : Nat)]?.bind fun v7 => (asInt IntKind.i64 v7).bind fun i8 => p6.snd[(0 : Nat)]?.bind fun v9 => (asAgg v9).bind fun l10 => if l10.length = (2 : Nat) then l10[(0 : Nat)]?.bind fun v11 => (asSl (1 : Nat) v11).bind fun l12 => l10[(1 : Nat)]?.bind fun v13 => (asInt IntKind.i64 v13).bind fun i14 => Option.bind (G (1 : Nat) [V.agg [V.sl (1 : Nat) l12, V.int IntKind.i64 i14], V.int IntKind.i64 i8]) fun p15 => if p15.fst.length = (1 : Nat) ∧ p15.snd.length = (1 : Nat) then p15.fst[(0 : Nat)]?.bind fun v16 => (asSl (1 : Nat) v16).bind fun l17 => p15.snd[(0 : Nat)]?.bind fun v18 => (asAgg v18).bind fun l19 => if l19.length = (2 : Nat) then l19[(0 : Nat)]?.bind fun v20 => (asSl (1 : Nat) v20).bind fun l21 => l19[(1 : Nat)]?.bind fun v22 => (asInt IntKind.i64 v22).bind fun i23 => if l17.all V.isU8 = true then some ([V.str (ByteArray.mk (List.map V.byte l17).toArray)], [V.agg [V.sl (1 : Nat) l21, V.int IntKind.i64 i23]]) else none else none else none else none else none else none := by kernel_rfl
theorem wire_Reader_Text_sound (N : Nat) (G : Nat → List V → Ans) (hC : ConstOk (wire_Reader_Text_ga G)) (h : ∀ f s, specs (wire_Reader_Text_ga G) f = some s → Sound Tryz.prog f s) : Sound Tryz.prog 22 (wire_Reader_Text_c (Rwire_Reader_Text N G)).spec :=
  sound_fun (u := wire_Reader_Text_fu) (nt := 11) mixed hC h Tryz.func22 (by rfl) (by kernel_rfl) (by kernel_rfl) (by kernel_rfl) (by kernel_rfl) (by decide) (by rfl)
noncomputable def wire_Reader_Text_G : Nat → List V → Ans := look (fun _ => none) [(0, wire_Reader_length), (1, wire_Reader_take)]
noncomputable def wire_Reader_Text : List V → Ans := Rwire_Reader_Text N0 wire_Reader_Text_G
theorem wire_Reader_Text_ok : Sound Tryz.prog 22 (wire_Reader_Text_c wire_Reader_Text).spec := wire_Reader_Text_sound N0 wire_Reader_Text_G (const_cons (const_none rfl) (const_cons (const_none rfl) const_nil)) (conTab_ok (List.forall_mem_cons.2 ⟨wire_Reader_length_ok, (List.forall_mem_cons.2 ⟨wire_Reader_take_ok, (by simp)⟩)⟩))
def flagstoneref4_PutText_c (g : List V → Ans) : Con := ⟨⟨[.rd [some 1], .rd [none]], [.own 1], true, g⟩, [[]], [], none⟩
noncomputable def flagstoneref4_PutText_fu : Fun := ⟨[.rd [some 1], .rd [none]], [.own 1], true, [[.sl 1], [.str]], Tryz.f27.body.getD .skip, [.tmp 4], [], []⟩
noncomputable def flagstoneref4_PutText_ga (G : Nat → List V → Ans) : FuncId → Option Con := conTab [(26, flagstoneref4_PutNumber_c (G 0))]
noncomputable def Rflagstoneref4_PutText (N : Nat) (G : Nat → List V → Ans) (xs : List V) : Ans := flagstoneref4_PutText_fu.run optAlg Tryz.prog (flagstoneref4_PutText_ga G) N xs
theorem Rflagstoneref4_PutText_eq (N : Nat) (G : Nat → List V → Ans) (v0 : V) (v1 : V) : Rflagstoneref4_PutText N G [v0, v1] =
  (asSl (1 : Nat) v0).bind fun l0 => (asStr v1).bind fun s1 => Option.bind (G (0 : Nat) [V.sl (1 : Nat) l0, V.int IntKind.i64 (↑s1.size : Int)]) fun p2 => if p2.fst.length = (1 : Nat) ∧ p2.snd.length = (0 : Nat) then p2.fst[(0 : Nat)]?.bind fun v3 => (asSl (1 : Nat) v3).bind fun l4 => if (0 : Nat) = (0 : Nat) ∧ l4.length = l4.length then if room (l4.length + (strV s1).length) (1 : Nat) then if (0 : Nat) = (0 : Nat) ∧ (l4 ++ strV s1).length ≤ (l4 ++ strV s1).length then if (l4 ++ strV s1).all V.bare = true then some ([V.sl (1 : Nat) (List.take (l4 ++ strV s1).length (l4 ++ strV s1))], []) else none else none else none else none else none := by kernel_rfl
theorem flagstoneref4_PutText_sound (N : Nat) (G : Nat → List V → Ans) (hC : ConstOk (flagstoneref4_PutText_ga G)) (h : ∀ f s, specs (flagstoneref4_PutText_ga G) f = some s → Sound Tryz.prog f s) : Sound Tryz.prog 27 (flagstoneref4_PutText_c (Rflagstoneref4_PutText N G)).spec :=
  sound_fun (u := flagstoneref4_PutText_fu) (nt := 11) mixed hC h Tryz.func27 (by rfl) (by kernel_rfl) (by kernel_rfl) (by kernel_rfl) (by kernel_rfl) (by decide) (by rfl)
noncomputable def flagstoneref4_PutText_G : Nat → List V → Ans := look (fun _ => none) [(0, flagstoneref4_PutNumber)]
noncomputable def flagstoneref4_PutText : List V → Ans := Rflagstoneref4_PutText N0 flagstoneref4_PutText_G
theorem flagstoneref4_PutText_ok : Sound Tryz.prog 27 (flagstoneref4_PutText_c flagstoneref4_PutText).spec := flagstoneref4_PutText_sound N0 flagstoneref4_PutText_G (const_cons (const_none rfl) const_nil) (conTab_ok (List.forall_mem_cons.2 ⟨flagstoneref4_PutNumber_ok, (by simp)⟩))
def flagstoneref4_Reader_Text_c (g : List V → Ans) : Con := ⟨⟨[.io [some 1, none, none], .rd [none]], [.plain [none]], false, g⟩, [[.str]], [[.sl 1, .int .i64, .int .i64]], none⟩
noncomputable def flagstoneref4_Reader_Text_fu : Fun := ⟨[.io [some 1, none, none], .rd [none]], [.plain [none]], false, [[.sl 1, .int .i64, .int .i64], [.int .i64]], Tryz.f31.body.getD .skip, [.tmp 4], [], []⟩
noncomputable def flagstoneref4_Reader_Text_ga (G : Nat → List V → Ans) : FuncId → Option Con := conTab [(48, flagstoneref4_Reader_Fail_c (G 0)), (47, flagstoneref4_Reader_Number_c (G 1))]
noncomputable def Rflagstoneref4_Reader_Text (N : Nat) (G : Nat → List V → Ans) (xs : List V) : Ans := flagstoneref4_Reader_Text_fu.run optAlg Tryz.prog (flagstoneref4_Reader_Text_ga G) N xs
theorem Rflagstoneref4_Reader_Text_eq (N : Nat) (G : Nat → List V → Ans) (v0 : V) (v1 : V) : Rflagstoneref4_Reader_Text N G [v0, v1] =
  (asAgg v0).bind fun l0 => if l0.length = (3 : Nat) then l0[(0 : Nat)]?.bind fun v1_1 => (asSl (1 : Nat) v1_1).bind fun l2 => l0[(1 : Nat)]?.bind fun v3 => (asInt IntKind.i64 v3).bind fun i4 => l0[(2 : Nat)]?.bind fun v5 => (asInt IntKind.i64 v5).bind fun i6 => (asInt IntKind.i64 v1).bind fun i7 => Option.bind (G (1 : Nat) [V.agg [V.sl (1 : Nat) l2, V.int IntKind.i64 i4, V.int IntKind.i64 i6]]) fun p8 => if p8.fst.length = (1 : Nat) ∧ p8.snd.length = (1 : Nat) then p8.fst[(0 : Nat)]?.bind fun v9 => (asInt IntKind.i64 v9).bind fun i10 => p8.snd[(0 : Nat)]?.bind fun v11 => (asAgg v11).bind fun l12 => if l12.length = (3 : Nat) then l12[(0 : Nat)]?.bind fun v13 => (asSl (1 : Nat) v13).bind fun l14 => l12[(1 : Nat)]?.bind fun v15 => (asInt IntKind.i64 v15).bind fun i16 => l12[(2 : Nat)]?.bind fun v17 => (asInt IntKind.i64 v17).bind fun i18 => bif i18 != (0 : Int) then some ([V.str (ByteArray.mk #[])], [V.agg [V.sl (1 : Nat) l14, V.int IntKind.i64 i4, V.int IntKind.i64 i18]]) else bif decide (i10 < (0 : Int)) then Option.bind (G (0 : Nat) [V.agg [V.sl (1 : Nat) l14, V.int IntKind.i64 i16, V.int IntKind.i64 i18], V.int IntKind.i64 (3 : Int)]) fun p19 => if p19.fst.length = (0 : Nat) ∧ p19.snd.length = (1 : Nat) then p19.snd[(0 : Nat)]?.bind fun v20 => (asAgg v20).bind fun l21 => if l21.length = (3 : Nat) then l21[(0 : Nat)]?.bind fun v22 => (asSl (1 : Nat) v22).bind fun l23 => l21[(1 : Nat)]?.bind fun v24 => (asInt IntKind.i64 v24).bind fun i25 => l21[(2 : Nat)]?.bind fun v26 => (asInt IntKind.i64 v26).bind fun i27 => some ([V.str (ByteArray.mk #[])], [V.agg [V.sl (1 : Nat) l23, V.int IntKind.i64 i4, V.int IntKind.i64 i27]]) else none else none else bif decide (i10 > i7) then Option.bind (G (0 : Nat) [V.agg [V.sl (1 : Nat) l14, V.int IntKind.i64 i16, V.int IntKind.i64 i18], V.int IntKind.i64 (4 : Int)]) fun p28 => if p28.fst.length = (0 : Nat) ∧ p28.snd.length = (1 : Nat) then p28.snd[(0 : Nat)]?.bind fun v29 => (asAgg v29).bind fun l30 => if l30.length = (3 : Nat) then l30[(0 : Nat)]?.bind fun v31 => (asSl (1 : Nat) v31).bind fun l32 => l30[(1 : Nat)]?.bind fun v33 => (asInt IntKind.i64 v33).bind fun i34 => l30[(2 : Nat)]?.bind fun v35 => (asInt IntKind.i64 v35).bind fun i36 => some ([V.str (ByteArray.mk #[])], [V.agg [V.sl (1 : Nat) l32, V.int IntKind.i64 i4, V.int IntKind.i64 i36]]) else none else none else bif decide (i10 > IntKind.i64.wrap ((↑l14.length : Int) - i16)) then Option.bind (G (0 : Nat) [V.agg [V.sl (1 : Nat) l14, V.int IntKind.i64 i16, V.int IntKind.i64 i18], V.int IntKind.i64 (16 : Int)]) fun p37 => if p37.fst.length = (0 : Nat) ∧ p37.snd.length = (1 : Nat) then p37.snd[(0 : Nat)]?.bind fun v38 => (asAgg v38).bind fun l39 => if l39.length = (3 : Nat) then l39[(0 : Nat)]?.bind fun v40 => (asSl (1 : Nat) v40).bind fun l41 => l39[(1 : Nat)]?.bind fun v42 => (asInt IntKind.i64 v42).bind fun i43 => l39[(2 : Nat)]?.bind fun v44 => (asInt IntKind.i64 v44).bind fun i45 => some ([V.str (ByteArray.mk #[])], [V.agg [V.sl (1 : Nat) l41, V.int IntKind.i64 i4, V.int IntKind.i64 i45]]) else none else none else if (0 : Int) ≤ IntKind.i64.wrap (IntKind.i64.wrap (i16 + i10) - i10) ∧ IntKind.i64.wrap (IntKind.i64.wrap (i16 + i10) - i10) ≤ IntKind.i64.wrap (i16 + i10) ∧ IntKind.i64.wrap (i16 + i10) ≤ (↑l14.length : Int) then if (List.drop (IntKind.i64.wrap (IntKind.i64.wrap (i16 + i10) - i10)).toNat (List.take (IntKind.i64.wrap (i16 + i10)).toNat l14)).all V.isU8 = true then some ([V.str (ByteArray.mk (List.map V.byte (List.drop (IntKind.i64.wrap (IntKind.i64.wrap (i16 + i10) - i10)).toNat (List.take (IntKind.i64.wrap (i16 + i10)).toNat l14))).toArray)], [V.agg [V.sl (1 : Nat) l14, V.int IntKind.i64 (IntKind.i64.wrap (i16 + i10)), V.int IntKind.i64 i18]]) else none else none else none else none else none := by kernel_rfl
theorem flagstoneref4_Reader_Text_sound (N : Nat) (G : Nat → List V → Ans) (hC : ConstOk (flagstoneref4_Reader_Text_ga G)) (h : ∀ f s, specs (flagstoneref4_Reader_Text_ga G) f = some s → Sound Tryz.prog f s) : Sound Tryz.prog 31 (flagstoneref4_Reader_Text_c (Rflagstoneref4_Reader_Text N G)).spec :=
  sound_fun (u := flagstoneref4_Reader_Text_fu) (nt := 73) mixed hC h Tryz.func31 (by rfl) (by kernel_rfl) (by kernel_rfl) (by kernel_rfl) (by kernel_rfl) (by decide) (by rfl)
noncomputable def flagstoneref4_Reader_Text_G : Nat → List V → Ans := look (fun _ => none) [(0, flagstoneref4_Reader_Fail), (1, flagstoneref4_Reader_Number)]
noncomputable def flagstoneref4_Reader_Text : List V → Ans := Rflagstoneref4_Reader_Text N0 flagstoneref4_Reader_Text_G
theorem flagstoneref4_Reader_Text_ok : Sound Tryz.prog 31 (flagstoneref4_Reader_Text_c flagstoneref4_Reader_Text).spec := flagstoneref4_Reader_Text_sound N0 flagstoneref4_Reader_Text_G (const_cons (const_none rfl) (const_cons (const_none rfl) const_nil)) (conTab_ok (List.forall_mem_cons.2 ⟨flagstoneref4_Reader_Fail_ok, (List.forall_mem_cons.2 ⟨flagstoneref4_Reader_Number_ok, (by simp)⟩)⟩))
def column_Texts_c (g : List V → Ans) : Con := ⟨⟨[.rd [some 1]], [.own 1], true, g⟩, [[]], [], none⟩
noncomputable def column_Texts_fu : Fun := ⟨[.rd [some 1]], [.own 1], true, [[.sl 1]], Tryz.f6.body.getD .skip, [.tmp 2], [(0, ⟨[0, 3, 4, 21, 22, 23], [], false⟩), (2, ⟨[3, 4, 7, 31, 32, 33], [((7, none), .own 1)], false⟩)], []⟩
noncomputable def column_Texts_ga (G : Nat → List V → Ans) : FuncId → Option Con := conTab [(13, column_Ints_c (G 0)), (19, slices_BinarySearch_sstring_string_c (G 1)), (14, slices_Clone_sstring_string_c (G 2)), (16, slices_Compact_sstring_string_c (G 3)), (15, slices_Sort_sstring_string_c (G 4)), (17, wire_PutNumber_c (G 5)), (18, wire_PutText_c (G 6))]
noncomputable def Rcolumn_Texts (N : Nat) (G : Nat → List V → Ans) (xs : List V) : Ans := column_Texts_fu.run optAlg Tryz.prog (column_Texts_ga G) N xs
noncomputable def Lcolumn_Texts_0 (N : Nat) (G : Nat → List V → Ans) (n : Nat) (l0 : List V) (i22 : Int) (i23 : Int) (l3 : List V) (l4 : List V) : Ans := column_Texts_fu.go optAlg Tryz.prog (column_Texts_ga G) N [V.bool false] (look (0 : Nat) [((0 : Nat), n)]) 0 false (mkSt [((0 : Nat), D.v (V.sl (1 : Nat) l0)), ((3 : Nat), D.own (103000 : Nat) (0 : Nat) (0 : Nat) l3.length), ((4 : Nat), D.own (104000 : Nat) (0 : Nat) (0 : Nat) l4.length), ((21 : Nat), D.own (103000 : Nat) (0 : Nat) (0 : Nat) l3.length), ((22 : Nat), D.v (V.int IntKind.i64 i22)), ((23 : Nat), D.v (V.int IntKind.i64 i23))] [((103000 : Nat), RS.mk (0 : Nat) (some (Reg.mk (Body.row (1 : Nat) l3) false))), ((104000 : Nat), RS.mk (0 : Nat) (some (Reg.mk (Body.row (1 : Nat) l4) false)))])
noncomputable def Lcolumn_Texts_2 (N : Nat) (G : Nat → List V → Ans) (n : Nat) (l31 : List V) (i32 : Int) (i33 : Int) (l3 : List V) (l4 : List V) (l7 : List V) : Ans := column_Texts_fu.go optAlg Tryz.prog (column_Texts_ga G) N [V.bool false] (look (0 : Nat) [((2 : Nat), n)]) 2 false (mkSt [((3 : Nat), D.own (103000 : Nat) (0 : Nat) (0 : Nat) l3.length), ((4 : Nat), D.own (104000 : Nat) (0 : Nat) (0 : Nat) l4.length), ((7 : Nat), D.own (107000 : Nat) (0 : Nat) (0 : Nat) l7.length), ((31 : Nat), D.v (V.sl (1 : Nat) l31)), ((32 : Nat), D.v (V.int IntKind.i64 i32)), ((33 : Nat), D.v (V.int IntKind.i64 i33))] [((103000 : Nat), RS.mk (0 : Nat) (some (Reg.mk (Body.row (1 : Nat) l3) false))), ((104000 : Nat), RS.mk (0 : Nat) (some (Reg.mk (Body.row (1 : Nat) l4) false))), ((107000 : Nat), RS.mk (0 : Nat) (some (Reg.mk (Body.row (1 : Nat) l7) false)))])
theorem Rcolumn_Texts_eq (N : Nat) (G : Nat → List V → Ans) (v0 : V) : Rcolumn_Texts N G [v0] =
  (asSl (1 : Nat) v0).bind fun l0 => Option.bind (G (2 : Nat) [V.sl (1 : Nat) l0]) fun p1 => if p1.fst.length = (1 : Nat) ∧ p1.snd.length = (0 : Nat) then p1.fst[(0 : Nat)]?.bind fun v2 => (asSl (1 : Nat) v2).bind fun l3 => if (0 : Nat) = (0 : Nat) ∧ l3.length = l3.length then Option.bind (G (4 : Nat) [V.sl (1 : Nat) l3]) fun p4 => if p4.fst.length = (0 : Nat) ∧ p4.snd.length = (1 : Nat) then p4.snd[(0 : Nat)]?.bind fun v5 => (asSl (1 : Nat) v5).bind fun l6 => if (1 : Nat) = (1 : Nat) ∧ l6.length = l3.length then if (0 : Nat) = (0 : Nat) ∧ l3.length ≤ l6.length then Option.bind (G (3 : Nat) [V.sl (1 : Nat) (List.take l3.length l6)]) fun p7 => if p7.fst.length = (1 : Nat) ∧ p7.snd.length = (0 : Nat) then p7.fst[(0 : Nat)]?.bind fun v8 => (asSl (1 : Nat) v8).bind fun l9 => Option.bind (G (5 : Nat) [V.sl (1 : Nat) [], V.int IntKind.i64 (↑l9.length : Int)]) fun p10 => if p10.fst.length = (1 : Nat) ∧ p10.snd.length = (0 : Nat) then p10.fst[(0 : Nat)]?.bind fun v11 => (asSl (1 : Nat) v11).bind fun l12 => Lcolumn_Texts_0 N G N l0 (↑l9.length : Int) (0 : Int) l9 l12 else none else none else none else none else none else none else none := by kernel_rfl
theorem Lcolumn_Texts_0_eq (N : Nat) (G : Nat → List V → Ans) (n : Nat) (l0 : List V) (i22 : Int) (i23 : Int) (l3 : List V) (l4 : List V) : Lcolumn_Texts_0 N G (n + 1) l0 i22 i23 l3 l4 =
  bif decide (i23 < i22) then if (0 : Int) ≤ i23 ∧ i23 < (↑l3.length : Int) then l3[(0 : Nat) + i23.toNat]?.bind fun v13 => v13.cells[(0 : Nat)]?.bind fun v14 => (asStr v14).bind fun s15 => Option.bind (G (6 : Nat) [V.sl (1 : Nat) (List.take l4.length (List.drop (0 : Nat) l4)), V.str s15]) fun p16 => if p16.fst.length = (1 : Nat) ∧ p16.snd.length = (0 : Nat) then p16.fst[(0 : Nat)]?.bind fun v17 => (asSl (1 : Nat) v17).bind fun l18 => Lcolumn_Texts_0 N G n l0 i22 (IntKind.i64.wrap (i23 + (1 : Int))) l3 l18 else none else none else Lcolumn_Texts_2 N G N l0 (↑l0.length : Int) (0 : Int) l3 l4 [] := by kernel_rfl
theorem Lcolumn_Texts_2_eq (N : Nat) (G : Nat → List V → Ans) (n : Nat) (l31 : List V) (i32 : Int) (i33 : Int) (l3 : List V) (l4 : List V) (l7 : List V) : Lcolumn_Texts_2 N G (n + 1) l31 i32 i33 l3 l4 l7 =
  bif decide (i33 < i32) then if (0 : Int) ≤ i33 ∧ i33 < (↑l31.length : Int) then l31[i33.toNat]?.bind fun v19 => v19.cells[(0 : Nat)]?.bind fun v20 => (asStr v20).bind fun s21 => Option.bind (G (1 : Nat) [V.sl (1 : Nat) (List.take l3.length (List.drop (0 : Nat) l3)), V.str s21]) fun p22 => if p22.fst.length = (2 : Nat) ∧ p22.snd.length = (0 : Nat) then p22.fst[(0 : Nat)]?.bind fun v23 => (asInt IntKind.i64 v23).bind fun i24 => p22.fst[(1 : Nat)]?.bind fun v25 => (asBool v25).bind fun b26 => if (0 : Nat) = (0 : Nat) ∧ l7.length = l7.length then if room (l7.length + (1 : Nat)) (8 : Nat) then Lcolumn_Texts_2 N G n l31 i32 (IntKind.i64.wrap (i33 + (1 : Int))) l3 l4 (l7 ++ [V.int IntKind.i64 i24]) else none else none else none else none else Option.bind (G (0 : Nat) [V.sl (1 : Nat) (List.take l7.length (List.drop (0 : Nat) l7))]) fun p27 => if p27.fst.length = (1 : Nat) ∧ p27.snd.length = (0 : Nat) then p27.fst[(0 : Nat)]?.bind fun v28 => (asSl (1 : Nat) v28).bind fun l29 => if (0 : Nat) = (0 : Nat) ∧ l4.length = l4.length then if room (l4.length + l29.length) (1 : Nat) then if (0 : Nat) = (0 : Nat) ∧ (l4 ++ l29).length ≤ (l4 ++ l29).length then if (l4 ++ l29).all V.bare = true then some ([V.sl (1 : Nat) (List.take (l4 ++ l29).length (l4 ++ l29))], []) else none else none else none else none else none := by kernel_rfl
theorem column_Texts_sound (N : Nat) (G : Nat → List V → Ans) (hC : ConstOk (column_Texts_ga G)) (h : ∀ f s, specs (column_Texts_ga G) f = some s → Sound Tryz.prog f s) : Sound Tryz.prog 6 (column_Texts_c (Rcolumn_Texts N G)).spec :=
  sound_fun (u := column_Texts_fu) (nt := 52) mixed hC h Tryz.func6 (by rfl) (by kernel_rfl) (by kernel_rfl) (by kernel_rfl) (by kernel_rfl) (by decide) (by rfl)
noncomputable def column_Texts_G : Nat → List V → Ans := look (fun _ => none) [(0, column_Ints), (1, slices_BinarySearch_sstring_string), (2, slices_Clone_sstring_string), (3, slices_Compact_sstring_string), (4, slices_Sort_sstring_string), (5, wire_PutNumber), (6, wire_PutText)]
noncomputable def column_Texts : List V → Ans := Rcolumn_Texts N0 column_Texts_G
theorem column_Texts_ok : Sound Tryz.prog 6 (column_Texts_c column_Texts).spec := column_Texts_sound N0 column_Texts_G (const_cons (const_none rfl) (const_cons (const_none rfl) (const_cons (const_none rfl) (const_cons (const_none rfl) (const_cons (const_none rfl) (const_cons (const_none rfl) (const_cons (const_none rfl) const_nil))))))) (conTab_ok (List.forall_mem_cons.2 ⟨column_Ints_ok, (List.forall_mem_cons.2 ⟨slices_BinarySearch_sstring_string_ok, (List.forall_mem_cons.2 ⟨slices_Clone_sstring_string_ok, (List.forall_mem_cons.2 ⟨slices_Compact_sstring_string_ok, (List.forall_mem_cons.2 ⟨slices_Sort_sstring_string_ok, (List.forall_mem_cons.2 ⟨wire_PutNumber_ok, (List.forall_mem_cons.2 ⟨wire_PutText_ok, (by simp)⟩)⟩)⟩)⟩)⟩)⟩)⟩))
def flagstoneref31_Texts_c (g : List V → Ans) : Con := ⟨⟨[.rd [some 1]], [.own 1], true, g⟩, [[]], [], none⟩
noncomputable def flagstoneref31_Texts_fu : Fun := ⟨[.rd [some 1]], [.own 1], true, [[.sl 1]], Tryz.f8.body.getD .skip, [.tmp 2], [(0, ⟨[0, 3, 4], [((3, none), .own 1)], false⟩), (2, ⟨[0, 3, 4, 5], [], false⟩), (4, ⟨[0, 3, 6, 7, 8], [], false⟩), (6, ⟨[0, 3, 6, 7, 9], [((7, none), .own 1)], false⟩), (8, ⟨[0, 3, 6, 7, 9, 10], [], false⟩)], []⟩
noncomputable def flagstoneref31_Texts_ga (G : Nat → List V → Ans) : FuncId → Option Con := conTab [(28, flagstoneref31_Ints_c (G 0)), (26, flagstoneref4_PutNumber_c (G 1)), (27, flagstoneref4_PutText_c (G 2))]
noncomputable def Rflagstoneref31_Texts (N : Nat) (G : Nat → List V → Ans) (xs : List V) : Ans := flagstoneref31_Texts_fu.run optAlg Tryz.prog (flagstoneref31_Texts_ga G) N xs
noncomputable def Lflagstoneref31_Texts_0 (N : Nat) (G : Nat → List V → Ans) (n : Nat) (l0 : List V) (i4 : Int) (l3 : List V) : Ans := flagstoneref31_Texts_fu.go optAlg Tryz.prog (flagstoneref31_Texts_ga G) N [V.bool false] (look (0 : Nat) [((0 : Nat), n)]) 0 false (mkSt [((0 : Nat), D.v (V.sl (1 : Nat) l0)), ((3 : Nat), D.own (103000 : Nat) (0 : Nat) (0 : Nat) l3.length), ((4 : Nat), D.v (V.int IntKind.i64 i4))] [((103000 : Nat), RS.mk (0 : Nat) (some (Reg.mk (Body.row (1 : Nat) l3) false)))])
noncomputable def Lflagstoneref31_Texts_2 (N : Nat) (G : Nat → List V → Ans) (n : Nat) (m0 : Nat) (l0 : List V) (i4 : Int) (i5 : Int) (l3 : List V) : Ans := flagstoneref31_Texts_fu.go optAlg Tryz.prog (flagstoneref31_Texts_ga G) N [V.bool false] (look (0 : Nat) [((2 : Nat), n), ((0 : Nat), m0)]) 2 false (mkSt [((0 : Nat), D.v (V.sl (1 : Nat) l0)), ((3 : Nat), D.own (103000 : Nat) (0 : Nat) (0 : Nat) l3.length), ((4 : Nat), D.v (V.int IntKind.i64 i4)), ((5 : Nat), D.v (V.int IntKind.i64 i5))] [((103000 : Nat), RS.mk (0 : Nat) (some (Reg.mk (Body.row (1 : Nat) l3) false)))])
noncomputable def Lflagstoneref31_Texts_4 (N : Nat) (G : Nat → List V → Ans) (n : Nat) (l0 : List V) (i8 : Int) (l3 : List V) (l6 : List V) : Ans := flagstoneref31_Texts_fu.go optAlg Tryz.prog (flagstoneref31_Texts_ga G) N [V.bool false] (look (0 : Nat) [((4 : Nat), n)]) 4 false (mkSt [((0 : Nat), D.v (V.sl (1 : Nat) l0)), ((3 : Nat), D.own (103000 : Nat) (0 : Nat) (0 : Nat) l3.length), ((6 : Nat), D.own (106000 : Nat) (0 : Nat) (0 : Nat) l6.length), ((7 : Nat), D.v V.nil), ((8 : Nat), D.v (V.int IntKind.i64 i8))] [((103000 : Nat), RS.mk (0 : Nat) (some (Reg.mk (Body.row (1 : Nat) l3) false))), ((106000 : Nat), RS.mk (0 : Nat) (some (Reg.mk (Body.row (1 : Nat) l6) false)))])
noncomputable def Lflagstoneref31_Texts_6 (N : Nat) (G : Nat → List V → Ans) (n : Nat) (l0 : List V) (i9 : Int) (l3 : List V) (l6 : List V) (l7 : List V) : Ans := flagstoneref31_Texts_fu.go optAlg Tryz.prog (flagstoneref31_Texts_ga G) N [V.bool false] (look (0 : Nat) [((6 : Nat), n)]) 6 false (mkSt [((0 : Nat), D.v (V.sl (1 : Nat) l0)), ((3 : Nat), D.own (103000 : Nat) (0 : Nat) (0 : Nat) l3.length), ((6 : Nat), D.own (106000 : Nat) (0 : Nat) (0 : Nat) l6.length), ((7 : Nat), D.own (107000 : Nat) (0 : Nat) (0 : Nat) l7.length), ((9 : Nat), D.v (V.int IntKind.i64 i9))] [((103000 : Nat), RS.mk (0 : Nat) (some (Reg.mk (Body.row (1 : Nat) l3) false))), ((106000 : Nat), RS.mk (0 : Nat) (some (Reg.mk (Body.row (1 : Nat) l6) false))), ((107000 : Nat), RS.mk (0 : Nat) (some (Reg.mk (Body.row (1 : Nat) l7) false)))])
noncomputable def Lflagstoneref31_Texts_8 (N : Nat) (G : Nat → List V → Ans) (n : Nat) (m6 : Nat) (l0 : List V) (i9 : Int) (i10 : Int) (l3 : List V) (l6 : List V) (l7 : List V) : Ans := flagstoneref31_Texts_fu.go optAlg Tryz.prog (flagstoneref31_Texts_ga G) N [V.bool false] (look (0 : Nat) [((8 : Nat), n), ((6 : Nat), m6)]) 8 false (mkSt [((0 : Nat), D.v (V.sl (1 : Nat) l0)), ((3 : Nat), D.own (103000 : Nat) (0 : Nat) (0 : Nat) l3.length), ((6 : Nat), D.own (106000 : Nat) (0 : Nat) (0 : Nat) l6.length), ((7 : Nat), D.own (107000 : Nat) (0 : Nat) (0 : Nat) l7.length), ((9 : Nat), D.v (V.int IntKind.i64 i9)), ((10 : Nat), D.v (V.int IntKind.i64 i10))] [((103000 : Nat), RS.mk (0 : Nat) (some (Reg.mk (Body.row (1 : Nat) l3) false))), ((106000 : Nat), RS.mk (0 : Nat) (some (Reg.mk (Body.row (1 : Nat) l6) false))), ((107000 : Nat), RS.mk (0 : Nat) (some (Reg.mk (Body.row (1 : Nat) l7) false)))])
theorem Rflagstoneref31_Texts_eq (N : Nat) (G : Nat → List V → Ans) (v0 : V) : Rflagstoneref31_Texts N G [v0] =
  (asSl (1 : Nat) v0).bind fun l0 => Lflagstoneref31_Texts_0 N G N l0 (0 : Int) [] := by kernel_rfl
theorem Lflagstoneref31_Texts_0_eq (N : Nat) (G : Nat → List V → Ans) (n : Nat) (l0 : List V) (i4 : Int) (l3 : List V) : Lflagstoneref31_Texts_0 N G (n + 1) l0 i4 l3 =
  bif decide (i4 < (↑l0.length : Int)) then Lflagstoneref31_Texts_2 N G N n l0 i4 (0 : Int) l3 else Option.bind (G (1 : Nat) [V.sl (1 : Nat) [], V.int IntKind.i64 (↑l3.length : Int)]) fun p1 => if p1.fst.length = (1 : Nat) ∧ p1.snd.length = (0 : Nat) then p1.fst[(0 : Nat)]?.bind fun v2 => (asSl (1 : Nat) v2).bind fun l3_1 => Lflagstoneref31_Texts_4 N G N l0 (0 : Int) l3 l3_1 else none := by kernel_rfl
theorem Lflagstoneref31_Texts_2_eq (N : Nat) (G : Nat → List V → Ans) (n : Nat) (m0 : Nat) (l0 : List V) (i4 : Int) (i5 : Int) (l3 : List V) : Lflagstoneref31_Texts_2 N G (n + 1) m0 l0 i4 i5 l3 =
  bif decide (i5 < (↑l3.length : Int)) then if (0 : Int) ≤ i5 ∧ i5 < (↑l3.length : Int) then l3[(0 : Nat) + i5.toNat]?.bind fun v4 => v4.cells[(0 : Nat)]?.bind fun v5 => (asStr v5).bind fun s6 => if (0 : Int) ≤ i4 ∧ i4 < (↑l0.length : Int) then l0[i4.toNat]?.bind fun v7 => v7.cells[(0 : Nat)]?.bind fun v8 => (asStr v8).bind fun s9 => bif Op.bytesLess s6.toList s9.toList then Lflagstoneref31_Texts_2 N G n m0 l0 i4 (IntKind.i64.wrap (i5 + (1 : Int))) l3 else bif i5 == (↑l3.length : Int) then if (0 : Int) ≤ (0 : Int) ∧ (0 : Int) ≤ i5 ∧ i5 ≤ (↑l3.length : Int) then if room ((0 : Nat) + (List.take (i5 - (0 : Int)).toNat (List.drop (0 : Nat) l3)).length) (16 : Nat) then if (0 : Int) ≤ i4 ∧ i4 < (↑l0.length : Int) then l0[i4.toNat]?.bind fun v10 => v10.cells[(0 : Nat)]?.bind fun v11 => (asStr v11).bind fun s12 => if (0 : Nat) = (0 : Nat) ∧ ([] ++ List.take (i5 - (0 : Int)).toNat (List.drop (0 : Nat) l3)).length = ([] ++ List.take (i5 - (0 : Int)).toNat (List.drop (0 : Nat) l3)).length then if room (([] ++ List.take (i5 - (0 : Int)).toNat (List.drop (0 : Nat) l3)).length + (1 : Nat)) (16 : Nat) then if (0 : Int) ≤ i5 ∧ i5 ≤ (↑l3.length : Int) ∧ (↑l3.length : Int) ≤ (↑l3.length : Int) then if (0 : Nat) = (0 : Nat) ∧ ([] ++ List.take (i5 - (0 : Int)).toNat (List.drop (0 : Nat) l3) ++ [V.str s12]).length = ([] ++ List.take (i5 - (0 : Int)).toNat (List.drop (0 : Nat) l3) ++ [V.str s12]).length then if room (([] ++ List.take (i5 - (0 : Int)).toNat (List.drop (0 : Nat) l3) ++ [V.str s12]).length + (List.take ((↑l3.length : Int) - i5).toNat (List.drop ((0 : Nat) + i5.toNat) l3)).length) (16 : Nat) then Lflagstoneref31_Texts_0 N G m0 l0 (IntKind.i64.wrap (i4 + (1 : Int))) ([] ++ List.take (i5 - (0 : Int)).toNat (List.drop (0 : Nat) l3) ++ [V.str s12] ++ List.take ((↑l3.length : Int) - i5).toNat (List.drop ((0 : Nat) + i5.toNat) l3)) else none else none else none else none else none else none else none else none else if (0 : Int) ≤ i5 ∧ i5 < (↑l3.length : Int) then l3[(0 : Nat) + i5.toNat]?.bind fun v13 => v13.cells[(0 : Nat)]?.bind fun v14 => (asStr v14).bind fun s15 => if (0 : Int) ≤ i4 ∧ i4 < (↑l0.length : Int) then l0[i4.toNat]?.bind fun v16 => v16.cells[(0 : Nat)]?.bind fun v17 => (asStr v17).bind fun s18 => bif !s15.toList == s18.toList then if (0 : Int) ≤ (0 : Int) ∧ (0 : Int) ≤ i5 ∧ i5 ≤ (↑l3.length : Int) then if room ((0 : Nat) + (List.take (i5 - (0 : Int)).toNat (List.drop (0 : Nat) l3)).length) (16 : Nat) then if (0 : Int) ≤ i4 ∧ i4 < (↑l0.length : Int) then l0[i4.toNat]?.bind fun v19 => v19.cells[(0 : Nat)]?.bind fun v20 => (asStr v20).bind fun s21 => if (0 : Nat) = (0 : Nat) ∧ ([] ++ List.take (i5 - (0 : Int)).toNat (List.drop (0 : Nat) l3)).length = ([] ++ List.take (i5 - (0 : Int)).toNat (List.drop (0 : Nat) l3)).length then if room (([] ++ List.take (i5 - (0 : Int)).toNat (List.drop (0 : Nat) l3)).length + (1 : Nat)) (16 : Nat) then if (0 : Int) ≤ i5 ∧ i5 ≤ (↑l3.length : Int) ∧ (↑l3.length : Int) ≤ (↑l3.length : Int) then if (0 : Nat) = (0 : Nat) ∧ ([] ++ List.take (i5 - (0 : Int)).toNat (List.drop (0 : Nat) l3) ++ [V.str s21]).length = ([] ++ List.take (i5 - (0 : Int)).toNat (List.drop (0 : Nat) l3) ++ [V.str s21]).length then if room (([] ++ List.take (i5 - (0 : Int)).toNat (List.drop (0 : Nat) l3) ++ [V.str s21]).length + (List.take ((↑l3.length : Int) - i5).toNat (List.drop ((0 : Nat) + i5.toNat) l3)).length) (16 : Nat) then Lflagstoneref31_Texts_0 N G m0 l0 (IntKind.i64.wrap (i4 + (1 : Int))) ([] ++ List.take (i5 - (0 : Int)).toNat (List.drop (0 : Nat) l3) ++ [V.str s21] ++ List.take ((↑l3.length : Int) - i5).toNat (List.drop ((0 : Nat) + i5.toNat) l3)) else none else none else none else none else none else none else none else none else Lflagstoneref31_Texts_0 N G m0 l0 (IntKind.i64.wrap (i4 + (1 : Int))) l3 else none else none else none else none else bif i5 == (↑l3.length : Int) then if (0 : Int) ≤ (0 : Int) ∧ (0 : Int) ≤ i5 ∧ i5 ≤ (↑l3.length : Int) then if room ((0 : Nat) + (List.take (i5 - (0 : Int)).toNat (List.drop (0 : Nat) l3)).length) (16 : Nat) then if (0 : Int) ≤ i4 ∧ i4 < (↑l0.length : Int) then l0[i4.toNat]?.bind fun v22 => v22.cells[(0 : Nat)]?.bind fun v23 => (asStr v23).bind fun s24 => if (0 : Nat) = (0 : Nat) ∧ ([] ++ List.take (i5 - (0 : Int)).toNat (List.drop (0 : Nat) l3)).length = ([] ++ List.take (i5 - (0 : Int)).toNat (List.drop (0 : Nat) l3)).length then if room (([] ++ List.take (i5 - (0 : Int)).toNat (List.drop (0 : Nat) l3)).length + (1 : Nat)) (16 : Nat) then if (0 : Int) ≤ i5 ∧ i5 ≤ (↑l3.length : Int) ∧ (↑l3.length : Int) ≤ (↑l3.length : Int) then if (0 : Nat) = (0 : Nat) ∧ ([] ++ List.take (i5 - (0 : Int)).toNat (List.drop (0 : Nat) l3) ++ [V.str s24]).length = ([] ++ List.take (i5 - (0 : Int)).toNat (List.drop (0 : Nat) l3) ++ [V.str s24]).length then if room (([] ++ List.take (i5 - (0 : Int)).toNat (List.drop (0 : Nat) l3) ++ [V.str s24]).length + (List.take ((↑l3.length : Int) - i5).toNat (List.drop ((0 : Nat) + i5.toNat) l3)).length) (16 : Nat) then Lflagstoneref31_Texts_0 N G m0 l0 (IntKind.i64.wrap (i4 + (1 : Int))) ([] ++ List.take (i5 - (0 : Int)).toNat (List.drop (0 : Nat) l3) ++ [V.str s24] ++ List.take ((↑l3.length : Int) - i5).toNat (List.drop ((0 : Nat) + i5.toNat) l3)) else none else none else none else none else none else none else none else none else if (0 : Int) ≤ i5 ∧ i5 < (↑l3.length : Int) then l3[(0 : Nat) + i5.toNat]?.bind fun v25 => v25.cells[(0 : Nat)]?.bind fun v26 => (asStr v26).bind fun s27 => if (0 : Int) ≤ i4 ∧ i4 < (↑l0.length : Int) then l0[i4.toNat]?.bind fun v28 => v28.cells[(0 : Nat)]?.bind fun v29 => (asStr v29).bind fun s30 => bif !s27.toList == s30.toList then if (0 : Int) ≤ (0 : Int) ∧ (0 : Int) ≤ i5 ∧ i5 ≤ (↑l3.length : Int) then if room ((0 : Nat) + (List.take (i5 - (0 : Int)).toNat (List.drop (0 : Nat) l3)).length) (16 : Nat) then if (0 : Int) ≤ i4 ∧ i4 < (↑l0.length : Int) then l0[i4.toNat]?.bind fun v31 => v31.cells[(0 : Nat)]?.bind fun v32 => (asStr v32).bind fun s33 => if (0 : Nat) = (0 : Nat) ∧ ([] ++ List.take (i5 - (0 : Int)).toNat (List.drop (0 : Nat) l3)).length = ([] ++ List.take (i5 - (0 : Int)).toNat (List.drop (0 : Nat) l3)).length then if room (([] ++ List.take (i5 - (0 : Int)).toNat (List.drop (0 : Nat) l3)).length + (1 : Nat)) (16 : Nat) then if (0 : Int) ≤ i5 ∧ i5 ≤ (↑l3.length : Int) ∧ (↑l3.length : Int) ≤ (↑l3.length : Int) then if (0 : Nat) = (0 : Nat) ∧ ([] ++ List.take (i5 - (0 : Int)).toNat (List.drop (0 : Nat) l3) ++ [V.str s33]).length = ([] ++ List.take (i5 - (0 : Int)).toNat (List.drop (0 : Nat) l3) ++ [V.str s33]).length then if room (([] ++ List.take (i5 - (0 : Int)).toNat (List.drop (0 : Nat) l3) ++ [V.str s33]).length + (List.take ((↑l3.length : Int) - i5).toNat (List.drop ((0 : Nat) + i5.toNat) l3)).length) (16 : Nat) then Lflagstoneref31_Texts_0 N G m0 l0 (IntKind.i64.wrap (i4 + (1 : Int))) ([] ++ List.take (i5 - (0 : Int)).toNat (List.drop (0 : Nat) l3) ++ [V.str s33] ++ List.take ((↑l3.length : Int) - i5).toNat (List.drop ((0 : Nat) + i5.toNat) l3)) else none else none else none else none else none else none else none else none else Lflagstoneref31_Texts_0 N G m0 l0 (IntKind.i64.wrap (i4 + (1 : Int))) l3 else none else none := by kernel_rfl
theorem Lflagstoneref31_Texts_4_eq (N : Nat) (G : Nat → List V → Ans) (n : Nat) (l0 : List V) (i8 : Int) (l3 : List V) (l6 : List V) : Lflagstoneref31_Texts_4 N G (n + 1) l0 i8 l3 l6 =
  bif decide (i8 < (↑l3.length : Int)) then if (0 : Int) ≤ i8 ∧ i8 < (↑l3.length : Int) then l3[(0 : Nat) + i8.toNat]?.bind fun v34 => v34.cells[(0 : Nat)]?.bind fun v35 => (asStr v35).bind fun s36 => Option.bind (G (2 : Nat) [V.sl (1 : Nat) (List.take l6.length (List.drop (0 : Nat) l6)), V.str s36]) fun p37 => if p37.fst.length = (1 : Nat) ∧ p37.snd.length = (0 : Nat) then p37.fst[(0 : Nat)]?.bind fun v38 => (asSl (1 : Nat) v38).bind fun l39 => Lflagstoneref31_Texts_4 N G n l0 (IntKind.i64.wrap (i8 + (1 : Int))) l3 l39 else none else none else Lflagstoneref31_Texts_6 N G N l0 (0 : Int) l3 l6 [] := by kernel_rfl
theorem Lflagstoneref31_Texts_6_eq (N : Nat) (G : Nat → List V → Ans) (n : Nat) (l0 : List V) (i9 : Int) (l3 : List V) (l6 : List V) (l7 : List V) : Lflagstoneref31_Texts_6 N G (n + 1) l0 i9 l3 l6 l7 =
  bif decide (i9 < (↑l0.length : Int)) then Lflagstoneref31_Texts_8 N G N n l0 i9 (0 : Int) l3 l6 l7 else Option.bind (G (0 : Nat) [V.sl (1 : Nat) (List.take l7.length (List.drop (0 : Nat) l7))]) fun p40 => if p40.fst.length = (1 : Nat) ∧ p40.snd.length = (0 : Nat) then p40.fst[(0 : Nat)]?.bind fun v41 => (asSl (1 : Nat) v41).bind fun l42 => if (0 : Nat) = (0 : Nat) ∧ l6.length = l6.length then if room (l6.length + (List.take l42.length (List.drop (0 : Nat) l42)).length) (1 : Nat) then if (0 : Nat) = (0 : Nat) ∧ (l6 ++ List.take l42.length (List.drop (0 : Nat) l42)).length ≤ (l6 ++ List.take l42.length (List.drop (0 : Nat) l42)).length then if (l6 ++ List.take l42.length (List.drop (0 : Nat) l42)).all V.bare = true then some ([V.sl (1 : Nat) (List.take (l6 ++ List.take l42.length (List.drop (0 : Nat) l42)).length (l6 ++ List.take l42.length (List.drop (0 : Nat) l42)))], []) else none else none else none else none else none := by kernel_rfl
theorem Lflagstoneref31_Texts_8_eq (N : Nat) (G : Nat → List V → Ans) (n : Nat) (m6 : Nat) (l0 : List V) (i9 : Int) (i10 : Int) (l3 : List V) (l6 : List V) (l7 : List V) : Lflagstoneref31_Texts_8 N G (n + 1) m6 l0 i9 i10 l3 l6 l7 =
  if (0 : Int) ≤ i10 ∧ i10 < (↑l3.length : Int) then l3[(0 : Nat) + i10.toNat]?.bind fun v43 => v43.cells[(0 : Nat)]?.bind fun v44 => (asStr v44).bind fun s45 => if (0 : Int) ≤ i9 ∧ i9 < (↑l0.length : Int) then l0[i9.toNat]?.bind fun v46 => v46.cells[(0 : Nat)]?.bind fun v47 => (asStr v47).bind fun s48 => bif !s45.toList == s48.toList then Lflagstoneref31_Texts_8 N G n m6 l0 i9 (IntKind.i64.wrap (i10 + (1 : Int))) l3 l6 l7 else if (0 : Nat) = (0 : Nat) ∧ l7.length = l7.length then if room (l7.length + (1 : Nat)) (8 : Nat) then Lflagstoneref31_Texts_6 N G m6 l0 (IntKind.i64.wrap (i9 + (1 : Int))) l3 l6 (l7 ++ [V.int IntKind.i64 i10]) else none else none else none else none := by kernel_rfl
theorem flagstoneref31_Texts_sound (N : Nat) (G : Nat → List V → Ans) (hC : ConstOk (flagstoneref31_Texts_ga G)) (h : ∀ f s, specs (flagstoneref31_Texts_ga G) f = some s → Sound Tryz.prog f s) : Sound Tryz.prog 8 (flagstoneref31_Texts_c (Rflagstoneref31_Texts N G)).spec :=
  sound_fun (u := flagstoneref31_Texts_fu) (nt := 104) mixed hC h Tryz.func8 (by rfl) (by kernel_rfl) (by kernel_rfl) (by kernel_rfl) (by kernel_rfl) (by decide) (by rfl)
noncomputable def flagstoneref31_Texts_G : Nat → List V → Ans := look (fun _ => none) [(0, flagstoneref31_Ints), (1, flagstoneref4_PutNumber), (2, flagstoneref4_PutText)]
noncomputable def flagstoneref31_Texts : List V → Ans := Rflagstoneref31_Texts N0 flagstoneref31_Texts_G
theorem flagstoneref31_Texts_ok : Sound Tryz.prog 8 (flagstoneref31_Texts_c flagstoneref31_Texts).spec := flagstoneref31_Texts_sound N0 flagstoneref31_Texts_G (const_cons (const_none rfl) (const_cons (const_none rfl) (const_cons (const_none rfl) const_nil))) (conTab_ok (List.forall_mem_cons.2 ⟨flagstoneref31_Ints_ok, (List.forall_mem_cons.2 ⟨flagstoneref4_PutNumber_ok, (List.forall_mem_cons.2 ⟨flagstoneref4_PutText_ok, (by simp)⟩)⟩)⟩))
def column_ReadTexts_c (g : List V → Ans) : Con := ⟨⟨[.rd [some 1]], [.own 1, .plain [none], .plain [none]], true, g⟩, [[], [.int .i64], [.int .i64]], [], none⟩
noncomputable def column_ReadTexts_fu : Fun := ⟨[.rd [some 1]], [.own 1, .plain [none], .plain [none]], true, [[.sl 1]], Tryz.f7.body.getD .skip, [.tmp 2, .tmp 3, .tmp 4], [(0, ⟨[0, 5, 7, 8, 9, 24, 25], [((8, none), .own 1)], false⟩), (2, ⟨[0, 8, 9, 55, 56, 57], [((9, none), .own 1)], false⟩)], [(12, ⟨[0, 5, 7, 8, 9], [], false⟩)]⟩
noncomputable def column_ReadTexts_ga (G : Nat → List V → Ans) : FuncId → Option Con := conTab [(25, bytes_HasPrefix_c (G 0)), (24, column_ReadInts_c (G 1)), (6, column_Texts_c (G 2)), (20, wire_New_c (G 3)), (17, wire_PutNumber_c (G 4)), (18, wire_PutText_c (G 5)), (21, wire_Reader_Count_c (G 6)), (23, wire_Reader_Err_c (G 7)), (22, wire_Reader_Text_c (G 8))]
noncomputable def Rcolumn_ReadTexts (N : Nat) (G : Nat → List V → Ans) (xs : List V) : Ans := column_ReadTexts_fu.run optAlg Tryz.prog (column_ReadTexts_ga G) N xs
noncomputable def Lcolumn_ReadTexts_0 (N : Nat) (G : Nat → List V → Ans) (n : Nat) (l0 : List V) (i7 : Int) (i24 : Int) (i25 : Int) (lr18 : List V) (ir18 : Int) (l8 : List V) : Ans := column_ReadTexts_fu.go optAlg Tryz.prog (column_ReadTexts_ga G) N [V.bool false] (look (0 : Nat) [((0 : Nat), n)]) 0 false (mkSt [((0 : Nat), D.v (V.sl (1 : Nat) l0)), ((5 : Nat), D.ptr (18 : Nat) (0 : Nat) (0 : Nat) (0 : Nat)), ((7 : Nat), D.v (V.int IntKind.i64 i7)), ((8 : Nat), D.own (108000 : Nat) (0 : Nat) (0 : Nat) l8.length), ((9 : Nat), D.v V.nil), ((24 : Nat), D.v (V.int IntKind.i64 i24)), ((25 : Nat), D.v (V.int IntKind.i64 i25))] [((18 : Nat), RS.mk (0 : Nat) (some (Reg.mk (Body.box [D.v (V.sl (1 : Nat) lr18), D.v (V.int IntKind.i64 ir18)]) false))), ((108000 : Nat), RS.mk (0 : Nat) (some (Reg.mk (Body.row (1 : Nat) l8) false)))])
noncomputable def Jcolumn_ReadTexts_12 (N : Nat) (G : Nat → List V → Ans) (l0 : List V) (i7 : Int) (lr18 : List V) (ir18 : Int) (l8 : List V) : Ans := column_ReadTexts_fu.go optAlg Tryz.prog (column_ReadTexts_ga G) N [V.bool false] (look (0 : Nat) []) 12 true (mkSt [((0 : Nat), D.v (V.sl (1 : Nat) l0)), ((5 : Nat), D.ptr (18 : Nat) (0 : Nat) (0 : Nat) (0 : Nat)), ((7 : Nat), D.v (V.int IntKind.i64 i7)), ((8 : Nat), D.own (108000 : Nat) (0 : Nat) (0 : Nat) l8.length), ((9 : Nat), D.v V.nil)] [((18 : Nat), RS.mk (0 : Nat) (some (Reg.mk (Body.box [D.v (V.sl (1 : Nat) lr18), D.v (V.int IntKind.i64 ir18)]) false))), ((108000 : Nat), RS.mk (0 : Nat) (some (Reg.mk (Body.row (1 : Nat) l8) false)))])
noncomputable def Lcolumn_ReadTexts_2 (N : Nat) (G : Nat → List V → Ans) (n : Nat) (l0 : List V) (l55 : List V) (i56 : Int) (i57 : Int) (l8 : List V) (l9 : List V) : Ans := column_ReadTexts_fu.go optAlg Tryz.prog (column_ReadTexts_ga G) N [V.bool false] (look (0 : Nat) [((2 : Nat), n)]) 2 false (mkSt [((0 : Nat), D.v (V.sl (1 : Nat) l0)), ((8 : Nat), D.own (108000 : Nat) (0 : Nat) (0 : Nat) l8.length), ((9 : Nat), D.own (109000 : Nat) (0 : Nat) (0 : Nat) l9.length), ((55 : Nat), D.v (V.sl (1 : Nat) l55)), ((56 : Nat), D.v (V.int IntKind.i64 i56)), ((57 : Nat), D.v (V.int IntKind.i64 i57))] [((108000 : Nat), RS.mk (0 : Nat) (some (Reg.mk (Body.row (1 : Nat) l8) false))), ((109000 : Nat), RS.mk (0 : Nat) (some (Reg.mk (Body.row (1 : Nat) l9) false)))])
theorem Rcolumn_ReadTexts_eq (N : Nat) (G : Nat → List V → Ans) (v0 : V) : Rcolumn_ReadTexts N G [v0] =
  (asSl (1 : Nat) v0).bind fun l0 => Option.bind (G (3 : Nat) [V.sl (1 : Nat) l0]) fun p1 => if p1.fst.length = (1 : Nat) ∧ p1.snd.length = (0 : Nat) then p1.fst[(0 : Nat)]?.bind fun v2 => (asAgg v2).bind fun l3 => if l3.length = (2 : Nat) then l3[(0 : Nat)]?.bind fun v4 => (asSl (1 : Nat) v4).bind fun l5 => l3[(1 : Nat)]?.bind fun v6 => (asInt IntKind.i64 v6).bind fun i7 => Option.bind (G (6 : Nat) [V.agg [V.sl (1 : Nat) l5, V.int IntKind.i64 i7], V.int IntKind.i64 (512 : Int)]) fun p8 => if p8.fst.length = (1 : Nat) ∧ p8.snd.length = (1 : Nat) then p8.fst[(0 : Nat)]?.bind fun v9 => (asInt IntKind.i64 v9).bind fun i10 => p8.snd[(0 : Nat)]?.bind fun v11 => (asAgg v11).bind fun l12 => if l12.length = (2 : Nat) then l12[(0 : Nat)]?.bind fun v13 => (asSl (1 : Nat) v13).bind fun l14 => l12[(1 : Nat)]?.bind fun v15 => (asInt IntKind.i64 v15).bind fun i16 => Option.bind (G (4 : Nat) [V.sl (1 : Nat) [], V.int IntKind.i64 i10]) fun p17 => if p17.fst.length = (1 : Nat) ∧ p17.snd.length = (0 : Nat) then p17.fst[(0 : Nat)]?.bind fun v18 => (asSl (1 : Nat) v18).bind fun l19 => Lcolumn_ReadTexts_0 N G N l0 (↑l19.length : Int) i10 (0 : Int) l14 i16 [] else none else none else none else none else none := by kernel_rfl
theorem Lcolumn_ReadTexts_0_eq (N : Nat) (G : Nat → List V → Ans) (n : Nat) (l0 : List V) (i7 : Int) (i24 : Int) (i25 : Int) (lr18 : List V) (ir18 : Int) (l8 : List V) : Lcolumn_ReadTexts_0 N G (n + 1) l0 i7 i24 i25 lr18 ir18 l8 =
  bif decide (i25 < i24) then Option.bind (G (8 : Nat) [V.agg [V.sl (1 : Nat) lr18, V.int IntKind.i64 ir18], V.int IntKind.i64 (200 : Int)]) fun p20 => if p20.fst.length = (1 : Nat) ∧ p20.snd.length = (1 : Nat) then p20.fst[(0 : Nat)]?.bind fun v21 => (asStr v21).bind fun s22 => p20.snd[(0 : Nat)]?.bind fun v23 => (asAgg v23).bind fun l24 => if l24.length = (2 : Nat) then l24[(0 : Nat)]?.bind fun v25 => (asSl (1 : Nat) v25).bind fun l26 => l24[(1 : Nat)]?.bind fun v27 => (asInt IntKind.i64 v27).bind fun i28 => Option.bind (G (7 : Nat) [V.agg [V.sl (1 : Nat) l26, V.int IntKind.i64 i28]]) fun p29 => if p29.fst.length = (1 : Nat) ∧ p29.snd.length = (1 : Nat) then p29.fst[(0 : Nat)]?.bind fun v30 => (asInt IntKind.i64 v30).bind fun i31 => p29.snd[(0 : Nat)]?.bind fun v32 => (asAgg v32).bind fun l33 => if l33.length = (2 : Nat) then l33[(0 : Nat)]?.bind fun v34 => (asSl (1 : Nat) v34).bind fun l35 => l33[(1 : Nat)]?.bind fun v36 => (asInt IntKind.i64 v36).bind fun i37 => bif i31 != (0 : Int) then Jcolumn_ReadTexts_12 N G l0 i7 l35 i37 l8 else if (0 : Nat) = (0 : Nat) ∧ l8.length = l8.length then if room (l8.length + (1 : Nat)) (16 : Nat) then Option.bind (G (5 : Nat) [V.sl (1 : Nat) [], V.str s22]) fun p38 => if p38.fst.length = (1 : Nat) ∧ p38.snd.length = (0 : Nat) then p38.fst[(0 : Nat)]?.bind fun v39 => (asSl (1 : Nat) v39).bind fun l40 => Lcolumn_ReadTexts_0 N G n l0 (IntKind.i64.wrap (i7 + (↑l40.length : Int))) i24 (IntKind.i64.wrap (i25 + (1 : Int))) l35 i37 (l8 ++ [V.str s22]) else none else none else none else none else none else none else none else Jcolumn_ReadTexts_12 N G l0 i7 lr18 ir18 l8 := by kernel_rfl
theorem Jcolumn_ReadTexts_12_eq (N : Nat) (G : Nat → List V → Ans) (l0 : List V) (i7 : Int) (lr18 : List V) (ir18 : Int) (l8 : List V) : Jcolumn_ReadTexts_12 N G  l0 i7 lr18 ir18 l8 =
  Option.bind (G (7 : Nat) [V.agg [V.sl (1 : Nat) lr18, V.int IntKind.i64 ir18]]) fun p41 => if p41.fst.length = (1 : Nat) ∧ p41.snd.length = (1 : Nat) then p41.fst[(0 : Nat)]?.bind fun v42 => (asInt IntKind.i64 v42).bind fun i43 => p41.snd[(0 : Nat)]?.bind fun v44 => (asAgg v44).bind fun l45 => if l45.length = (2 : Nat) then l45[(0 : Nat)]?.bind fun v46 => (asSl (1 : Nat) v46).bind fun l47 => l45[(1 : Nat)]?.bind fun v48 => (asInt IntKind.i64 v48).bind fun i49 => bif i43 != (0 : Int) then some ([V.sl (1 : Nat) [], V.int IntKind.i64 (0 : Int), V.int IntKind.i64 (1 : Int)], []) else if (0 : Int) ≤ i7 ∧ i7 ≤ (↑l0.length : Int) ∧ (↑l0.length : Int) ≤ (↑l0.length : Int) then Option.bind (G (1 : Nat) [V.sl (1 : Nat) (List.drop i7.toNat (List.take (↑l0.length : Int).toNat l0))]) fun p50 => if p50.fst.length = (3 : Nat) ∧ p50.snd.length = (0 : Nat) then p50.fst[(0 : Nat)]?.bind fun v51 => (asSl (1 : Nat) v51).bind fun l52 => p50.fst[(1 : Nat)]?.bind fun v53 => (asInt IntKind.i64 v53).bind fun i54 => p50.fst[(2 : Nat)]?.bind fun v55 => (asInt IntKind.i64 v55).bind fun i56 => bif i56 != (0 : Int) then some ([V.sl (1 : Nat) [], V.int IntKind.i64 (0 : Int), V.int IntKind.i64 (1 : Int)], []) else Lcolumn_ReadTexts_2 N G N l0 l52 (↑l52.length : Int) (0 : Int) l8 [] else none else none else none else none := by kernel_rfl
theorem Lcolumn_ReadTexts_2_eq (N : Nat) (G : Nat → List V → Ans) (n : Nat) (l0 : List V) (l55 : List V) (i56 : Int) (i57 : Int) (l8 : List V) (l9 : List V) : Lcolumn_ReadTexts_2 N G (n + 1) l0 l55 i56 i57 l8 l9 =
  bif decide (i57 < i56) then if (0 : Int) ≤ i57 ∧ i57 < (↑l55.length : Int) then l55[i57.toNat]?.bind fun v57 => v57.cells[(0 : Nat)]?.bind fun v58 => (asInt IntKind.i64 v58).bind fun i59 => bif decide (i59 < (0 : Int)) then some ([V.sl (1 : Nat) [], V.int IntKind.i64 (0 : Int), V.int IntKind.i64 (1 : Int)], []) else bif decide (i59 ≥ (↑l8.length : Int)) then some ([V.sl (1 : Nat) [], V.int IntKind.i64 (0 : Int), V.int IntKind.i64 (1 : Int)], []) else if (0 : Int) ≤ i59 ∧ i59 < (↑l8.length : Int) then l8[(0 : Nat) + i59.toNat]?.bind fun v60 => v60.cells[(0 : Nat)]?.bind fun v61 => (asStr v61).bind fun s62 => if (0 : Nat) = (0 : Nat) ∧ l9.length = l9.length then if room (l9.length + (1 : Nat)) (16 : Nat) then Lcolumn_ReadTexts_2 N G n l0 l55 i56 (IntKind.i64.wrap (i57 + (1 : Int))) l8 (l9 ++ [V.str s62]) else none else none else none else none else Option.bind (G (2 : Nat) [V.sl (1 : Nat) (List.take l9.length (List.drop (0 : Nat) l9))]) fun p63 => if p63.fst.length = (1 : Nat) ∧ p63.snd.length = (0 : Nat) then p63.fst[(0 : Nat)]?.bind fun v64 => (asSl (1 : Nat) v64).bind fun l65 => Option.bind (G (0 : Nat) [V.sl (1 : Nat) l0, V.sl (1 : Nat) (List.take l65.length (List.drop (0 : Nat) l65))]) fun p66 => if p66.fst.length = (1 : Nat) ∧ p66.snd.length = (0 : Nat) then p66.fst[(0 : Nat)]?.bind fun v67 => (asBool v67).bind fun b68 => bif !b68 then some ([V.sl (1 : Nat) [], V.int IntKind.i64 (0 : Int), V.int IntKind.i64 (1 : Int)], []) else if (0 : Nat) = (0 : Nat) ∧ l9.length ≤ l9.length then if l9.all V.bare = true then some ([V.sl (1 : Nat) (List.take l9.length l9), V.int IntKind.i64 (↑l65.length : Int), V.int IntKind.i64 (0 : Int)], []) else none else none else none else none := by kernel_rfl
theorem column_ReadTexts_sound (N : Nat) (G : Nat → List V → Ans) (hC : ConstOk (column_ReadTexts_ga G)) (h : ∀ f s, specs (column_ReadTexts_ga G) f = some s → Sound Tryz.prog f s) : Sound Tryz.prog 7 (column_ReadTexts_c (Rcolumn_ReadTexts N G)).spec :=
  sound_fun (u := column_ReadTexts_fu) (nt := 86) mixed hC h Tryz.func7 (by rfl) (by kernel_rfl) (by kernel_rfl) (by kernel_rfl) (by kernel_rfl) (by decide) (by rfl)
noncomputable def column_ReadTexts_G : Nat → List V → Ans := look (fun _ => none) [(0, bytes_HasPrefix), (1, column_ReadInts), (2, column_Texts), (3, wire_New), (4, wire_PutNumber), (5, wire_PutText), (6, wire_Reader_Count), (7, wire_Reader_Err), (8, wire_Reader_Text)]
noncomputable def column_ReadTexts : List V → Ans := Rcolumn_ReadTexts N0 column_ReadTexts_G
theorem column_ReadTexts_ok : Sound Tryz.prog 7 (column_ReadTexts_c column_ReadTexts).spec := column_ReadTexts_sound N0 column_ReadTexts_G (const_cons (const_none rfl) (const_cons (const_none rfl) (const_cons (const_none rfl) (const_cons (const_none rfl) (const_cons (const_none rfl) (const_cons (const_none rfl) (const_cons (const_none rfl) (const_cons (const_none rfl) (const_cons (const_none rfl) const_nil))))))))) (conTab_ok (List.forall_mem_cons.2 ⟨bytes_HasPrefix_ok, (List.forall_mem_cons.2 ⟨column_ReadInts_ok, (List.forall_mem_cons.2 ⟨column_Texts_ok, (List.forall_mem_cons.2 ⟨wire_New_ok, (List.forall_mem_cons.2 ⟨wire_PutNumber_ok, (List.forall_mem_cons.2 ⟨wire_PutText_ok, (List.forall_mem_cons.2 ⟨wire_Reader_Count_ok, (List.forall_mem_cons.2 ⟨wire_Reader_Err_ok, (List.forall_mem_cons.2 ⟨wire_Reader_Text_ok, (by simp)⟩)⟩)⟩)⟩)⟩)⟩)⟩)⟩)⟩))
def flagstoneref31_ReadTexts_c (g : List V → Ans) : Con := ⟨⟨[.rd [some 1]], [.own 1, .plain [none], .plain [none]], true, g⟩, [[], [.int .i64], [.int .i64]], [], none⟩
noncomputable def flagstoneref31_ReadTexts_fu : Fun := ⟨[.rd [some 1]], [.own 1, .plain [none], .plain [none]], true, [[.sl 1]], Tryz.f11.body.getD .skip, [.tmp 2, .tmp 3, .tmp 4], [(0, ⟨[0, 5, 6, 7, 8, 9], [((7, none), .own 1)], false⟩), (2, ⟨[0, 7, 8, 10, 13], [((8, none), .own 1)], false⟩)], []⟩
noncomputable def flagstoneref31_ReadTexts_ga (G : Nat → List V → Ans) : FuncId → Option Con := conTab [(32, flagstoneref31_ReadInts_c (G 0)), (8, flagstoneref31_Texts_c (G 1)), (33, flagstoneref31_begins_c (G 2)), (29, flagstoneref4_New_c (G 3)), (30, flagstoneref4_Reader_Count_c (G 4)), (31, flagstoneref4_Reader_Text_c (G 5))]
noncomputable def Rflagstoneref31_ReadTexts (N : Nat) (G : Nat → List V → Ans) (xs : List V) : Ans := flagstoneref31_ReadTexts_fu.run optAlg Tryz.prog (flagstoneref31_ReadTexts_ga G) N xs
noncomputable def Lflagstoneref31_ReadTexts_0 (N : Nat) (G : Nat → List V → Ans) (n : Nat) (l0 : List V) (i6 : Int) (i9 : Int) (lr16 : List V) (ir16 : Int) (ir16_5 : Int) (l7 : List V) : Ans := flagstoneref31_ReadTexts_fu.go optAlg Tryz.prog (flagstoneref31_ReadTexts_ga G) N [V.bool false] (look (0 : Nat) [((0 : Nat), n)]) 0 false (mkSt [((0 : Nat), D.v (V.sl (1 : Nat) l0)), ((5 : Nat), D.ptr (16 : Nat) (0 : Nat) (0 : Nat) (0 : Nat)), ((6 : Nat), D.v (V.int IntKind.i64 i6)), ((7 : Nat), D.own (107000 : Nat) (0 : Nat) (0 : Nat) l7.length), ((8 : Nat), D.v V.nil), ((9 : Nat), D.v (V.int IntKind.i64 i9))] [((16 : Nat), RS.mk (0 : Nat) (some (Reg.mk (Body.box [D.v (V.sl (1 : Nat) lr16), D.v (V.int IntKind.i64 ir16), D.v (V.int IntKind.i64 ir16_5)]) false))), ((107000 : Nat), RS.mk (0 : Nat) (some (Reg.mk (Body.row (1 : Nat) l7) false)))])
noncomputable def Lflagstoneref31_ReadTexts_2 (N : Nat) (G : Nat → List V → Ans) (n : Nat) (l0 : List V) (i13 : Int) (l7 : List V) (l8 : List V) (l10 : List V) : Ans := flagstoneref31_ReadTexts_fu.go optAlg Tryz.prog (flagstoneref31_ReadTexts_ga G) N [V.bool false] (look (0 : Nat) [((2 : Nat), n)]) 2 false (mkSt [((0 : Nat), D.v (V.sl (1 : Nat) l0)), ((7 : Nat), D.own (107000 : Nat) (0 : Nat) (0 : Nat) l7.length), ((8 : Nat), D.own (108000 : Nat) (0 : Nat) (0 : Nat) l8.length), ((10 : Nat), D.own (110000 : Nat) (0 : Nat) (0 : Nat) l10.length), ((13 : Nat), D.v (V.int IntKind.i64 i13))] [((107000 : Nat), RS.mk (0 : Nat) (some (Reg.mk (Body.row (1 : Nat) l7) false))), ((108000 : Nat), RS.mk (0 : Nat) (some (Reg.mk (Body.row (1 : Nat) l8) false))), ((110000 : Nat), RS.mk (0 : Nat) (some (Reg.mk (Body.row (1 : Nat) l10) false)))])
theorem Rflagstoneref31_ReadTexts_eq (N : Nat) (G : Nat → List V → Ans) (v0 : V) : Rflagstoneref31_ReadTexts N G [v0] =
  (asSl (1 : Nat) v0).bind fun l0 => Option.bind (G (3 : Nat) [V.sl (1 : Nat) l0]) fun p1 => if p1.fst.length = (1 : Nat) ∧ p1.snd.length = (0 : Nat) then p1.fst[(0 : Nat)]?.bind fun v2 => (asAgg v2).bind fun l3 => if l3.length = (3 : Nat) then l3[(0 : Nat)]?.bind fun v4 => (asSl (1 : Nat) v4).bind fun l5 => l3[(1 : Nat)]?.bind fun v6 => (asInt IntKind.i64 v6).bind fun i7 => l3[(2 : Nat)]?.bind fun v8 => (asInt IntKind.i64 v8).bind fun i9 => Option.bind (G (4 : Nat) [V.agg [V.sl (1 : Nat) l5, V.int IntKind.i64 i7, V.int IntKind.i64 i9], V.int IntKind.i64 (512 : Int)]) fun p10 => if p10.fst.length = (1 : Nat) ∧ p10.snd.length = (1 : Nat) then p10.fst[(0 : Nat)]?.bind fun v11 => (asInt IntKind.i64 v11).bind fun i12 => p10.snd[(0 : Nat)]?.bind fun v13 => (asAgg v13).bind fun l14 => if l14.length = (3 : Nat) then l14[(0 : Nat)]?.bind fun v15 => (asSl (1 : Nat) v15).bind fun l16 => l14[(1 : Nat)]?.bind fun v17 => (asInt IntKind.i64 v17).bind fun i18 => l14[(2 : Nat)]?.bind fun v19 => (asInt IntKind.i64 v19).bind fun i20 => Lflagstoneref31_ReadTexts_0 N G N l0 i12 (0 : Int) l16 i18 i20 [] else none else none else none else none := by kernel_rfl
theorem Lflagstoneref31_ReadTexts_0_eq (N : Nat) (G : Nat → List V → Ans) (n : Nat) (l0 : List V) (i6 : Int) (i9 : Int) (lr16 : List V) (ir16 : Int) (ir16_5 : Int) (l7 : List V) : Lflagstoneref31_ReadTexts_0 N G (n + 1) l0 i6 i9 lr16 ir16 ir16_5 l7 =
  bif decide (i9 < i6) then Option.bind (G (5 : Nat) [V.agg [V.sl (1 : Nat) lr16, V.int IntKind.i64 ir16, V.int IntKind.i64 ir16_5], V.int IntKind.i64 (200 : Int)]) fun p21 => if p21.fst.length = (1 : Nat) ∧ p21.snd.length = (1 : Nat) then p21.fst[(0 : Nat)]?.bind fun v22 => (asStr v22).bind fun s23 => p21.snd[(0 : Nat)]?.bind fun v24 => (asAgg v24).bind fun l25 => if l25.length = (3 : Nat) then l25[(0 : Nat)]?.bind fun v26 => (asSl (1 : Nat) v26).bind fun l27 => l25[(1 : Nat)]?.bind fun v28 => (asInt IntKind.i64 v28).bind fun i29 => l25[(2 : Nat)]?.bind fun v30 => (asInt IntKind.i64 v30).bind fun i31 => if (0 : Nat) = (0 : Nat) ∧ l7.length = l7.length then if room (l7.length + (1 : Nat)) (16 : Nat) then Lflagstoneref31_ReadTexts_0 N G n l0 i6 (IntKind.i64.wrap (i9 + (1 : Int))) l27 i29 i31 (l7 ++ [V.str s23]) else none else none else none else none else bif ir16_5 != (0 : Int) then some ([V.sl (1 : Nat) [], V.int IntKind.i64 (0 : Int), V.int IntKind.i64 (1 : Int)], []) else if (0 : Int) ≤ ir16 ∧ ir16 ≤ (↑l0.length : Int) ∧ (↑l0.length : Int) ≤ (↑l0.length : Int) then Option.bind (G (0 : Nat) [V.sl (1 : Nat) (List.drop ir16.toNat (List.take (↑l0.length : Int).toNat l0))]) fun p32 => if p32.fst.length = (3 : Nat) ∧ p32.snd.length = (0 : Nat) then p32.fst[(0 : Nat)]?.bind fun v33 => (asSl (1 : Nat) v33).bind fun l34 => p32.fst[(1 : Nat)]?.bind fun v35 => (asInt IntKind.i64 v35).bind fun i36 => p32.fst[(2 : Nat)]?.bind fun v37 => (asInt IntKind.i64 v37).bind fun i38 => bif i38 != (0 : Int) then some ([V.sl (1 : Nat) [], V.int IntKind.i64 (0 : Int), V.int IntKind.i64 i38], []) else Lflagstoneref31_ReadTexts_2 N G N l0 (0 : Int) l7 [] l34 else none else none := by kernel_rfl
theorem Lflagstoneref31_ReadTexts_2_eq (N : Nat) (G : Nat → List V → Ans) (n : Nat) (l0 : List V) (i13 : Int) (l7 : List V) (l8 : List V) (l10 : List V) : Lflagstoneref31_ReadTexts_2 N G (n + 1) l0 i13 l7 l8 l10 =
  bif decide (i13 < (↑l10.length : Int)) then if (0 : Int) ≤ i13 ∧ i13 < (↑l10.length : Int) then l10[(0 : Nat) + i13.toNat]?.bind fun v39 => v39.cells[(0 : Nat)]?.bind fun v40 => (asInt IntKind.i64 v40).bind fun i41 => bif decide (i41 < (0 : Int)) then some ([V.sl (1 : Nat) [], V.int IntKind.i64 (0 : Int), V.int IntKind.i64 (1 : Int)], []) else if (0 : Int) ≤ i13 ∧ i13 < (↑l10.length : Int) then l10[(0 : Nat) + i13.toNat]?.bind fun v42 => v42.cells[(0 : Nat)]?.bind fun v43 => (asInt IntKind.i64 v43).bind fun i44 => bif decide (i44 ≥ (↑l7.length : Int)) then some ([V.sl (1 : Nat) [], V.int IntKind.i64 (0 : Int), V.int IntKind.i64 (1 : Int)], []) else if (0 : Int) ≤ i13 ∧ i13 < (↑l10.length : Int) then l10[(0 : Nat) + i13.toNat]?.bind fun v45 => v45.cells[(0 : Nat)]?.bind fun v46 => (asInt IntKind.i64 v46).bind fun i47 => if (0 : Int) ≤ i47 ∧ i47 < (↑l7.length : Int) then l7[(0 : Nat) + i47.toNat]?.bind fun v48 => v48.cells[(0 : Nat)]?.bind fun v49 => (asStr v49).bind fun s50 => if (0 : Nat) = (0 : Nat) ∧ l8.length = l8.length then if room (l8.length + (1 : Nat)) (16 : Nat) then Lflagstoneref31_ReadTexts_2 N G n l0 (IntKind.i64.wrap (i13 + (1 : Int))) l7 (l8 ++ [V.str s50]) l10 else none else none else none else none else none else none else Option.bind (G (1 : Nat) [V.sl (1 : Nat) (List.take l8.length (List.drop (0 : Nat) l8))]) fun p51 => if p51.fst.length = (1 : Nat) ∧ p51.snd.length = (0 : Nat) then p51.fst[(0 : Nat)]?.bind fun v52 => (asSl (1 : Nat) v52).bind fun l53 => Option.bind (G (2 : Nat) [V.sl (1 : Nat) l0, V.sl (1 : Nat) (List.take l53.length (List.drop (0 : Nat) l53))]) fun p54 => if p54.fst.length = (1 : Nat) ∧ p54.snd.length = (0 : Nat) then p54.fst[(0 : Nat)]?.bind fun v55 => (asBool v55).bind fun b56 => bif !b56 then some ([V.sl (1 : Nat) [], V.int IntKind.i64 (0 : Int), V.int IntKind.i64 (1 : Int)], []) else if (0 : Nat) = (0 : Nat) ∧ l8.length ≤ l8.length then if l8.all V.bare = true then some ([V.sl (1 : Nat) (List.take l8.length l8), V.int IntKind.i64 (↑l53.length : Int), V.int IntKind.i64 (0 : Int)], []) else none else none else none else none := by kernel_rfl
theorem flagstoneref31_ReadTexts_sound (N : Nat) (G : Nat → List V → Ans) (hC : ConstOk (flagstoneref31_ReadTexts_ga G)) (h : ∀ f s, specs (flagstoneref31_ReadTexts_ga G) f = some s → Sound Tryz.prog f s) : Sound Tryz.prog 11 (flagstoneref31_ReadTexts_c (Rflagstoneref31_ReadTexts N G)).spec :=
  sound_fun (u := flagstoneref31_ReadTexts_fu) (nt := 87) mixed hC h Tryz.func11 (by rfl) (by kernel_rfl) (by kernel_rfl) (by kernel_rfl) (by kernel_rfl) (by decide) (by rfl)
noncomputable def flagstoneref31_ReadTexts_G : Nat → List V → Ans := look (fun _ => none) [(0, flagstoneref31_ReadInts), (1, flagstoneref31_Texts), (2, flagstoneref31_begins), (3, flagstoneref4_New), (4, flagstoneref4_Reader_Count), (5, flagstoneref4_Reader_Text)]
noncomputable def flagstoneref31_ReadTexts : List V → Ans := Rflagstoneref31_ReadTexts N0 flagstoneref31_ReadTexts_G
theorem flagstoneref31_ReadTexts_ok : Sound Tryz.prog 11 (flagstoneref31_ReadTexts_c flagstoneref31_ReadTexts).spec := flagstoneref31_ReadTexts_sound N0 flagstoneref31_ReadTexts_G (const_cons (const_none rfl) (const_cons (const_none rfl) (const_cons (const_none rfl) (const_cons (const_none rfl) (const_cons (const_none rfl) (const_cons (const_none rfl) const_nil)))))) (conTab_ok (List.forall_mem_cons.2 ⟨flagstoneref31_ReadInts_ok, (List.forall_mem_cons.2 ⟨flagstoneref31_Texts_ok, (List.forall_mem_cons.2 ⟨flagstoneref31_begins_ok, (List.forall_mem_cons.2 ⟨flagstoneref4_New_ok, (List.forall_mem_cons.2 ⟨flagstoneref4_Reader_Count_ok, (List.forall_mem_cons.2 ⟨flagstoneref4_Reader_Text_ok, (by simp)⟩)⟩)⟩)⟩)⟩)⟩))
def flagstoneref1_Same_c (g : List V → Ans) : Con := ⟨⟨[.rd [some 1], .rd [some 1]], [.plain [none]], true, g⟩, [[.bool]], [], none⟩
noncomputable def flagstoneref1_Same_fu : Fun := ⟨[.rd [some 1], .rd [some 1]], [.plain [none]], true, [[.sl 1], [.sl 1]], Tryz.f9.body.getD .skip, [.tmp 4], [(0, ⟨[0, 1, 5], [], false⟩)], []⟩
noncomputable def flagstoneref1_Same_ga (G : Nat → List V → Ans) : FuncId → Option Con := conTab []
noncomputable def Rflagstoneref1_Same (N : Nat) (G : Nat → List V → Ans) (xs : List V) : Ans := flagstoneref1_Same_fu.run optAlg Tryz.prog (flagstoneref1_Same_ga G) N xs
noncomputable def Lflagstoneref1_Same_0 (N : Nat) (G : Nat → List V → Ans) (n : Nat) (l0 : List V) (l1 : List V) (i5 : Int) : Ans := flagstoneref1_Same_fu.go optAlg Tryz.prog (flagstoneref1_Same_ga G) N [V.bool false, V.bool false] (look (0 : Nat) [((0 : Nat), n)]) 0 false (mkSt [((0 : Nat), D.v (V.sl (1 : Nat) l0)), ((1 : Nat), D.v (V.sl (1 : Nat) l1)), ((5 : Nat), D.v (V.int IntKind.i64 i5))] [])
theorem Rflagstoneref1_Same_eq (N : Nat) (G : Nat → List V → Ans) (v0 : V) (v1 : V) : Rflagstoneref1_Same N G [v0, v1] =
  (asSl (1 : Nat) v0).bind fun l0 => (asSl (1 : Nat) v1).bind fun l1 => bif (↑l0.length : Int) != (↑l1.length : Int) then some ([V.bool false], []) else Lflagstoneref1_Same_0 N G N l0 l1 (0 : Int) := by kernel_rfl
theorem Lflagstoneref1_Same_0_eq (N : Nat) (G : Nat → List V → Ans) (n : Nat) (l0 : List V) (l1 : List V) (i5 : Int) : Lflagstoneref1_Same_0 N G (n + 1) l0 l1 i5 =
  bif decide (i5 < (↑l0.length : Int)) then if (0 : Int) ≤ i5 ∧ i5 < (↑l0.length : Int) then l0[i5.toNat]?.bind fun v2 => v2.cells[(0 : Nat)]?.bind fun v3 => (asStr v3).bind fun s4 => if (0 : Int) ≤ i5 ∧ i5 < (↑l1.length : Int) then l1[i5.toNat]?.bind fun v5 => v5.cells[(0 : Nat)]?.bind fun v6 => (asStr v6).bind fun s7 => bif !s4.toList == s7.toList then some ([V.bool false], []) else Lflagstoneref1_Same_0 N G n l0 l1 (IntKind.i64.wrap (i5 + (1 : Int))) else none else none else some ([V.bool true], []) := by kernel_rfl
theorem flagstoneref1_Same_sound (N : Nat) (G : Nat → List V → Ans) (hC : ConstOk (flagstoneref1_Same_ga G)) (h : ∀ f s, specs (flagstoneref1_Same_ga G) f = some s → Sound Tryz.prog f s) : Sound Tryz.prog 9 (flagstoneref1_Same_c (Rflagstoneref1_Same N G)).spec :=
  sound_fun (u := flagstoneref1_Same_fu) (nt := 26) mixed hC h Tryz.func9 (by rfl) (by kernel_rfl) (by kernel_rfl) (by kernel_rfl) (by kernel_rfl) (by decide) (by rfl)
noncomputable def flagstoneref1_Same_G : Nat → List V → Ans := look (fun _ => none) []
noncomputable def flagstoneref1_Same : List V → Ans := Rflagstoneref1_Same N0 flagstoneref1_Same_G
theorem flagstoneref1_Same_ok : Sound Tryz.prog 9 (flagstoneref1_Same_c flagstoneref1_Same).spec := flagstoneref1_Same_sound N0 flagstoneref1_Same_G const_nil (conTab_ok (by simp))
end Go.Proofs.YtdhdhcllgkddnaaGreat.Va

set_option maxRecDepth 100000
namespace Go.Proofs.YtdhdhcllgkddnaaGreat.Va
open Go Go.RowKit

def flagstonedata_Ids_c (g : List V → Ans) : Con := ⟨⟨[], [.own 1], true, g⟩, [[]], [], none⟩
noncomputable def flagstonedata_Ids_fu : Fun := ⟨[], [.own 1], true, [], Tryz.f34.body.getD .skip, [.tmp 0], [], []⟩
noncomputable def flagstonedata_Ids_ga (G : Nat → List V → Ans) : FuncId → Option Con := conTab []
noncomputable def Rflagstonedata_Ids (N : Nat) (G : Nat → List V → Ans) (xs : List V) : Ans := flagstonedata_Ids_fu.run optAlg Tryz.prog (flagstonedata_Ids_ga G) N xs
theorem Rflagstonedata_Ids_eq (N : Nat) (G : Nat → List V → Ans) : Rflagstonedata_Ids N G [] =
  some ([V.sl (1 : Nat) [V.str (ByteArray.mk #[(97 : UInt8), (110 : UInt8), (110 : UInt8)]), V.str (ByteArray.mk #[(98 : UInt8), (111 : UInt8), (98 : UInt8)]), V.str (ByteArray.mk #[(99 : UInt8), (97 : UInt8), (116 : UInt8)]), V.str (ByteArray.mk #[(100 : UInt8), (97 : UInt8), (110 : UInt8)]), V.str (ByteArray.mk #[(101 : UInt8), (118 : UInt8), (101 : UInt8)]), V.str (ByteArray.mk #[(102 : UInt8), (97 : UInt8), (121 : UInt8)])]], []) := by kernel_rfl
theorem flagstonedata_Ids_sound (N : Nat) (G : Nat → List V → Ans) (hC : ConstOk (flagstonedata_Ids_ga G)) (h : ∀ f s, specs (flagstonedata_Ids_ga G) f = some s → Sound Tryz.prog f s) : Sound Tryz.prog 34 (flagstonedata_Ids_c (Rflagstonedata_Ids N G)).spec :=
  sound_fun (u := flagstonedata_Ids_fu) (nt := 2) mixed hC h Tryz.func34 (by rfl) (by kernel_rfl) (by kernel_rfl) (by kernel_rfl) (by kernel_rfl) (by decide) (by rfl)
noncomputable def flagstonedata_Ids_G : Nat → List V → Ans := look (fun _ => none) []
noncomputable def flagstonedata_Ids : List V → Ans := Rflagstonedata_Ids N0 flagstonedata_Ids_G
theorem flagstonedata_Ids_ok : Sound Tryz.prog 34 (flagstonedata_Ids_c flagstonedata_Ids).spec := flagstonedata_Ids_sound N0 flagstonedata_Ids_G const_nil (conTab_ok (by simp))
def flagstonedata_Id_c (g : List V → Ans) : Con := ⟨⟨[.rd [none]], [.plain [none]], true, g⟩, [[.str]], [], none⟩
noncomputable def flagstonedata_Id_fu : Fun := ⟨[.rd [none]], [.plain [none]], true, [[.int .i64]], Tryz.f12.body.getD .skip, [.tmp 2], [], []⟩
noncomputable def flagstonedata_Id_ga (G : Nat → List V → Ans) : FuncId → Option Con := conTab [(34, flagstonedata_Ids_c (G 0))]
noncomputable def Rflagstonedata_Id (N : Nat) (G : Nat → List V → Ans) (xs : List V) : Ans := flagstonedata_Id_fu.run optAlg Tryz.prog (flagstonedata_Id_ga G) N xs
theorem Rflagstonedata_Id_eq (N : Nat) (G : Nat → List V → Ans) (v0 : V) : Rflagstonedata_Id N G [v0] =
  (asInt IntKind.i64 v0).bind fun i0 => Option.bind (G (0 : Nat) []) fun p1 => if p1.fst.length = (1 : Nat) ∧ p1.snd.length = (0 : Nat) then p1.fst[(0 : Nat)]?.bind fun v2 => (asSl (1 : Nat) v2).bind fun l3 => Option.bind (G (0 : Nat) []) fun p4 => if p4.fst.length = (1 : Nat) ∧ p4.snd.length = (0 : Nat) then p4.fst[(0 : Nat)]?.bind fun v5 => (asSl (1 : Nat) v5).bind fun l6 => if (↑l6.length : Int) ≠ (0 : Int) then if (0 : Int) ≤ i0.tmod (↑l6.length : Int) ∧ i0.tmod (↑l6.length : Int) < (↑l3.length : Int) then l3[(0 : Nat) + (i0.tmod (↑l6.length : Int)).toNat]?.bind fun v7 => v7.cells[(0 : Nat)]?.bind fun v8 => (asStr v8).bind fun s9 => some ([V.str s9], []) else none else none else none else none := by kernel_rfl
theorem flagstonedata_Id_sound (N : Nat) (G : Nat → List V → Ans) (hC : ConstOk (flagstonedata_Id_ga G)) (h : ∀ f s, specs (flagstonedata_Id_ga G) f = some s → Sound Tryz.prog f s) : Sound Tryz.prog 12 (flagstonedata_Id_c (Rflagstonedata_Id N G)).spec :=
  sound_fun (u := flagstonedata_Id_fu) (nt := 10) mixed hC h Tryz.func12 (by rfl) (by kernel_rfl) (by kernel_rfl) (by kernel_rfl) (by kernel_rfl) (by decide) (by rfl)
noncomputable def flagstonedata_Id_G : Nat → List V → Ans := look (fun _ => none) [(0, flagstonedata_Ids)]
noncomputable def flagstonedata_Id : List V → Ans := Rflagstonedata_Id N0 flagstonedata_Id_G
theorem flagstonedata_Id_ok : Sound Tryz.prog 12 (flagstonedata_Id_c flagstonedata_Id).spec := flagstonedata_Id_sound N0 flagstonedata_Id_G (const_cons (const_none rfl) const_nil) (conTab_ok (List.forall_mem_cons.2 ⟨flagstonedata_Ids_ok, (by simp)⟩))
def flagstonelaw31_ColumnTexts_c (g : List V → Ans) : Con := ⟨⟨[.rd [some 1], .rd [some 1], .rd [some 1], .rd [none], .rd [none], .rd [none]], [.plain [none]], true, g⟩, [[.bool]], [], none⟩
noncomputable def flagstonelaw31_ColumnTexts_fu : Fun := ⟨[.rd [some 1], .rd [some 1], .rd [some 1], .rd [none], .rd [none], .rd [none]], [.plain [none]], true, [[.sl 1], [.sl 1], [.sl 1], [.int .u16], [.int .u16], [.int .u8]], Tryz.f3.body.getD .skip, [.tmp 12], [(0, ⟨[0, 1, 2, 3, 4, 5, 13], [], false⟩), (2, ⟨[1, 18, 19], [((18, none), .told 1)], false⟩)], []⟩
noncomputable def flagstonelaw31_ColumnTexts_ga (G : Nat → List V → Ans) : FuncId → Option Con := conTab [(7, column_ReadTexts_c (G 0)), (6, column_Texts_c (G 1)), (10, flagstonedata_Spoil_c (G 2)), (5, flagstonelaw31_awake_c (G 3)), (9, flagstoneref1_Same_c (G 4)), (11, flagstoneref31_ReadTexts_c (G 5)), (8, flagstoneref31_Texts_c (G 6))]
noncomputable def Rflagstonelaw31_ColumnTexts (N : Nat) (G : Nat → List V → Ans) (xs : List V) : Ans := flagstonelaw31_ColumnTexts_fu.run optAlg Tryz.prog (flagstonelaw31_ColumnTexts_ga G) N xs
noncomputable def Lflagstonelaw31_ColumnTexts_0 (N : Nat) (G : Nat → List V → Ans) (n : Nat) (l0 : List V) (l1 : List V) (l2 : List V) (i3 : Int) (i4 : Int) (i5 : Int) (i13 : Int) : Ans := flagstonelaw31_ColumnTexts_fu.go optAlg Tryz.prog (flagstonelaw31_ColumnTexts_ga G) N [V.bool false, V.bool false, V.bool false, V.bool false, V.bool false, V.bool false] (look (0 : Nat) [((0 : Nat), n)]) 0 false (mkSt [((0 : Nat), D.v (V.sl (1 : Nat) l0)), ((1 : Nat), D.v (V.sl (1 : Nat) l1)), ((2 : Nat), D.v (V.sl (1 : Nat) l2)), ((3 : Nat), D.v (V.int IntKind.u16 i3)), ((4 : Nat), D.v (V.int IntKind.u16 i4)), ((5 : Nat), D.v (V.int IntKind.u8 i5)), ((13 : Nat), D.v (V.int IntKind.i64 i13))] [])
noncomputable def Lflagstonelaw31_ColumnTexts_2 (N : Nat) (G : Nat → List V → Ans) (n : Nat) (l1 : List V) (l18 : List V) (i19 : Int) : Ans := flagstonelaw31_ColumnTexts_fu.go optAlg Tryz.prog (flagstonelaw31_ColumnTexts_ga G) N [V.bool false, V.bool false, V.bool false, V.bool false, V.bool false, V.bool false] (look (0 : Nat) [((2 : Nat), n)]) 2 false (mkSt [((1 : Nat), D.v (V.sl (1 : Nat) l1)), ((18 : Nat), D.v (V.sl (1 : Nat) l18)), ((19 : Nat), D.v (V.int IntKind.i64 i19))] [])
theorem Rflagstonelaw31_ColumnTexts_eq (N : Nat) (G : Nat → List V → Ans) (v0 : V) (v1 : V) (v2 : V) (v3 : V) (v4 : V) (v5 : V) : Rflagstonelaw31_ColumnTexts N G [v0, v1, v2, v3, v4, v5] =
  (asSl (1 : Nat) v0).bind fun l0 => (asSl (1 : Nat) v1).bind fun l1 => (asSl (1 : Nat) v2).bind fun l2 => (asInt IntKind.u16 v3).bind fun i3 => (asInt IntKind.u16 v4).bind fun i4 => (asInt IntKind.u8 v5).bind fun i5 => Option.bind (G (3 : Nat) []) fun p6 => if p6.fst.length = (1 : Nat) ∧ p6.snd.length = (0 : Nat) then p6.fst[(0 : Nat)]?.bind fun v7 => (asBool v7).bind fun b8 => bif !b8 then some ([V.bool false], []) else bif decide ((↑l0.length : Int) > (100 : Int)) then some ([V.bool true], []) else bif decide ((↑l1.length : Int) > (1000 : Int)) then some ([V.bool true], []) else bif decide ((↑l2.length : Int) > (200 : Int)) then some ([V.bool true], []) else Lflagstonelaw31_ColumnTexts_0 N G N l0 l1 l2 i3 i4 i5 (0 : Int) else none := by kernel_rfl
theorem Lflagstonelaw31_ColumnTexts_0_eq (N : Nat) (G : Nat → List V → Ans) (n : Nat) (l0 : List V) (l1 : List V) (l2 : List V) (i3 : Int) (i4 : Int) (i5 : Int) (i13 : Int) : Lflagstonelaw31_ColumnTexts_0 N G (n + 1) l0 l1 l2 i3 i4 i5 i13 =
  bif decide (i13 < (↑l0.length : Int)) then if (0 : Int) ≤ i13 ∧ i13 < (↑l0.length : Int) then l0[i13.toNat]?.bind fun v9 => v9.cells[(0 : Nat)]?.bind fun v10 => (asStr v10).bind fun s11 => bif decide ((↑s11.size : Int) > (200 : Int)) then some ([V.bool true], []) else Lflagstonelaw31_ColumnTexts_0 N G n l0 l1 l2 i3 i4 i5 (IntKind.i64.wrap (i13 + (1 : Int))) else none else Option.bind (G (1 : Nat) [V.sl (1 : Nat) l0]) fun p12 => if p12.fst.length = (1 : Nat) ∧ p12.snd.length = (0 : Nat) then p12.fst[(0 : Nat)]?.bind fun v13 => (asSl (1 : Nat) v13).bind fun l14 => if room ((0 : Nat) + (List.take l14.length (List.drop (0 : Nat) l14)).length) (1 : Nat) then if (0 : Nat) = (0 : Nat) ∧ ([] ++ List.take l14.length (List.drop (0 : Nat) l14)).length = ([] ++ List.take l14.length (List.drop (0 : Nat) l14)).length then if room (([] ++ List.take l14.length (List.drop (0 : Nat) l14)).length + l2.length) (1 : Nat) then Option.bind (G (0 : Nat) [V.sl (1 : Nat) (List.take ([] ++ List.take l14.length (List.drop (0 : Nat) l14) ++ l2).length (List.drop (0 : Nat) ([] ++ List.take l14.length (List.drop (0 : Nat) l14) ++ l2)))]) fun p15 => if p15.fst.length = (3 : Nat) ∧ p15.snd.length = (0 : Nat) then p15.fst[(0 : Nat)]?.bind fun v16 => (asSl (1 : Nat) v16).bind fun l17 => p15.fst[(1 : Nat)]?.bind fun v18 => (asInt IntKind.i64 v18).bind fun i19 => p15.fst[(2 : Nat)]?.bind fun v20 => (asInt IntKind.i64 v20).bind fun i21 => if (List.take l14.length (List.drop (0 : Nat) l14)).all V.isU8 = true then Option.bind (G (6 : Nat) [V.sl (1 : Nat) l0]) fun p22 => if p22.fst.length = (1 : Nat) ∧ p22.snd.length = (0 : Nat) then p22.fst[(0 : Nat)]?.bind fun v23 => (asSl (1 : Nat) v23).bind fun l24 => if (List.take l24.length (List.drop (0 : Nat) l24)).all V.isU8 = true then bif !(ByteArray.mk (List.map V.byte (List.take l14.length (List.drop (0 : Nat) l14))).toArray).toList == (ByteArray.mk (List.map V.byte (List.take l24.length (List.drop (0 : Nat) l24))).toArray).toList then some ([V.bool false], []) else bif i21 != (0 : Int) then some ([V.bool false], []) else bif i19 != (↑l14.length : Int) then some ([V.bool false], []) else Option.bind (G (4 : Nat) [V.sl (1 : Nat) l0, V.sl (1 : Nat) (List.take l17.length (List.drop (0 : Nat) l17))]) fun p25 => if p25.fst.length = (1 : Nat) ∧ p25.snd.length = (0 : Nat) then p25.fst[(0 : Nat)]?.bind fun v26 => (asBool v26).bind fun b27 => bif !b27 then some ([V.bool false], []) else Option.bind (G (2 : Nat) [V.sl (1 : Nat) (List.take l14.length (List.drop (0 : Nat) l14)), V.int IntKind.u16 i3, V.int IntKind.u16 i4, V.int IntKind.u8 i5]) fun p28 => if p28.fst.length = (1 : Nat) ∧ p28.snd.length = (0 : Nat) then p28.fst[(0 : Nat)]?.bind fun v29 => (asSl (1 : Nat) v29).bind fun l30 => Lflagstonelaw31_ColumnTexts_2 N G N l1 (List.take l30.length (List.drop (0 : Nat) l30)) (0 : Int) else none else none else none else none else none else none else none else none else none else none := by kernel_rfl
theorem Lflagstonelaw31_ColumnTexts_2_eq (N : Nat) (G : Nat → List V → Ans) (n : Nat) (l1 : List V) (l18 : List V) (i19 : Int) : Lflagstonelaw31_ColumnTexts_2 N G (n + 1) l1 l18 i19 =
  bif decide (i19 < (2 : Int)) then if (0 : Int) ≤ i19 ∧ i19 < (2 : Int) then [V.sl (1 : Nat) l1, V.sl (1 : Nat) l18][(0 : Nat) + i19.toNat]?.bind fun v31 => v31.cells[(0 : Nat)]?.bind fun v32 => (asSl (1 : Nat) v32).bind fun l33 => Option.bind (G (0 : Nat) [V.sl (1 : Nat) l33]) fun p34 => if p34.fst.length = (3 : Nat) ∧ p34.snd.length = (0 : Nat) then p34.fst[(0 : Nat)]?.bind fun v35 => (asSl (1 : Nat) v35).bind fun l36 => p34.fst[(1 : Nat)]?.bind fun v37 => (asInt IntKind.i64 v37).bind fun i38 => p34.fst[(2 : Nat)]?.bind fun v39 => (asInt IntKind.i64 v39).bind fun i40 => Option.bind (G (5 : Nat) [V.sl (1 : Nat) l33]) fun p41 => if p41.fst.length = (3 : Nat) ∧ p41.snd.length = (0 : Nat) then p41.fst[(0 : Nat)]?.bind fun v42 => (asSl (1 : Nat) v42).bind fun l43 => p41.fst[(1 : Nat)]?.bind fun v44 => (asInt IntKind.i64 v44).bind fun i45 => p41.fst[(2 : Nat)]?.bind fun v46 => (asInt IntKind.i64 v46).bind fun i47 => bif i40 != i47 then some ([V.bool false], []) else bif i38 != i45 then some ([V.bool false], []) else Option.bind (G (4 : Nat) [V.sl (1 : Nat) (List.take l36.length (List.drop (0 : Nat) l36)), V.sl (1 : Nat) (List.take l43.length (List.drop (0 : Nat) l43))]) fun p48 => if p48.fst.length = (1 : Nat) ∧ p48.snd.length = (0 : Nat) then p48.fst[(0 : Nat)]?.bind fun v49 => (asBool v49).bind fun b50 => bif !b50 then some ([V.bool false], []) else Lflagstonelaw31_ColumnTexts_2 N G n l1 l18 (IntKind.i64.wrap (i19 + (1 : Int))) else none else none else none else none else some ([V.bool true], []) := by kernel_rfl
theorem flagstonelaw31_ColumnTexts_sound (N : Nat) (G : Nat → List V → Ans) (hC : ConstOk (flagstonelaw31_ColumnTexts_ga G)) (h : ∀ f s, specs (flagstonelaw31_ColumnTexts_ga G) f = some s → Sound Tryz.prog f s) : Sound Tryz.prog 3 (flagstonelaw31_ColumnTexts_c (Rflagstonelaw31_ColumnTexts N G)).spec :=
  sound_fun (u := flagstonelaw31_ColumnTexts_fu) (nt := 129) mixed hC h Tryz.func3 (by rfl) (by kernel_rfl) (by kernel_rfl) (by kernel_rfl) (by kernel_rfl) (by decide) (by rfl)
noncomputable def flagstonelaw31_ColumnTexts_G : Nat → List V → Ans := look (fun _ => none) [(0, column_ReadTexts), (1, column_Texts), (2, flagstonedata_Spoil), (3, flagstonelaw31_awake), (4, flagstoneref1_Same), (5, flagstoneref31_ReadTexts), (6, flagstoneref31_Texts)]
noncomputable def flagstonelaw31_ColumnTexts : List V → Ans := Rflagstonelaw31_ColumnTexts N0 flagstonelaw31_ColumnTexts_G
theorem flagstonelaw31_ColumnTexts_ok : Sound Tryz.prog 3 (flagstonelaw31_ColumnTexts_c flagstonelaw31_ColumnTexts).spec := flagstonelaw31_ColumnTexts_sound N0 flagstonelaw31_ColumnTexts_G (const_cons (const_none rfl) (const_cons (const_none rfl) (const_cons (const_none rfl) (const_cons (const_none rfl) (const_cons (const_none rfl) (const_cons (const_none rfl) (const_cons (const_none rfl) const_nil))))))) (conTab_ok (List.forall_mem_cons.2 ⟨column_ReadTexts_ok, (List.forall_mem_cons.2 ⟨column_Texts_ok, (List.forall_mem_cons.2 ⟨flagstonedata_Spoil_ok, (List.forall_mem_cons.2 ⟨flagstonelaw31_awake_ok, (List.forall_mem_cons.2 ⟨flagstoneref1_Same_ok, (List.forall_mem_cons.2 ⟨flagstoneref31_ReadTexts_ok, (List.forall_mem_cons.2 ⟨flagstoneref31_Texts_ok, (by simp)⟩)⟩)⟩)⟩)⟩)⟩)⟩))
def flagstonelaw31_ColumnNames_c (g : List V → Ans) : Con := ⟨⟨[.rd [some 1], .rd [none], .rd [none], .rd [none]], [.plain [none]], true, g⟩, [[.bool]], [], none⟩
noncomputable def flagstonelaw31_ColumnNames_fu : Fun := ⟨[.rd [some 1], .rd [none], .rd [none], .rd [none]], [.plain [none]], true, [[.sl 1], [.int .u16], [.int .u16], [.int .u8]], Tryz.f4.body.getD .skip, [.tmp 8], [(0, ⟨[0, 1, 2, 3, 9, 10], [((9, none), .own 1)], false⟩)], []⟩
noncomputable def flagstonelaw31_ColumnNames_ga (G : Nat → List V → Ans) : FuncId → Option Con := conTab [(7, column_ReadTexts_c (G 0)), (6, column_Texts_c (G 1)), (12, flagstonedata_Id_c (G 2)), (10, flagstonedata_Spoil_c (G 3)), (5, flagstonelaw31_awake_c (G 4)), (9, flagstoneref1_Same_c (G 5)), (11, flagstoneref31_ReadTexts_c (G 6)), (8, flagstoneref31_Texts_c (G 7))]
noncomputable def Rflagstonelaw31_ColumnNames (N : Nat) (G : Nat → List V → Ans) (xs : List V) : Ans := flagstonelaw31_ColumnNames_fu.run optAlg Tryz.prog (flagstonelaw31_ColumnNames_ga G) N xs
noncomputable def Lflagstonelaw31_ColumnNames_0 (N : Nat) (G : Nat → List V → Ans) (n : Nat) (l0 : List V) (i1 : Int) (i2 : Int) (i3 : Int) (i10 : Int) (l9 : List V) : Ans := flagstonelaw31_ColumnNames_fu.go optAlg Tryz.prog (flagstonelaw31_ColumnNames_ga G) N [V.bool false, V.bool false, V.bool false, V.bool false] (look (0 : Nat) [((0 : Nat), n)]) 0 false (mkSt [((0 : Nat), D.v (V.sl (1 : Nat) l0)), ((1 : Nat), D.v (V.int IntKind.u16 i1)), ((2 : Nat), D.v (V.int IntKind.u16 i2)), ((3 : Nat), D.v (V.int IntKind.u8 i3)), ((9 : Nat), D.own (109000 : Nat) (0 : Nat) (0 : Nat) l9.length), ((10 : Nat), D.v (V.int IntKind.i64 i10))] [((109000 : Nat), RS.mk (0 : Nat) (some (Reg.mk (Body.row (1 : Nat) l9) false)))])
theorem Rflagstonelaw31_ColumnNames_eq (N : Nat) (G : Nat → List V → Ans) (v0 : V) (v1 : V) (v2 : V) (v3 : V) : Rflagstonelaw31_ColumnNames N G [v0, v1, v2, v3] =
  (asSl (1 : Nat) v0).bind fun l0 => (asInt IntKind.u16 v1).bind fun i1 => (asInt IntKind.u16 v2).bind fun i2 => (asInt IntKind.u8 v3).bind fun i3 => Option.bind (G (4 : Nat) []) fun p4 => if p4.fst.length = (1 : Nat) ∧ p4.snd.length = (0 : Nat) then p4.fst[(0 : Nat)]?.bind fun v5 => (asBool v5).bind fun b6 => bif !b6 then some ([V.bool false], []) else bif decide ((↑l0.length : Int) > (200 : Int)) then some ([V.bool true], []) else Lflagstonelaw31_ColumnNames_0 N G N l0 i1 i2 i3 (0 : Int) [] else none := by kernel_rfl
theorem Lflagstonelaw31_ColumnNames_0_eq (N : Nat) (G : Nat → List V → Ans) (n : Nat) (l0 : List V) (i1 : Int) (i2 : Int) (i3 : Int) (i10 : Int) (l9 : List V) : Lflagstonelaw31_ColumnNames_0 N G (n + 1) l0 i1 i2 i3 i10 l9 =
  bif decide (i10 < (↑l0.length : Int)) then if (0 : Int) ≤ i10 ∧ i10 < (↑l0.length : Int) then l0[i10.toNat]?.bind fun v7 => v7.cells[(0 : Nat)]?.bind fun v8 => (asInt IntKind.u8 v8).bind fun i9 => Option.bind (G (2 : Nat) [V.int IntKind.i64 (IntKind.i64.wrap i9)]) fun p10 => if p10.fst.length = (1 : Nat) ∧ p10.snd.length = (0 : Nat) then p10.fst[(0 : Nat)]?.bind fun v11 => (asStr v11).bind fun s12 => if (0 : Nat) = (0 : Nat) ∧ l9.length = l9.length then if room (l9.length + (1 : Nat)) (16 : Nat) then Lflagstonelaw31_ColumnNames_0 N G n l0 i1 i2 i3 (IntKind.i64.wrap (i10 + (1 : Int))) (l9 ++ [V.str s12]) else none else none else none else none else Option.bind (G (1 : Nat) [V.sl (1 : Nat) (List.take l9.length (List.drop (0 : Nat) l9))]) fun p13 => if p13.fst.length = (1 : Nat) ∧ p13.snd.length = (0 : Nat) then p13.fst[(0 : Nat)]?.bind fun v14 => (asSl (1 : Nat) v14).bind fun l15 => if (List.take l15.length (List.drop (0 : Nat) l15)).all V.isU8 = true then Option.bind (G (7 : Nat) [V.sl (1 : Nat) (List.take l9.length (List.drop (0 : Nat) l9))]) fun p16 => if p16.fst.length = (1 : Nat) ∧ p16.snd.length = (0 : Nat) then p16.fst[(0 : Nat)]?.bind fun v17 => (asSl (1 : Nat) v17).bind fun l18 => if (List.take l18.length (List.drop (0 : Nat) l18)).all V.isU8 = true then bif !(ByteArray.mk (List.map V.byte (List.take l15.length (List.drop (0 : Nat) l15))).toArray).toList == (ByteArray.mk (List.map V.byte (List.take l18.length (List.drop (0 : Nat) l18))).toArray).toList then some ([V.bool false], []) else Option.bind (G (3 : Nat) [V.sl (1 : Nat) (List.take l15.length (List.drop (0 : Nat) l15)), V.int IntKind.u16 i1, V.int IntKind.u16 i2, V.int IntKind.u8 i3]) fun p19 => if p19.fst.length = (1 : Nat) ∧ p19.snd.length = (0 : Nat) then p19.fst[(0 : Nat)]?.bind fun v20 => (asSl (1 : Nat) v20).bind fun l21 => Option.bind (G (0 : Nat) [V.sl (1 : Nat) (List.take l21.length (List.drop (0 : Nat) l21))]) fun p22 => if p22.fst.length = (3 : Nat) ∧ p22.snd.length = (0 : Nat) then p22.fst[(0 : Nat)]?.bind fun v23 => (asSl (1 : Nat) v23).bind fun l24 => p22.fst[(1 : Nat)]?.bind fun v25 => (asInt IntKind.i64 v25).bind fun i26 => p22.fst[(2 : Nat)]?.bind fun v27 => (asInt IntKind.i64 v27).bind fun i28 => Option.bind (G (6 : Nat) [V.sl (1 : Nat) (List.take l21.length (List.drop (0 : Nat) l21))]) fun p29 => if p29.fst.length = (3 : Nat) ∧ p29.snd.length = (0 : Nat) then p29.fst[(0 : Nat)]?.bind fun v30 => (asSl (1 : Nat) v30).bind fun l31 => p29.fst[(1 : Nat)]?.bind fun v32 => (asInt IntKind.i64 v32).bind fun i33 => p29.fst[(2 : Nat)]?.bind fun v34 => (asInt IntKind.i64 v34).bind fun i35 => bif i28 == i35 then bif i26 == i33 then Option.bind (G (5 : Nat) [V.sl (1 : Nat) (List.take l24.length (List.drop (0 : Nat) l24)), V.sl (1 : Nat) (List.take l31.length (List.drop (0 : Nat) l31))]) fun p36 => if p36.fst.length = (1 : Nat) ∧ p36.snd.length = (0 : Nat) then p36.fst[(0 : Nat)]?.bind fun v37 => (asBool v37).bind fun b38 => some ([V.bool b38], []) else none else some ([V.bool false], []) else some ([V.bool false], []) else none else none else none else none else none else none else none := by kernel_rfl
theorem flagstonelaw31_ColumnNames_sound (N : Nat) (G : Nat → List V → Ans) (hC : ConstOk (flagstonelaw31_ColumnNames_ga G)) (h : ∀ f s, specs (flagstonelaw31_ColumnNames_ga G) f = some s → Sound Tryz.prog f s) : Sound Tryz.prog 4 (flagstonelaw31_ColumnNames_c (Rflagstonelaw31_ColumnNames N G)).spec :=
  sound_fun (u := flagstonelaw31_ColumnNames_fu) (nt := 77) mixed hC h Tryz.func4 (by rfl) (by kernel_rfl) (by kernel_rfl) (by kernel_rfl) (by kernel_rfl) (by decide) (by rfl)
noncomputable def flagstonelaw31_ColumnNames_G : Nat → List V → Ans := look (fun _ => none) [(0, column_ReadTexts), (1, column_Texts), (2, flagstonedata_Id), (3, flagstonedata_Spoil), (4, flagstonelaw31_awake), (5, flagstoneref1_Same), (6, flagstoneref31_ReadTexts), (7, flagstoneref31_Texts)]
noncomputable def flagstonelaw31_ColumnNames : List V → Ans := Rflagstonelaw31_ColumnNames N0 flagstonelaw31_ColumnNames_G
theorem flagstonelaw31_ColumnNames_ok : Sound Tryz.prog 4 (flagstonelaw31_ColumnNames_c flagstonelaw31_ColumnNames).spec := flagstonelaw31_ColumnNames_sound N0 flagstonelaw31_ColumnNames_G (const_cons (const_none rfl) (const_cons (const_none rfl) (const_cons (const_none rfl) (const_cons (const_none rfl) (const_cons (const_none rfl) (const_cons (const_none rfl) (const_cons (const_none rfl) (const_cons (const_none rfl) const_nil)))))))) (conTab_ok (List.forall_mem_cons.2 ⟨column_ReadTexts_ok, (List.forall_mem_cons.2 ⟨column_Texts_ok, (List.forall_mem_cons.2 ⟨flagstonedata_Id_ok, (List.forall_mem_cons.2 ⟨flagstonedata_Spoil_ok, (List.forall_mem_cons.2 ⟨flagstonelaw31_awake_ok, (List.forall_mem_cons.2 ⟨flagstoneref1_Same_ok, (List.forall_mem_cons.2 ⟨flagstoneref31_ReadTexts_ok, (List.forall_mem_cons.2 ⟨flagstoneref31_Texts_ok, (by simp)⟩)⟩)⟩)⟩)⟩)⟩)⟩)⟩))
end Go.Proofs.YtdhdhcllgkddnaaGreat.Va
