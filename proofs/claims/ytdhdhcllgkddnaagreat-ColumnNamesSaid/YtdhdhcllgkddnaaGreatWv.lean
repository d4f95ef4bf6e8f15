/-
  How arguments of laws are read.
-/
import Derived.Test.YtdhdhcllgkddnaaGreatWb
import Derived.ProofKit
import Derived.Test.YtdhdhcllgkddnaaGreatWm
import Derived.Carry
import Derived.Test.YtdhdhcllgkddnaaGreatWx
namespace Go.Proofs.YtdhdhcllgkddnaaGreat.Va
open Go Go.RowKit Go.ChangeShapes Go.WideShapes Go.ChangeAt

variable {H : Type} {enc : TypeId × Value → H} {P : Program} {W : World}

/-- What a call leaves of the old. -/
abbrev OldOf (W : World) : Nat → Prop := fun b => b < W.heap.size

theorem cell_old {a : Addr} {u : Value} (h : W.cell? a = some u) : a.block < W.heap.size := by
  unfold World.cell? at h
  split at h
  · rename_i hb
    exact (Array.getElem?_eq_some_iff.1 hb).1
  · cases h

/-- A slice of integers, read. -/
theorem rv_ints {t e : TypeId} {k : IntKind} {v : Value} {d : DataW H} {ps : List MemPlace} (ht : P.underlying t = some (.slice e)) (he : P.underlying e = some (.int k)) (hc : P.cellsOf e = 1)
    (h1 : v.cells.toList = [v]) (h : DataW.Trod enc P W 0 (fun _ => true) true t v d ps) : ∃ l : List Int, (∀ n ∈ l, (Lit.int k n).wf = true) ∧ RV W (OldOf W) (.sl 1 (l.map (V.int k))) v ∧ v.cells.toList = [v] := by
  obtain ⟨fuel, hf⟩ := h
  rcases open_ints ht he hc hf with ⟨hcs, _⟩ | ⟨a, len, cap, zs, hcs, _, hlc, hcm, hzl, _, hcell, hwf⟩
  · rw [h1] at hcs
    simp only [List.cons.injEq, and_true] at hcs
    subst hcs
    exact ⟨[], by simp, .sl0 1, rfl⟩
  · rw [h1] at hcs
    simp only [List.cons.injEq, and_true] at hcs
    subst hcs
    simp only [if_true] at hzl
    refine ⟨zs.take len, fun n hn => hwf n (List.mem_of_mem_take hn), ?_, rfl⟩
    have hlen : ((zs.take len).map (V.int k)).length = len := by simp; omega
    have := RV.sl (w := W) (F := OldOf W) 1 ((zs.take len).map (V.int k)) a cap (fun i _ => .int k (zs.getD i 0)) (fun hne => ?_) (by rw [hlen]; exact hlc) hcm (fun x hx => by
        obtain ⟨y, _, rfl⟩ := List.mem_map.1 hx; rfl) (fun i c x y hx hy => ?_) (fun i c x y hx hy => rfl) (fun i c x y hx hy => ?_)
    · rw [hlen] at this
      exact this
    · have h0 : 0 < zs.length := by
        rcases Nat.eq_zero_or_pos zs.length with h | h
        · exact absurd (by rw [List.eq_nil_of_length_eq_zero h]; simp) hne
        · exact h
      have := cell_old (hcell 0 h0)
      rwa [block_add] at this
    · simp only [List.getElem?_map, Option.map_eq_some_iff] at hx
      obtain ⟨z, hz, rfl⟩ := hx
      have hi := (List.getElem?_eq_some_iff.1 hz).1
      simp only [List.length_take] at hi
      have hc0 : c = 0 := by
        have := (List.getElem?_eq_some_iff.1 hy).1
        simp [V.cells] at this
        exact this
      subst hc0
      simpa using hcell i (by omega)
    · simp only [List.getElem?_map, Option.map_eq_some_iff] at hx
      obtain ⟨z, hz, rfl⟩ := hx
      have hc0 : c = 0 := by
        have := (List.getElem?_eq_some_iff.1 hy).1
        simp [V.cells] at this
        exact this
      subst hc0
      simp only [V.cells, List.getElem?_cons_zero, Option.some.injEq] at hy
      subst hy
      rw [List.getElem?_take] at hz
      split at hz
      · rw [List.getD_eq_getElem?_getD, hz]
        exact .int k z
      · cases hz

/-- A law that answers true, of a world that has grown. -/
theorem sound_law {f : FuncId} {c : List V → Ans} {ms : List Mode} {rk zk : List (List CK)} (hs : Sound P f (Con.mk ⟨ms, [.plain [none]], true, c⟩ rk zk none).spec) {xs : List V} (hc : c xs = some ([.bool true], [])) {vals : List Value}
    (ha : ArgsOk W (OldOf W) ms xs vals [] []) : Calls P f vals.toArray W fun e w' => e = .returned (.bool true) ∧ Below W.heap.size W w' := by
  have := hs.2 xs [.bool true] [] hc W (OldOf W) vals [] [] (fun _ h => h) (by simp) List.nodup_nil ha
  refine this.mono fun e w' he => ?_
  obtain ⟨vs, F', rfl, h1, h2, h3, h4, h5, _, _, _, _, hr, _⟩ := he
  cases hr with
  | plain hv hrest =>
    cases hrest
    rw [hv.bool_inv]
    exact ⟨rfl, h1, h2, h3, h4, fun k hk => h5 k hk (by simp)⟩

end Go.Proofs.YtdhdhcllgkddnaaGreat.Va

namespace Go.Proofs.YtdhdhcllgkddnaaGreat.Va
open Go Go.RowKit Go.ChangeShapes Go.WideShapes Go.ChangeAt

variable {H : Type} {enc : TypeId × Value → H} {P : Program} {W : World}

/-- A slice of elements of one cell each, read. 'good': what reading tells of an element. -/
theorem rv_elems {α : Type} {t e : TypeId} {v : Value} {d : DataW H} {ps : List MemPlace} (toV : α → V) (toVal : α → Value) (good : α → Prop) (ht : P.underlying t = some (.slice e)) (hc : P.cellsOf e = 1)
    (he : ∀ n cs y, DataW.trod enc P W 0 (fun _ => true) true n e cs = some y → ∃ x : α, cs = [toVal x] ∧ good x)
    (hcells : ∀ x, (toV x).cells = [toV x]) (hone : ∀ x, (toVal x).oneCell' = true) (hrv : ∀ x, RV W (OldOf W) (toV x) (toVal x))
    (h1 : v.cells.toList = [v]) (h : DataW.Trod enc P W 0 (fun _ => true) true t v d ps) : ∃ l : List α, (∀ x ∈ l, good x) ∧ RV W (OldOf W) (.sl 1 (l.map toV)) v ∧ v.cells.toList = [v] := by
  obtain ⟨fuel, hf⟩ := h
  rcases DataW.trod_slice ht hf with ⟨hcs, _⟩ | ⟨a, len, cap, elems, rest, n, _, hcs, _, _, hlc, hcm, hlen, hel, _, _⟩
  · rw [h1] at hcs
    simp only [List.cons.injEq, and_true] at hcs
    subst hcs
    exact ⟨[], by simp, .sl0 1, rfl⟩
  · rw [h1] at hcs
    simp only [List.cons.injEq, and_true] at hcs
    subst hcs
    have each : ∀ i, i < len → ∃ x : α, W.cell? (a.add i) = some (toVal x) ∧ good x := by
      intro i hi
      have hb := hel i hi
      rw [List.getElem?_eq_getElem (by omega), hc, Nat.mul_one, Option.bind_eq_some_iff] at hb
      obtain ⟨cs', hcs, hy⟩ := hb
      obtain ⟨x, rfl, hg⟩ := he _ _ _ hy
      exact ⟨x, cell_of_cells?_one hcs, hg⟩
    have all : ∀ m, m ≤ len → ∃ l : List α, l.length = m ∧ (∀ x ∈ l, good x) ∧ ∀ i x, l[i]? = some x → W.cell? (a.add i) = some (toVal x) := by
      intro m
      induction m with
      | zero => intro _; exact ⟨[], rfl, by simp, by simp⟩
      | succ m ih =>
        intro hm
        obtain ⟨l, hl, hg, hl2⟩ := ih (by omega)
        obtain ⟨x, hx, hgx⟩ := each m (by omega)
        refine ⟨l ++ [x], by simp [hl], fun y hy => ?_, fun i y hy => ?_⟩
        · rcases List.mem_append.1 hy with hy | hy
          · exact hg y hy
          · simp only [List.mem_singleton] at hy; rw [hy]; exact hgx
        · rw [List.getElem?_append] at hy
          split at hy
          · exact hl2 i y hy
          · rename_i hi
            have hi0 : i - l.length = 0 := by
              have := (List.getElem?_eq_some_iff.1 hy).1
              simp at this
              omega
            rw [hi0] at hy
            simp only [List.getElem?_cons_zero, Option.some.injEq] at hy
            subst hy
            have : i = m := by omega
            rw [this]
            exact hx
    obtain ⟨l, hl, hg, hcell⟩ := all len (Nat.le_refl _)
    refine ⟨l, hg, ?_, rfl⟩
    have hlm : (l.map toV).length = len := by simp [hl]
    have c0 : ∀ (x : α) (c : Nat) (y : V), (toV x).cells[c]? = some y → c = 0 ∧ y = toV x := by
      intro x c y hy
      rw [hcells] at hy
      have := (List.getElem?_eq_some_iff.1 hy).1
      simp at this
      subst this
      simp at hy
      exact ⟨rfl, hy.symm⟩
    by_cases h0 : l = []
    · subst h0
      simp only [List.length_nil] at hl
      subst hl
      exact .sl (w := W) (F := OldOf W) 1 [] a cap (fun _ _ => .bool true) (fun h => absurd rfl h) (Nat.zero_le _) hcm (by simp) (by simp) (by simp) (by simp)
    · obtain ⟨x0, hx0⟩ : ∃ x, x ∈ l := by
        cases l with
        | nil => exact absurd rfl h0
        | cons x l => exact ⟨x, by simp⟩
      have := RV.sl (w := W) (F := OldOf W) 1 (l.map toV) a cap (fun i _ => toVal (l[i]?.getD x0)) (fun _ => ?_) (by rw [hlm]; exact hlc) hcm (fun x hx => by
          obtain ⟨y, _, rfl⟩ := List.mem_map.1 hx; rw [hcells]; rfl) (fun i c x y hx hy => ?_) (fun i c x y hx hy => hone _) (fun i c x y hx hy => ?_)
      · rw [hlm] at this
        exact this
      · have hp : 0 < l.length := List.length_pos_of_mem hx0
        have := cell_old (hcell 0 _ (List.getElem?_eq_getElem hp))
        rwa [block_add] at this
      · simp only [List.getElem?_map, Option.map_eq_some_iff] at hx
        obtain ⟨z, hz, rfl⟩ := hx
        obtain ⟨rfl, _⟩ := c0 z c y hy
        have := hcell i z hz
        rw [hz]
        simpa using this
      · simp only [List.getElem?_map, Option.map_eq_some_iff] at hx
        obtain ⟨z, hz, rfl⟩ := hx
        obtain ⟨_, rfl⟩ := c0 z c y hy
        rw [hz]
        exact hrv z

/-- A slice of bools, read. -/
theorem rv_bools {t e : TypeId} {v : Value} {d : DataW H} {ps : List MemPlace} (ht : P.underlying t = some (.slice e)) (he : P.underlying e = some .bool) (hc : P.cellsOf e = 1)
    (h1 : v.cells.toList = [v]) (h : DataW.Trod enc P W 0 (fun _ => true) true t v d ps) : ∃ l : List Bool, RV W (OldOf W) (.sl 1 (l.map V.bool)) v := by
  obtain ⟨l, _, h, _⟩ := rv_elems V.bool Value.bool (fun _ => True) ht hc (fun n cs y hy => by
    obtain ⟨b, rfl, _⟩ := DataW.trod_bool he hy
    exact ⟨b, rfl, trivial⟩) (fun _ => rfl) (fun _ => rfl) (fun b => .bool b) h1 h
  exact ⟨l, h⟩

end Go.Proofs.YtdhdhcllgkddnaaGreat.Va

namespace Go.Proofs.YtdhdhcllgkddnaaGreat.Va
open Go Go.RowKit Go.ChangeShapes Go.WideShapes Go.ChangeAt

section
variable {H : Type} {enc : TypeId × Value → H} {P : Program} {w : World} {base : Nat} {spare : Nat → Bool} {held : Bool}
theorem trodAll_five {t0 t1 t2 t3 t4 : TypeId} {args : Array Value} {ds : List (DataW H)} {ps : List MemPlace} (h : DataW.TrodAll enc P w base spare held [t0, t1, t2, t3, t4] args.toList ds ps) :
    ∃ v0 v1 v2 v3 v4 d0 d1 d2 d3 d4 p0 p1 p2 p3 p4, args = #[v0, v1, v2, v3, v4] ∧ ds = [d0, d1, d2, d3, d4] ∧ ps = p0 ++ p1 ++ p2 ++ p3 ++ p4 ∧ DataW.Trod enc P w base spare held t0 v0 d0 p0 ∧ DataW.Trod enc P w base spare held t1 v1 d1 p1 ∧ DataW.Trod enc P w base spare held t2 v2 d2 p2 ∧ DataW.Trod enc P w base spare held t3 v3 d3 p3 ∧ DataW.Trod enc P w base spare held t4 v4 d4 p4 := by
  obtain ⟨v0, vs0, d0, ds0, p0, q0, hargs, rfl, rfl, h0, r0⟩ := trodAll_cons h
  obtain ⟨v1, vs1, d1, ds1, p1, q1, rfl, rfl, rfl, h1, r1⟩ := trodAll_cons r0
  obtain ⟨v2, vs2, d2, ds2, p2, q2, rfl, rfl, rfl, h2, r2⟩ := trodAll_cons r1
  obtain ⟨v3, vs3, d3, ds3, p3, q3, rfl, rfl, rfl, h3, r3⟩ := trodAll_cons r2
  obtain ⟨v4, vs4, d4, ds4, p4, q4, rfl, rfl, rfl, h4, r4⟩ := trodAll_cons r3
  obtain ⟨rfl, rfl, rfl⟩ := trodAll_nil r4
  exact ⟨v0, v1, v2, v3, v4, d0, d1, d2, d3, d4, p0, p1, p2, p3, p4, by cases args; simp_all, rfl, by simp, h0, h1, h2, h3, h4⟩
theorem trodAll_mk5 {t0 t1 t2 t3 t4 : TypeId} {v0 v1 v2 v3 v4 : Value} {d0 d1 d2 d3 d4 : DataW H} {p0 p1 p2 p3 p4 : List MemPlace} (h0 : DataW.Trod enc P w base spare held t0 v0 d0 p0) (h1 : DataW.Trod enc P w base spare held t1 v1 d1 p1) (h2 : DataW.Trod enc P w base spare held t2 v2 d2 p2) (h3 : DataW.Trod enc P w base spare held t3 v3 d3 p3) (h4 : DataW.Trod enc P w base spare held t4 v4 d4 p4) : DataW.TrodAll enc P w base spare held [t0, t1, t2, t3, t4] [v0, v1, v2, v3, v4] [d0, d1, d2, d3, d4] (p0 ++ (p1 ++ (p2 ++ (p3 ++ p4)))) :=
  ⟨p0, p1 ++ (p2 ++ (p3 ++ p4)), h0, trodAll_mk4 h1 h2 h3 h4, rfl⟩
theorem trodAll_six {t0 t1 t2 t3 t4 t5 : TypeId} {args : Array Value} {ds : List (DataW H)} {ps : List MemPlace} (h : DataW.TrodAll enc P w base spare held [t0, t1, t2, t3, t4, t5] args.toList ds ps) :
    ∃ v0 v1 v2 v3 v4 v5 d0 d1 d2 d3 d4 d5 p0 p1 p2 p3 p4 p5, args = #[v0, v1, v2, v3, v4, v5] ∧ ds = [d0, d1, d2, d3, d4, d5] ∧ ps = p0 ++ p1 ++ p2 ++ p3 ++ p4 ++ p5 ∧ DataW.Trod enc P w base spare held t0 v0 d0 p0 ∧ DataW.Trod enc P w base spare held t1 v1 d1 p1 ∧ DataW.Trod enc P w base spare held t2 v2 d2 p2 ∧ DataW.Trod enc P w base spare held t3 v3 d3 p3 ∧ DataW.Trod enc P w base spare held t4 v4 d4 p4 ∧ DataW.Trod enc P w base spare held t5 v5 d5 p5 := by
  obtain ⟨v0, vs0, d0, ds0, p0, q0, hargs, rfl, rfl, h0, r0⟩ := trodAll_cons h
  obtain ⟨v1, vs1, d1, ds1, p1, q1, rfl, rfl, rfl, h1, r1⟩ := trodAll_cons r0
  obtain ⟨v2, vs2, d2, ds2, p2, q2, rfl, rfl, rfl, h2, r2⟩ := trodAll_cons r1
  obtain ⟨v3, vs3, d3, ds3, p3, q3, rfl, rfl, rfl, h3, r3⟩ := trodAll_cons r2
  obtain ⟨v4, vs4, d4, ds4, p4, q4, rfl, rfl, rfl, h4, r4⟩ := trodAll_cons r3
  obtain ⟨v5, vs5, d5, ds5, p5, q5, rfl, rfl, rfl, h5, r5⟩ := trodAll_cons r4
  obtain ⟨rfl, rfl, rfl⟩ := trodAll_nil r5
  exact ⟨v0, v1, v2, v3, v4, v5, d0, d1, d2, d3, d4, d5, p0, p1, p2, p3, p4, p5, by cases args; simp_all, rfl, by simp, h0, h1, h2, h3, h4, h5⟩
theorem trodAll_mk6 {t0 t1 t2 t3 t4 t5 : TypeId} {v0 v1 v2 v3 v4 v5 : Value} {d0 d1 d2 d3 d4 d5 : DataW H} {p0 p1 p2 p3 p4 p5 : List MemPlace} (h0 : DataW.Trod enc P w base spare held t0 v0 d0 p0) (h1 : DataW.Trod enc P w base spare held t1 v1 d1 p1) (h2 : DataW.Trod enc P w base spare held t2 v2 d2 p2) (h3 : DataW.Trod enc P w base spare held t3 v3 d3 p3) (h4 : DataW.Trod enc P w base spare held t4 v4 d4 p4) (h5 : DataW.Trod enc P w base spare held t5 v5 d5 p5) : DataW.TrodAll enc P w base spare held [t0, t1, t2, t3, t4, t5] [v0, v1, v2, v3, v4, v5] [d0, d1, d2, d3, d4, d5] (p0 ++ (p1 ++ (p2 ++ (p3 ++ (p4 ++ p5))))) :=
  ⟨p0, p1 ++ (p2 ++ (p3 ++ (p4 ++ p5))), h0, trodAll_mk5 h1 h2 h3 h4 h5, rfl⟩
theorem trodAll_seven {t0 t1 t2 t3 t4 t5 t6 : TypeId} {args : Array Value} {ds : List (DataW H)} {ps : List MemPlace} (h : DataW.TrodAll enc P w base spare held [t0, t1, t2, t3, t4, t5, t6] args.toList ds ps) :
    ∃ v0 v1 v2 v3 v4 v5 v6 d0 d1 d2 d3 d4 d5 d6 p0 p1 p2 p3 p4 p5 p6, args = #[v0, v1, v2, v3, v4, v5, v6] ∧ ds = [d0, d1, d2, d3, d4, d5, d6] ∧ ps = p0 ++ p1 ++ p2 ++ p3 ++ p4 ++ p5 ++ p6 ∧ DataW.Trod enc P w base spare held t0 v0 d0 p0 ∧ DataW.Trod enc P w base spare held t1 v1 d1 p1 ∧ DataW.Trod enc P w base spare held t2 v2 d2 p2 ∧ DataW.Trod enc P w base spare held t3 v3 d3 p3 ∧ DataW.Trod enc P w base spare held t4 v4 d4 p4 ∧ DataW.Trod enc P w base spare held t5 v5 d5 p5 ∧ DataW.Trod enc P w base spare held t6 v6 d6 p6 := by
  obtain ⟨v0, vs0, d0, ds0, p0, q0, hargs, rfl, rfl, h0, r0⟩ := trodAll_cons h
  obtain ⟨v1, vs1, d1, ds1, p1, q1, rfl, rfl, rfl, h1, r1⟩ := trodAll_cons r0
  obtain ⟨v2, vs2, d2, ds2, p2, q2, rfl, rfl, rfl, h2, r2⟩ := trodAll_cons r1
  obtain ⟨v3, vs3, d3, ds3, p3, q3, rfl, rfl, rfl, h3, r3⟩ := trodAll_cons r2
  obtain ⟨v4, vs4, d4, ds4, p4, q4, rfl, rfl, rfl, h4, r4⟩ := trodAll_cons r3
  obtain ⟨v5, vs5, d5, ds5, p5, q5, rfl, rfl, rfl, h5, r5⟩ := trodAll_cons r4
  obtain ⟨v6, vs6, d6, ds6, p6, q6, rfl, rfl, rfl, h6, r6⟩ := trodAll_cons r5
  obtain ⟨rfl, rfl, rfl⟩ := trodAll_nil r6
  exact ⟨v0, v1, v2, v3, v4, v5, v6, d0, d1, d2, d3, d4, d5, d6, p0, p1, p2, p3, p4, p5, p6, by cases args; simp_all, rfl, by simp, h0, h1, h2, h3, h4, h5, h6⟩
theorem trodAll_mk7 {t0 t1 t2 t3 t4 t5 t6 : TypeId} {v0 v1 v2 v3 v4 v5 v6 : Value} {d0 d1 d2 d3 d4 d5 d6 : DataW H} {p0 p1 p2 p3 p4 p5 p6 : List MemPlace} (h0 : DataW.Trod enc P w base spare held t0 v0 d0 p0) (h1 : DataW.Trod enc P w base spare held t1 v1 d1 p1) (h2 : DataW.Trod enc P w base spare held t2 v2 d2 p2) (h3 : DataW.Trod enc P w base spare held t3 v3 d3 p3) (h4 : DataW.Trod enc P w base spare held t4 v4 d4 p4) (h5 : DataW.Trod enc P w base spare held t5 v5 d5 p5) (h6 : DataW.Trod enc P w base spare held t6 v6 d6 p6) : DataW.TrodAll enc P w base spare held [t0, t1, t2, t3, t4, t5, t6] [v0, v1, v2, v3, v4, v5, v6] [d0, d1, d2, d3, d4, d5, d6] (p0 ++ (p1 ++ (p2 ++ (p3 ++ (p4 ++ (p5 ++ p6)))))) :=
  ⟨p0, p1 ++ (p2 ++ (p3 ++ (p4 ++ (p5 ++ p6)))), h0, trodAll_mk6 h1 h2 h3 h4 h5 h6, rfl⟩
end

variable {H : Type} {enc : TypeId × Value → H} {P : Program} {W : World}
/-- A slice of bytes, read. -/
theorem rv_bytes {t e : TypeId} {v : Value} {d : DataW H} {ps : List MemPlace} (ht : P.underlying t = some (.slice e)) (he : P.underlying e = some (.int .u8)) (hc : P.cellsOf e = 1)
    (h1 : v.cells.toList = [v]) (h : DataW.Trod enc P W 0 (fun _ => true) true t v d ps) : ∃ b : List UInt8, RV W (OldOf W) (.sl 1 (byV b)) v := by
  obtain ⟨l, hl, h, _⟩ := rv_ints ht he hc h1 h
  have e3 : IntKind.u8.min = 0 := rfl
  have e4 : IntKind.u8.max = 255 := rfl
  refine ⟨l.map fun x => UInt8.ofNat x.toNat, ?_⟩
  rw [← u8V_byV fun x hx => by
    have := hl x hx
    simp [Lit.wf, e3, e4] at this
    omega]
  exact h
theorem wf_i64 {x : Int} (h : (Lit.int .i64 x).wf = true) : I64 x := by
  have e1 : IntKind.i64.min = -9223372036854775808 := rfl
  have e2 : IntKind.i64.max = 9223372036854775807 := rfl
  simp [Lit.wf, e1, e2] at h
  unfold I64
  omega
theorem wf_u8 {x : Int} (h : (Lit.int .u8 x).wf = true) : 0 ≤ x ∧ x < 256 := by
  have e3 : IntKind.u8.min = 0 := rfl
  have e4 : IntKind.u8.max = 255 := rfl
  simp [Lit.wf, e3, e4] at h
  omega
theorem wf_i8 {x : Int} (h : (Lit.int .i8 x).wf = true) : -128 ≤ x ∧ x < 128 := by
  have e3 : IntKind.i8.min = -128 := rfl
  have e4 : IntKind.i8.max = 127 := rfl
  simp [Lit.wf, e3, e4] at h
  omega
theorem wf_u16 {x : Int} (h : (Lit.int .u16 x).wf = true) : 0 ≤ x ∧ x < 65536 := by
  have e3 : IntKind.u16.min = 0 := rfl
  have e4 : IntKind.u16.max = 65535 := rfl
  simp [Lit.wf, e3, e4] at h
  omega

end Go.Proofs.YtdhdhcllgkddnaaGreat.Va

namespace Go.Proofs.YtdhdhcllgkddnaaGreat.Va
open Go Go.RowKit Go.ChangeShapes Go.WideShapes Go.ChangeAt

variable {H : Type} {enc : TypeId × Value → H} {P : Program} {W : World}

theorem rv_strs {t e : TypeId} {v : Value} {d : DataW H} {ps : List MemPlace} (ht : P.underlying t = some (.slice e)) (he : P.underlying e = some .string) (hc : P.cellsOf e = 1)
    (h1 : v.cells.toList = [v]) (h : DataW.Trod enc P W 0 (fun _ => true) true t v d ps) : ∃ l : List Str, (∀ s ∈ l, s.length ≤ maxLen) ∧ RV W (OldOf W) (.sl 1 (txV l)) v := by
  obtain ⟨l, hl, h, _⟩ := rv_elems V.str Value.string (fun s : ByteArray => s.size ≤ maxLen) ht hc (fun n cs y hy => by
    obtain ⟨s, rfl, _, hs⟩ := DataW.trod_string he hy
    exact ⟨s, rfl, hs⟩) (fun _ => rfl) (fun _ => rfl) (fun s => .str s) h1 h
  refine ⟨l.map fun s => s.data.toList, fun s hs => ?_, ?_⟩
  · obtain ⟨y, hy, rfl⟩ := List.mem_map.1 hs
    have := hl y hy
    rw [Array.length_toList]
    exact this
  · have e : txV (l.map fun s => s.data.toList) = l.map V.str := by
      simp only [txV, List.map_map]
      refine List.map_congr_left fun s _ => ?_
      simp [tx]
    rw [e]
    exact h

end Go.Proofs.YtdhdhcllgkddnaaGreat.Va
