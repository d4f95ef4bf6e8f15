/-
  ColumnInts: column.Ints returns the bytes that the reference's Ints returns, for any numbers and for the made lists: the law answers true whatever the input, and each argument reads behind the call as it read before.
-/
import Derived.Test.YtdhdhcllgkddnaaWb
import Derived.ProofKit
import Derived.Test.YtdhdhcllgkddnaaRows
import Derived.Test.YtdhdhcllgkddnaaWq
namespace Go.Proofs.Ytdhdhcllgkddnaa.Va
open Go Go.RowKit Go.ChangeShapes Go.WideShapes Go.ChangeAt

variable {H : Type} {enc : TypeId × Value → H} {P : Program} {W : World}

/-- What a call leaves of the old. -/
abbrev OldOf (W : World) : Nat → Prop := fun b => b < W.heap.size

theorem cell_old {a : Addr} {u : Value} (h : W.cell? a = some u) : a.block < W.heap.size := by
  unfold World.cell? at h
  split at h
  · rename_i hb
    exact (Array.getElem?_eq_some_iff.1 hb).1
  · cases h

/-- A slice of integers, read. -/
theorem rv_ints {t e : TypeId} {k : IntKind} {v : Value} {d : DataW H} {ps : List MemPlace} (ht : P.underlying t = some (.slice e)) (he : P.underlying e = some (.int k)) (hc : P.cellsOf e = 1)
    (h1 : v.cells.toList = [v]) (h : DataW.Trod enc P W 0 (fun _ => true) true t v d ps) : ∃ l : List Int, (∀ n ∈ l, (Lit.int k n).wf = true) ∧ RV W (OldOf W) (.sl 1 (l.map (V.int k))) v ∧ v.cells.toList = [v] := by
  obtain ⟨fuel, hf⟩ := h
  rcases open_ints ht he hc hf with ⟨hcs, _⟩ | ⟨a, len, cap, zs, hcs, _, hlc, hcm, hzl, _, hcell, hwf⟩
  · rw [h1] at hcs
    simp only [List.cons.injEq, and_true] at hcs
    subst hcs
    exact ⟨[], by simp, .sl0 1, rfl⟩
  · rw [h1] at hcs
    simp only [List.cons.injEq, and_true] at hcs
    subst hcs
    simp only [if_true] at hzl
    refine ⟨zs.take len, fun n hn => hwf n (List.mem_of_mem_take hn), ?_, rfl⟩
    have hlen : ((zs.take len).map (V.int k)).length = len := by simp; omega
    have := RV.sl (w := W) (F := OldOf W) 1 ((zs.take len).map (V.int k)) a cap (fun i _ => .int k (zs.getD i 0)) (fun hne => ?_) (by rw [hlen]; exact hlc) hcm (fun x hx => by
        obtain ⟨y, _, rfl⟩ := List.mem_map.1 hx; rfl) (fun i c x y hx hy => ?_) (fun i c x y hx hy => rfl) (fun i c x y hx hy => ?_)
    · rw [hlen] at this
      exact this
    · have h0 : 0 < zs.length := by
        rcases Nat.eq_zero_or_pos zs.length with h | h
        · exact absurd (by rw [List.eq_nil_of_length_eq_zero h]; simp) hne
        · exact h
      have := cell_old (hcell 0 h0)
      rwa [block_add] at this
    · simp only [List.getElem?_map, Option.map_eq_some_iff] at hx
      obtain ⟨z, hz, rfl⟩ := hx
      have hi := (List.getElem?_eq_some_iff.1 hz).1
      simp only [List.length_take] at hi
      have hc0 : c = 0 := by
        have := (List.getElem?_eq_some_iff.1 hy).1
        simp [V.cells] at this
        exact this
      subst hc0
      simpa using hcell i (by omega)
    · simp only [List.getElem?_map, Option.map_eq_some_iff] at hx
      obtain ⟨z, hz, rfl⟩ := hx
      have hc0 : c = 0 := by
        have := (List.getElem?_eq_some_iff.1 hy).1
        simp [V.cells] at this
        exact this
      subst hc0
      simp only [V.cells, List.getElem?_cons_zero, Option.some.injEq] at hy
      subst hy
      rw [List.getElem?_take] at hz
      split at hz
      · rw [List.getD_eq_getElem?_getD, hz]
        exact .int k z
      · cases hz

/-- A law that answers true, of a world that has grown. -/
theorem sound_law {f : FuncId} {c : List V → Ans} {ms : List Mode} {rk zk : List (List CK)} (hs : Sound P f (Con.mk ⟨ms, [.plain [none]], true, c⟩ rk zk none).spec) {xs : List V} (hc : c xs = some ([.bool true], [])) {vals : List Value}
    (ha : ArgsOk W (OldOf W) ms xs vals [] []) : Calls P f vals.toArray W fun e w' => e = .returned (.bool true) ∧ Below W.heap.size W w' := by
  have := hs.2 xs [.bool true] [] hc W (OldOf W) vals [] [] (fun _ h => h) (by simp) List.nodup_nil ha
  refine this.mono fun e w' he => ?_
  obtain ⟨vs, F', rfl, h1, h2, h3, h4, h5, _, _, _, _, hr, _⟩ := he
  cases hr with
  | plain hv hrest =>
    cases hrest
    rw [hv.bool_inv]
    exact ⟨rfl, h1, h2, h3, h4, fun k hk => h5 k hk (by simp)⟩

end Go.Proofs.Ytdhdhcllgkddnaa.Va

namespace Go.Proofs.Ytdhdhcllgkddnaa
open Go.ChangeShapes Go.WideShapes Go.ChangeAt Go.RowKit
open Va

theorem Try.own : ownKnob Try.prog.godebug = none := by kernel_rfl
theorem Try.laidOut : laidOutB Try.prog = true := by kernel_rfl

set_option maxRecDepth 100000 in
theorem columnInts_lifted (os : Os) (started : os.Started) (H : Type) (enc : TypeId × Value → H) :
    ReturnsInHanded {} Try.checked os 3 .any (Rows.columnIntsSpec.pre6 enc Try.prog Try.f3 Rows.columnIntsRow.domain false) (Rows.columnIntsSpec.post enc Try.prog Try.f3 false true false false) := by
  refine returnsInHanded_of_change (C := Try.checked) Try.own started (by kernel_rfl) Try.func3
    (ChangeSpec.witness6 (enc := enc) (C := Try.checked) false ⟨#[], #[.slice none 0 0, .slice none 0 0, .int .u8 0], []⟩ 8 (by kernel_rfl) (by kernel_rfl) (by kernel_rfl) (by kernel_rfl)) ?_
  intro W base args ds gs before hval0 hW hcnd _
  have hval : ∀ (j : Nat) t v, Try.f3.params[j]? = some t → args[j]? = some v → Value.okWide Try.prog W .any base t v := hval0
  have hW' := hW
  obtain ⟨p, q, hA0, hV, rfl, hfz, hnd⟩ := hW
  have hA : DataW.TrodAll enc Try.prog W 0 (fun _ => true) true Try.f3.params.toList args.toList ds p := hA0
  rw [Try.params3] at hA hval
  obtain ⟨v0, v1, v2, d0, d1, d2, p0, p1, p2, rfl, rfl, rfl, h0, h1, h2⟩ := trodAll_three hA
  obtain ⟨rfl, rfl⟩ := trodVars_none hV
  simp only [List.append_nil] at hW'
  have hlt : ∀ x ∈ p0 ++ p1 ++ p2, x.block < W.heap.size := fun x hx => by simpa using hW'.lt x hx
  obtain ⟨a0, n0, c0, rfl⟩ := okWide_slice Try.underlying22 (hval 0 22 v0 rfl rfl)
  obtain ⟨a1, n1, c1, rfl⟩ := okWide_slice Try.underlying23 (hval 1 23 v1 rfl rfl)
  obtain ⟨l, hl, r0, _⟩ := rv_ints Try.underlying22 Try.underlying3 (by kernel_rfl) rfl h0
  obtain ⟨m, _, r1, _⟩ := rv_ints Try.underlying23 Try.underlying42 (by kernel_rfl) rfl h1
  obtain ⟨k, rfl, hd2, hp2, wk⟩ := open_int Try.underlying5 (hval 2 5 v2 rfl rfl) h2
  have hI : ∀ x ∈ l, I64 x := fun x hx => by
    have := hl x hx
    have e1 : IntKind.i64.min = -9223372036854775808 := rfl
    have e2 : IntKind.i64.max = 9223372036854775807 := rfl
    simp [Lit.wf, e1, e2] at this
    unfold I64
    omega
  refine (sound_law flagstonelaw31_ColumnInts_ok (flagstonelaw31_ColumnInts_eq' (m := m) (kind := k) hI) (.rd r0 (.rd r1 (.rd (.int .u8 k) .nil)))).mono fun e W' ⟨he, hb⟩ => ?_
  subst he
  have k0 := Below.trod Try.laidOut (by kernel_rfl) (of_decide_eq_true (by kernel_rfl)) h0 hb fun x hx => hlt x (by simp [hx])
  have k1 := Below.trod Try.laidOut (by kernel_rfl) (of_decide_eq_true (by kernel_rfl)) h1 hb fun x hx => hlt x (by simp [hx])
  have k2 := Below.trod Try.laidOut (by kernel_rfl) (of_decide_eq_true (by kernel_rfl)) h2 hb fun x hx => hlt x (by simp [hx])
  exact ⟨_, rfl, ⟨_, _, _, [], _, [], hW', trodAll_mk1 (shut_bool Try.underlying4 _), trodAll_mk3 k0 k1 k2, rfl, hb.frame _, fun h => by cases h⟩⟩

theorem columnInts_holds : Rows.ColumnIntsSaid :=
  OpenClaim.holds_of_wide 3 Try.f3 rfl rfl rfl rfl rfl rfl rfl ⟨rfl, rfl, rfl, rfl, rfl⟩ rfl rfl rfl rfl rfl (by kernel_rfl) Try.func3 (by kernel_rfl)
    (of_decide_eq_true (by kernel_rfl)) (by unfold Func.isWrapper; first | (rw [if_pos (by decide +kernel)]; kernel_rfl) | (rw [if_neg (by decide +kernel)]; exact ⟨rfl, rfl⟩))
    (fun os started H enc _ => columnInts_lifted os started H enc)

#print axioms columnInts_holds
end Go.Proofs.Ytdhdhcllgkddnaa
