/-
  ColumnNames: the same for lists of a few texts, which have several encodings of their indexes: the law answers true whatever the input, and each argument reads behind the call as it read before.
-/
import Derived.Test.YtdhdhcllgkddnaaGreatRows
import Derived.Test.YtdhdhcllgkddnaaGreatWv
import Derived.Test.YtdhdhcllgkddnaaGreatWy
namespace Go.Proofs.YtdhdhcllgkddnaaGreat
open Go.ChangeShapes Go.WideShapes Go.ChangeAt Go.RowKit
open Va

theorem Tryz.own : ownKnob Tryz.prog.godebug = none := by kernel_rfl
theorem Tryz.laidOut : laidOutB Tryz.prog = true := by kernel_rfl

set_option maxRecDepth 100000 in
theorem columnNames_lifted (os : Os) (started : os.Started) (H : Type) (enc : TypeId × Value → H) :
    ReturnsInHanded {} Tryz.checked os 4 .any (Rows.columnNamesSpec.pre6 enc Tryz.prog Tryz.f4 Rows.columnNamesRow.domain false) (Rows.columnNamesSpec.post enc Tryz.prog Tryz.f4 false true false false) := by
  refine returnsInHanded_of_change (C := Tryz.checked) Tryz.own started (by kernel_rfl) Tryz.func4
    (ChangeSpec.witness6 (enc := enc) (C := Tryz.checked) false ⟨#[], #[.slice none 0 0, .int .u16 0, .int .u16 0, .int .u8 0], []⟩ 8 (by kernel_rfl) (by kernel_rfl) (by kernel_rfl) (by kernel_rfl)) ?_
  intro W base args ds gs before hval0 hW hcnd _
  have hval : ∀ (j : Nat) t v, Tryz.f4.params[j]? = some t → args[j]? = some v → Value.okWide Tryz.prog W .any base t v := hval0
  have hW' := hW
  obtain ⟨p, q, hA0, hV, rfl, hfz, hnd⟩ := hW
  have hA : DataW.TrodAll enc Tryz.prog W 0 (fun _ => true) true Tryz.f4.params.toList args.toList ds p := hA0
  rw [Tryz.params4] at hA hval
  obtain ⟨v0, v1, v2, v3, d0, d1, d2, d3, p0, p1, p2, p3, rfl, rfl, rfl, h0, h1, h2, h3⟩ := trodAll_four hA
  obtain ⟨rfl, rfl⟩ := trodVars_none hV
  simp only [List.append_nil] at hW'
  have hlt : ∀ x ∈ p0 ++ p1 ++ p2 ++ p3, x.block < W.heap.size := fun x hx => by have := hW'.lt x (by simpa using hx); simpa using this
  obtain ⟨a0, n0, c0, rfl⟩ := okWide_slice Tryz.underlying23 (hval 0 23 v0 rfl rfl)
  obtain ⟨b0, r0⟩ := rv_bytes Tryz.underlying23 Tryz.underlying5 (by kernel_rfl) rfl h0
  obtain ⟨x1, rfl, hd1, hp1, w1⟩ := open_int Tryz.underlying24 (hval 1 24 v1 rfl rfl) h1
  have i1 := wf_u16 w1
  obtain ⟨x2, rfl, hd2, hp2, w2⟩ := open_int Tryz.underlying24 (hval 2 24 v2 rfl rfl) h2
  have i2 := wf_u16 w2
  obtain ⟨x3, rfl, hd3, hp3, w3⟩ := open_int Tryz.underlying5 (hval 3 5 v3 rfl rfl) h3
  have i3 := wf_u8 w3
  refine (sound_law flagstonelaw31_ColumnNames_ok (flagstonelaw31_ColumnNames_eq' (l := b0) (how := x2) i1 i3) (.rd r0 (.rd (.int .u16 x1) (.rd (.int .u16 x2) (.rd (.int .u8 x3) .nil))))).mono fun e W' ⟨he, hb⟩ => ?_
  subst he
  have k0 := Below.trod Tryz.laidOut (by kernel_rfl) (of_decide_eq_true (by kernel_rfl)) h0 hb fun x hx => hlt x (by simp [hx])
  have k1 := Below.trod Tryz.laidOut (by kernel_rfl) (of_decide_eq_true (by kernel_rfl)) h1 hb fun x hx => hlt x (by simp [hx])
  have k2 := Below.trod Tryz.laidOut (by kernel_rfl) (of_decide_eq_true (by kernel_rfl)) h2 hb fun x hx => hlt x (by simp [hx])
  have k3 := Below.trod Tryz.laidOut (by kernel_rfl) (of_decide_eq_true (by kernel_rfl)) h3 hb fun x hx => hlt x (by simp [hx])
  exact ⟨_, rfl, ⟨_, _, _, [], _, [], hW', trodAll_mk1 (shut_bool Tryz.underlying4 _), trodAll_mk4 k0 k1 k2 k3, rfl, hb.frame _, fun h => by cases h⟩⟩

theorem columnNames_holds : Rows.ColumnNamesSaid :=
  OpenClaim.holds_of_wide 4 Tryz.f4 rfl rfl rfl rfl rfl rfl rfl ⟨rfl, rfl, rfl, rfl, rfl⟩ rfl rfl rfl rfl rfl (by kernel_rfl) Tryz.func4 (by kernel_rfl)
    (of_decide_eq_true (by kernel_rfl)) (by unfold Func.isWrapper; first | (rw [if_pos (by decide +kernel)]; kernel_rfl) | (rw [if_neg (by decide +kernel)]; exact ⟨rfl, rfl⟩))
    (fun os started H enc _ => columnNames_lifted os started H enc)

#print axioms columnNames_holds
end Go.Proofs.YtdhdhcllgkddnaaGreat
