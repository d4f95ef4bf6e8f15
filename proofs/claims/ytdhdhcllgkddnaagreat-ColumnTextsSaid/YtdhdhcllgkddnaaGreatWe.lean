/-
  ColumnTexts: Texts and ReadTexts return what the reference's return, and texts are read as they were encoded: the law answers true whatever the input, and each argument reads behind the call as it read before.
-/
import Derived.Test.YtdhdhcllgkddnaaGreatRows
import Derived.Test.YtdhdhcllgkddnaaGreatWv
import Derived.Test.YtdhdhcllgkddnaaGreatWy
namespace Go.Proofs.YtdhdhcllgkddnaaGreat
open Go.ChangeShapes Go.WideShapes Go.ChangeAt Go.RowKit
open Va

theorem Tryz.own : ownKnob Tryz.prog.godebug = none := by kernel_rfl
theorem Tryz.laidOut : laidOutB Tryz.prog = true := by kernel_rfl

set_option maxRecDepth 100000 in
theorem columnTexts_lifted (os : Os) (started : os.Started) (H : Type) (enc : TypeId × Value → H) :
    ReturnsInHanded {} Tryz.checked os 3 .any (Rows.columnTextsSpec.pre6 enc Tryz.prog Tryz.f3 Rows.columnTextsRow.domain false) (Rows.columnTextsSpec.post enc Tryz.prog Tryz.f3 false true false false) := by
  refine returnsInHanded_of_change (C := Tryz.checked) Tryz.own started (by kernel_rfl) Tryz.func3
    (ChangeSpec.witness6 (enc := enc) (C := Tryz.checked) false ⟨#[], #[.slice none 0 0, .slice none 0 0, .slice none 0 0, .int .u16 0, .int .u16 0, .int .u8 0], []⟩ 8 (by kernel_rfl) (by kernel_rfl) (by kernel_rfl) (by kernel_rfl)) ?_
  intro W base args ds gs before hval0 hW hcnd _
  have hval : ∀ (j : Nat) t v, Tryz.f3.params[j]? = some t → args[j]? = some v → Value.okWide Tryz.prog W .any base t v := hval0
  have hW' := hW
  obtain ⟨p, q, hA0, hV, rfl, hfz, hnd⟩ := hW
  have hA : DataW.TrodAll enc Tryz.prog W 0 (fun _ => true) true Tryz.f3.params.toList args.toList ds p := hA0
  rw [Tryz.params3] at hA hval
  obtain ⟨v0, v1, v2, v3, v4, v5, d0, d1, d2, d3, d4, d5, p0, p1, p2, p3, p4, p5, rfl, rfl, rfl, h0, h1, h2, h3, h4, h5⟩ := trodAll_six hA
  obtain ⟨rfl, rfl⟩ := trodVars_none hV
  simp only [List.append_nil] at hW'
  have hlt : ∀ x ∈ p0 ++ p1 ++ p2 ++ p3 ++ p4 ++ p5, x.block < W.heap.size := fun x hx => by have := hW'.lt x (by simpa using hx); simpa using this
  obtain ⟨a0, n0, c0, rfl⟩ := okWide_slice Tryz.underlying22 (hval 0 22 v0 rfl rfl)
  obtain ⟨l0, hl0, r0⟩ := rv_strs Tryz.underlying22 Tryz.underlying9 (by kernel_rfl) rfl h0
  obtain ⟨a1, n1, c1, rfl⟩ := okWide_slice Tryz.underlying23 (hval 1 23 v1 rfl rfl)
  obtain ⟨b1, r1⟩ := rv_bytes Tryz.underlying23 Tryz.underlying5 (by kernel_rfl) rfl h1
  obtain ⟨a2, n2, c2, rfl⟩ := okWide_slice Tryz.underlying23 (hval 2 23 v2 rfl rfl)
  obtain ⟨b2, r2⟩ := rv_bytes Tryz.underlying23 Tryz.underlying5 (by kernel_rfl) rfl h2
  obtain ⟨x3, rfl, hd3, hp3, w3⟩ := open_int Tryz.underlying24 (hval 3 24 v3 rfl rfl) h3
  have i3 := wf_u16 w3
  obtain ⟨x4, rfl, hd4, hp4, w4⟩ := open_int Tryz.underlying24 (hval 4 24 v4 rfl rfl) h4
  have i4 := wf_u16 w4
  obtain ⟨x5, rfl, hd5, hp5, w5⟩ := open_int Tryz.underlying5 (hval 5 5 v5 rfl rfl) h5
  have i5 := wf_u8 w5
  refine (sound_law flagstonelaw31_ColumnTexts_ok (flagstonelaw31_ColumnTexts_eq' (l := l0) (b := b1) (more := b2) (how := x4) i3 i5) (.rd r0 (.rd r1 (.rd r2 (.rd (.int .u16 x3) (.rd (.int .u16 x4) (.rd (.int .u8 x5) .nil))))))).mono fun e W' ⟨he, hb⟩ => ?_
  subst he
  have k0 := Below.trod Tryz.laidOut (by kernel_rfl) (of_decide_eq_true (by kernel_rfl)) h0 hb fun x hx => hlt x (by simp [hx])
  have k1 := Below.trod Tryz.laidOut (by kernel_rfl) (of_decide_eq_true (by kernel_rfl)) h1 hb fun x hx => hlt x (by simp [hx])
  have k2 := Below.trod Tryz.laidOut (by kernel_rfl) (of_decide_eq_true (by kernel_rfl)) h2 hb fun x hx => hlt x (by simp [hx])
  have k3 := Below.trod Tryz.laidOut (by kernel_rfl) (of_decide_eq_true (by kernel_rfl)) h3 hb fun x hx => hlt x (by simp [hx])
  have k4 := Below.trod Tryz.laidOut (by kernel_rfl) (of_decide_eq_true (by kernel_rfl)) h4 hb fun x hx => hlt x (by simp [hx])
  have k5 := Below.trod Tryz.laidOut (by kernel_rfl) (of_decide_eq_true (by kernel_rfl)) h5 hb fun x hx => hlt x (by simp [hx])
  exact ⟨_, rfl, ⟨_, _, _, [], _, [], hW', trodAll_mk1 (shut_bool Tryz.underlying4 _), trodAll_mk6 k0 k1 k2 k3 k4 k5, rfl, hb.frame _, fun h => by cases h⟩⟩

theorem columnTexts_holds : Rows.ColumnTextsSaid :=
  OpenClaim.holds_of_wide 3 Tryz.f3 rfl rfl rfl rfl rfl rfl rfl ⟨rfl, rfl, rfl, rfl, rfl⟩ rfl rfl rfl rfl rfl (by kernel_rfl) Tryz.func3 (by kernel_rfl)
    (of_decide_eq_true (by kernel_rfl)) (by unfold Func.isWrapper; first | (rw [if_pos (by decide +kernel)]; kernel_rfl) | (rw [if_neg (by decide +kernel)]; exact ⟨rfl, rfl⟩))
    (fun os started H enc _ => columnTexts_lifted os started H enc)

#print axioms columnTexts_holds
end Go.Proofs.YtdhdhcllgkddnaaGreat
