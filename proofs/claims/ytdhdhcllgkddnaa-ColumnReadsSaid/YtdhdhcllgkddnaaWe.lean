/-
  ColumnReads: ReadInts returns the numbers, length or error that the reference's ReadInts returns, for all bytes and for encodings that were changed at one place: the law answers true whatever the input, and each argument reads behind the call as it read before.
-/
import Derived.Test.YtdhdhcllgkddnaaRows
import Derived.Test.YtdhdhcllgkddnaaWv
import Derived.Test.YtdhdhcllgkddnaaWt
namespace Go.Proofs.Ytdhdhcllgkddnaa
open Go.ChangeShapes Go.WideShapes Go.ChangeAt Go.RowKit
open Va

theorem Try.own : ownKnob Try.prog.godebug = none := by kernel_rfl
theorem Try.laidOut : laidOutB Try.prog = true := by kernel_rfl

set_option maxRecDepth 100000 in
theorem columnReads_lifted (os : Os) (started : os.Started) (H : Type) (enc : TypeId × Value → H) :
    ReturnsInHanded {} Try.checked os 5 .any (Rows.columnReadsSpec.pre6 enc Try.prog Try.f5 Rows.columnReadsRow.domain false) (Rows.columnReadsSpec.post enc Try.prog Try.f5 false true false false) := by
  refine returnsInHanded_of_change (C := Try.checked) Try.own started (by kernel_rfl) Try.func5
    (ChangeSpec.witness6 (enc := enc) (C := Try.checked) false ⟨#[], #[.slice none 0 0, .slice none 0 0, .int .u8 0, .int .u16 0, .int .u16 0, .int .u8 0], []⟩ 8 (by kernel_rfl) (by kernel_rfl) (by kernel_rfl) (by kernel_rfl)) ?_
  intro W base args ds gs before hval0 hW hcnd _
  have hval : ∀ (j : Nat) t v, Try.f5.params[j]? = some t → args[j]? = some v → Value.okWide Try.prog W .any base t v := hval0
  have hW' := hW
  obtain ⟨p, q, hA0, hV, rfl, hfz, hnd⟩ := hW
  have hA : DataW.TrodAll enc Try.prog W 0 (fun _ => true) true Try.f5.params.toList args.toList ds p := hA0
  rw [Try.params5] at hA hval
  obtain ⟨v0, v1, v2, v3, v4, v5, d0, d1, d2, d3, d4, d5, p0, p1, p2, p3, p4, p5, rfl, rfl, rfl, h0, h1, h2, h3, h4, h5⟩ := trodAll_six hA
  obtain ⟨rfl, rfl⟩ := trodVars_none hV
  simp only [List.append_nil] at hW'
  have hlt : ∀ x ∈ p0 ++ p1 ++ p2 ++ p3 ++ p4 ++ p5, x.block < W.heap.size := fun x hx => by have := hW'.lt x (by simpa using hx); simpa using this
  obtain ⟨a0, n0, c0, rfl⟩ := okWide_slice Try.underlying26 (hval 0 26 v0 rfl rfl)
  obtain ⟨b0, r0⟩ := rv_bytes Try.underlying26 Try.underlying5 (by kernel_rfl) rfl h0
  obtain ⟨a1, n1, c1, rfl⟩ := okWide_slice Try.underlying23 (hval 1 23 v1 rfl rfl)
  obtain ⟨l1, hl1, r1, _⟩ := rv_ints Try.underlying23 Try.underlying42 (by kernel_rfl) rfl h1
  obtain ⟨x2, rfl, hd2, hp2, w2⟩ := open_int Try.underlying5 (hval 2 5 v2 rfl rfl) h2
  have i2 := wf_u8 w2
  obtain ⟨x3, rfl, hd3, hp3, w3⟩ := open_int Try.underlying32 (hval 3 32 v3 rfl rfl) h3
  have i3 := wf_u16 w3
  obtain ⟨x4, rfl, hd4, hp4, w4⟩ := open_int Try.underlying32 (hval 4 32 v4 rfl rfl) h4
  have i4 := wf_u16 w4
  obtain ⟨x5, rfl, hd5, hp5, w5⟩ := open_int Try.underlying5 (hval 5 5 v5 rfl rfl) h5
  have i5 := wf_u8 w5
  refine (sound_law flagstonelaw31_ColumnReads_ok (flagstonelaw31_ColumnReads_eq' (b := b0) (l := l1) (kind := x2) (how := x4) i3 i5) (.rd r0 (.rd r1 (.rd (.int .u8 x2) (.rd (.int .u16 x3) (.rd (.int .u16 x4) (.rd (.int .u8 x5) .nil))))))).mono fun e W' ⟨he, hb⟩ => ?_
  subst he
  have k0 := Below.trod Try.laidOut (by kernel_rfl) (of_decide_eq_true (by kernel_rfl)) h0 hb fun x hx => hlt x (by simp [hx])
  have k1 := Below.trod Try.laidOut (by kernel_rfl) (of_decide_eq_true (by kernel_rfl)) h1 hb fun x hx => hlt x (by simp [hx])
  have k2 := Below.trod Try.laidOut (by kernel_rfl) (of_decide_eq_true (by kernel_rfl)) h2 hb fun x hx => hlt x (by simp [hx])
  have k3 := Below.trod Try.laidOut (by kernel_rfl) (of_decide_eq_true (by kernel_rfl)) h3 hb fun x hx => hlt x (by simp [hx])
  have k4 := Below.trod Try.laidOut (by kernel_rfl) (of_decide_eq_true (by kernel_rfl)) h4 hb fun x hx => hlt x (by simp [hx])
  have k5 := Below.trod Try.laidOut (by kernel_rfl) (of_decide_eq_true (by kernel_rfl)) h5 hb fun x hx => hlt x (by simp [hx])
  exact ⟨_, rfl, ⟨_, _, _, [], _, [], hW', trodAll_mk1 (shut_bool Try.underlying4 _), trodAll_mk6 k0 k1 k2 k3 k4 k5, rfl, hb.frame _, fun h => by cases h⟩⟩

theorem columnReads_holds : Rows.ColumnReadsSaid :=
  OpenClaim.holds_of_wide 5 Try.f5 rfl rfl rfl rfl rfl rfl rfl ⟨rfl, rfl, rfl, rfl, rfl⟩ rfl rfl rfl rfl rfl (by kernel_rfl) Try.func5 (by kernel_rfl)
    (of_decide_eq_true (by kernel_rfl)) (by unfold Func.isWrapper; first | (rw [if_pos (by decide +kernel)]; kernel_rfl) | (rw [if_neg (by decide +kernel)]; exact ⟨rfl, rfl⟩))
    (fun os started H enc _ => columnReads_lifted os started H enc)

#print axioms columnReads_holds
end Go.Proofs.Ytdhdhcllgkddnaa
