/-
  ColumnRoundTrip: numbers are read as they were encoded, whatever follows, and an encoding is short: the law answers true whatever the input, and each argument reads behind the call as it read before.
-/
import Derived.Test.YtdhdhcllgkddnaaRows
import Derived.Test.YtdhdhcllgkddnaaWv
import Derived.Test.YtdhdhcllgkddnaaWt
namespace Go.Proofs.Ytdhdhcllgkddnaa
open Go.ChangeShapes Go.WideShapes Go.ChangeAt Go.RowKit
open Va

theorem Try.own : ownKnob Try.prog.godebug = none := by kernel_rfl
theorem Try.laidOut : laidOutB Try.prog = true := by kernel_rfl

set_option maxRecDepth 100000 in
theorem columnRoundTrip_lifted (os : Os) (started : os.Started) (H : Type) (enc : TypeId × Value → H) :
    ReturnsInHanded {} Try.checked os 6 .any (Rows.columnRoundTripSpec.pre6 enc Try.prog Try.f6 Rows.columnRoundTripRow.domain false) (Rows.columnRoundTripSpec.post enc Try.prog Try.f6 false true false false) := by
  refine returnsInHanded_of_change (C := Try.checked) Try.own started (by kernel_rfl) Try.func6
    (ChangeSpec.witness6 (enc := enc) (C := Try.checked) false ⟨#[], #[.slice none 0 0, .slice none 0 0, .int .u8 0, .slice none 0 0], []⟩ 8 (by kernel_rfl) (by kernel_rfl) (by kernel_rfl) (by kernel_rfl)) ?_
  intro W base args ds gs before hval0 hW hcnd _
  have hval : ∀ (j : Nat) t v, Try.f6.params[j]? = some t → args[j]? = some v → Value.okWide Try.prog W .any base t v := hval0
  have hW' := hW
  obtain ⟨p, q, hA0, hV, rfl, hfz, hnd⟩ := hW
  have hA : DataW.TrodAll enc Try.prog W 0 (fun _ => true) true Try.f6.params.toList args.toList ds p := hA0
  rw [Try.params6] at hA hval
  obtain ⟨v0, v1, v2, v3, d0, d1, d2, d3, p0, p1, p2, p3, rfl, rfl, rfl, h0, h1, h2, h3⟩ := trodAll_four hA
  obtain ⟨rfl, rfl⟩ := trodVars_none hV
  simp only [List.append_nil] at hW'
  have hlt : ∀ x ∈ p0 ++ p1 ++ p2 ++ p3, x.block < W.heap.size := fun x hx => by have := hW'.lt x (by simpa using hx); simpa using this
  obtain ⟨a0, n0, c0, rfl⟩ := okWide_slice Try.underlying22 (hval 0 22 v0 rfl rfl)
  obtain ⟨l0, hl0, r0, _⟩ := rv_ints Try.underlying22 Try.underlying3 (by kernel_rfl) rfl h0
  have hl0 : ∀ x ∈ l0, I64 x := fun x hx => wf_i64 (hl0 x hx)
  obtain ⟨a1, n1, c1, rfl⟩ := okWide_slice Try.underlying23 (hval 1 23 v1 rfl rfl)
  obtain ⟨l1, hl1, r1, _⟩ := rv_ints Try.underlying23 Try.underlying42 (by kernel_rfl) rfl h1
  obtain ⟨x2, rfl, hd2, hp2, w2⟩ := open_int Try.underlying5 (hval 2 5 v2 rfl rfl) h2
  have i2 := wf_u8 w2
  obtain ⟨a3, n3, c3, rfl⟩ := okWide_slice Try.underlying26 (hval 3 26 v3 rfl rfl)
  obtain ⟨b3, r3⟩ := rv_bytes Try.underlying26 Try.underlying5 (by kernel_rfl) rfl h3
  refine (sound_law flagstonelaw31_ColumnRoundTrip_ok (flagstonelaw31_ColumnRoundTrip_eq' (m := l1) (kind := x2) (more := b3) hl0) (.rd r0 (.rd r1 (.rd (.int .u8 x2) (.rd r3 .nil))))).mono fun e W' ⟨he, hb⟩ => ?_
  subst he
  have k0 := Below.trod Try.laidOut (by kernel_rfl) (of_decide_eq_true (by kernel_rfl)) h0 hb fun x hx => hlt x (by simp [hx])
  have k1 := Below.trod Try.laidOut (by kernel_rfl) (of_decide_eq_true (by kernel_rfl)) h1 hb fun x hx => hlt x (by simp [hx])
  have k2 := Below.trod Try.laidOut (by kernel_rfl) (of_decide_eq_true (by kernel_rfl)) h2 hb fun x hx => hlt x (by simp [hx])
  have k3 := Below.trod Try.laidOut (by kernel_rfl) (of_decide_eq_true (by kernel_rfl)) h3 hb fun x hx => hlt x (by simp [hx])
  exact ⟨_, rfl, ⟨_, _, _, [], _, [], hW', trodAll_mk1 (shut_bool Try.underlying4 _), trodAll_mk4 k0 k1 k2 k3, rfl, hb.frame _, fun h => by cases h⟩⟩

theorem columnRoundTrip_holds : Rows.ColumnRoundTripSaid :=
  OpenClaim.holds_of_wide 6 Try.f6 rfl rfl rfl rfl rfl rfl rfl ⟨rfl, rfl, rfl, rfl, rfl⟩ rfl rfl rfl rfl rfl (by kernel_rfl) Try.func6 (by kernel_rfl)
    (of_decide_eq_true (by kernel_rfl)) (by unfold Func.isWrapper; first | (rw [if_pos (by decide +kernel)]; kernel_rfl) | (rw [if_neg (by decide +kernel)]; exact ⟨rfl, rfl⟩))
    (fun os started H enc _ => columnRoundTrip_lifted os started H enc)

#print axioms columnRoundTrip_holds
end Go.Proofs.Ytdhdhcllgkddnaa
