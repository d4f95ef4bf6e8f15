/-
  A semantics of the program's code over values, without memory (2): calls, drawn regions, whole code, integers.
-/
import Derived.Test.YtdhdhcllgkddnaaGreatWa1
namespace Go.Proofs.YtdhdhcllgkddnaaGreat.Va
open Go Go.RowKit

variable {O : Org} {S S' : St} {n : Nat} {a : Act} {w w' : World} {F F' : Nat → Prop} {L L' : Lay} {P : Program} {m : Nat → RS}

theorem OwnRow.swap {sz : Nat} {els : List V} {v : Value} {κ g : Nat} (h : OwnRow w F sz els v κ g) (hF : ∀ b, F b → F' b) (hg : F' g → F g) : OwnRow w F' sz els v κ g := by
  refine ⟨h.le, h.max, h.sizes, ?_⟩
  rcases h.place with h1 | ⟨h1, h2, h3, cur, ty, h4, h5, h6⟩
  · exact .inl h1
  · exact .inr ⟨h1, h2, fun hf => h3 (hg hf), cur, ty, h4, h5, fun i c x y hx hy => by
      obtain ⟨u, u1, u2, u3⟩ := h6 i c x y hx hy
      exact ⟨u, u1, u2, u3.mono (Keeps.refl _ _) hF⟩⟩

theorem VCells.mono' {cs : List V} {us : List Value} (h : VCells w F cs us) (hF : ∀ b, F b → F' b) : VCells w F' cs us :=
  ⟨h.len, fun j y u hy hu => ⟨(h.at_ j y u hy hu).1.mono (Keeps.refl _ _) hF, (h.at_ j y u hy hu).2⟩⟩

theorem pack_ok {ds : List D} {vs : List Value} (hl : ds.length = vs.length) (hr : ∀ (i : Nat) (d : D) (v : Value), ds[i]? = some d → vs[i]? = some v → RD w F m L d v) : RD w F m L (packD ds) (packV vs) := by
  match ds, vs, hl with
  | [], [], _ => exact .tup [] [] rfl hr
  | [d], [v], _ => exact hr 0 d v rfl rfl
  | d :: e :: ds, v :: u :: vs, hl => exact .tup _ _ hl hr

theorem setM_put (S : St) (l : List (Nat × RS)) (dst : Option Nat) (d : D) : (S.setM l).put dst d = (S.put dst d).setM l := by
  cases l <;> cases dst <;> rfl

theorem blk_newOk {r : Nat} {reg reg' : Reg} (h : NewOk w F L r reg reg') : blk L r reg' = blk L r reg := by
  obtain ⟨h1, h2, _, h3⟩ := h
  obtain ⟨body, fz⟩ := reg
  obtain ⟨body', fz'⟩ := reg'
  simp only at h1 h2 h3
  subst h1; subst h2
  rcases h3 with ⟨sz, els, els', rfl, rfl, _⟩ | ⟨cs, cs', rfl, rfl⟩ <;> rfl

theorem upd_kill {m m0 : Nat → RS} {r : Nat} : ∀ {ks : List Nat}, upd m (ks.map (killReg m0)) r = if r ∈ ks then ⟨(m0 r).gen, none⟩ else m r
  | [] => by simp
  | k :: ks => by
    simp only [List.map_cons, killReg, upd_cons]
    by_cases h : r = k
    · subst h; simp
    · rw [if_neg h, upd_kill (m := m) (m0 := m0) (r := r) (ks := ks)]
      simp [h]

theorem Sim.killAll {m0 : Nat → RS} (h : Sim O S n a w F L) (hg : ∀ r, (m0 r).gen = (S.m r).gen) : ∀ ks : List Nat, Sim O (S.setM (ks.map (killReg m0))) n a w F L
  | [] => h
  | k :: ks => by
    have h1 := (h.killAll hg ks).kill k
    rw [setM_setM] at h1
    have e : killReg (S.setM (ks.map (killReg m0))).m k = killReg m0 k := by
      simp only [killReg, setM_m]
      rw [upd_kill (m0 := m0)]
      split
      · rfl
      · rw [hg]
    rw [e] at h1
    exact h1

theorem call_base {Sb : St} {Fb Fe : Nat → Prop} {up0 up new : List (Nat × RS)} {modes : List Mode} {res : List RK} {ds ds' : List D} {vs vs' : List Value} {xs ys zs : List V} {rs ws ks M T : List Nat} {dst : Nat}
    (h : Sim O S n a w F L) (hb : Sim O Sb n a w Fb L) (hSb : Sb = S.setM up0) (hgen : ∀ r, (Sb.m r).gen = (S.m r).gen) (hsame : ∀ r, r ∈ ws ∨ r ∈ ks → Sb.m r = S.m r) (hl : ds.length = vs.length)
    (hr : ∀ (i : Nat) (d : D) (v : Value), ds[i]? = some d → vs[i]? = some v → RD w F S.m L d v) (hargs : argsOf S.m modes ds = some (xs, rs, ws, ks)) (ht : dst < n) (hnd : (ws ++ ks).Nodup) (hdw : dst ∉ ws)
    (hMb : ∀ b ∈ M, ∃ r, (r ∈ ws ∨ r ∈ ks) ∧ ∃ reg, (S.m r).reg = some reg ∧ blk L r reg = some b) (hTb : ∀ b ∈ T, ∃ r ∈ ks, ∃ reg, (S.m r).reg = some reg ∧ blk L r reg = some b)
    (hos : w'.os = w.os) (htape : w'.tape = w.tape) (hout : w'.output = w.output) (hsz : w.heap.size ≤ w'.heap.size) (hold : ∀ b, b < w.heap.size → b ∉ M → w'.heap[b]? = w.heap[b]?)
    (hFF : ∀ b, Fb b → Fe b) (hFold : ∀ b, Fe b → b < w.heap.size → b ∉ T → Fb b) (hFlt : ∀ b, Fe b → b < w'.heap.size) (hIos : IosOk w' Fe modes xs vs zs) (hRes : ResOk w' Fe (fun b => w.heap.size ≤ b ∨ b ∈ T) res ys vs')
    (hios : iosOf S.m ws zs = some up) (hres : resOf S.m dst res ys = some (ds', new)) :
    ∃ L', Sim O (S.app (some dst) ⟨packD ds', new ++ (up ++ (ks.map (killReg S.m) ++ up0))⟩) n (a.put (some dst) (packV vs')) w' Fe L' := by
  have hk := hb.killAll (m0 := S.m) (fun r => (hgen r).symm) ks
  obtain ⟨Sk, hSk⟩ : ∃ Sk, Sk = Sb.setM (ks.map (killReg S.m)) := ⟨_, rfl⟩
  rw [← hSk] at hk
  have hkm : ∀ r, Sk.m r = if r ∈ ks then ⟨(S.m r).gen, none⟩ else Sb.m r := fun r => by rw [hSk, setM_m, upd_kill]
  have hdisj : ∀ r ∈ ws, r ∉ ks := fun r hr hr' => (List.nodup_append.1 hnd).2.2 r hr r hr' rfl
  have hws : ∀ r ∈ ws, Sk.m r = S.m r := fun r hr => by rw [hkm, if_neg (hdisj r hr)]; exact hsame r (.inl hr)
  have hkgen : ∀ r, (Sk.m r).gen = (S.m r).gen := fun r => by rw [hkm]; split; rfl; exact hgen r
  have hkreg : ∀ r reg, (Sk.m r).reg = some reg → r ∉ ks ∧ (Sb.m r).reg = some reg := fun r reg hreg => by
    rw [hkm] at hreg
    split at hreg
    · cases hreg
    · rename_i hn
      exact ⟨hn, hreg⟩
  obtain ⟨i1, i2, i3⟩ := ios_ok (w' := w') (F' := Fe) h modes ds vs xs rs ws ks zs up hl hr hargs hnd hIos hios
  have hold1 : ∀ r reg', ((Sk.setM up).m r).reg = some reg' → ∃ reg, (Sk.m r).reg = some reg ∧ blk L r reg' = blk L r reg ∧ (r ∉ ws → reg = reg') := fun r reg' hreg => by
    rw [setM_m] at hreg
    by_cases hw : r ∈ ws
    · obtain ⟨reg, reg2, k1, k2, k3⟩ := i1 r hw
      rw [i3 r hw, k2] at hreg
      simp only [Option.some.injEq] at hreg
      subst hreg
      exact ⟨reg, by rw [hws r hw]; exact k1, blk_newOk k3, fun hn => absurd hw hn⟩
    · rw [i2 r hw] at hreg
      exact ⟨reg', hreg, rfl, fun _ => rfl⟩
  have hMin : ∀ r reg b, (Sk.m r).reg = some reg → blk L r reg = some b → b ∈ M → r ∈ ws := fun r reg b hreg hbk hM => by
    obtain ⟨r', hr', reg', hreg', hb'⟩ := hMb b hM
    obtain ⟨hnk, hreg1⟩ := hkreg r reg hreg
    have h2 : (Sb.m r').reg = some reg' := by rw [hsame r' hr']; exact hreg'
    have := hb.inj r r' reg reg' b hreg1 h2 hbk hb'
    subst this
    exact hr'.resolve_right hnk
  have hTin : ∀ r reg b, (Sk.m r).reg = some reg → blk L r reg = some b → b ∉ T := fun r reg b hreg hbk hT => by
    obtain ⟨r', hr', reg', hreg', hb'⟩ := hTb b hT
    obtain ⟨hnk, hreg1⟩ := hkreg r reg hreg
    have h2 : (Sb.m r').reg = some reg' := by rw [hsame r' (.inr hr')]; exact hreg'
    have := hb.inj r r' reg reg' b hreg1 h2 hbk hb'
    subst this
    exact hnk hr'
  have h2 : Sim O (Sk.setM up) n a w' Fe L := by
    refine Sim.step hk (fun b => b ∈ M) (fun b => b ∈ T) (by simp) hos htape hout hsz (fun b hb hx => hold b hb hx) (fun b hbM => ?_) (fun b hbM hlt => ?_) hFF
      (fun b hbF => ?_) hFlt (fun b hbT hlt => ?_) ⟨fun r => ?_, fun r g' reg' sz els' hg hlv hbd => ?_, fun r g' reg' cs' hg hlv hbd => ?_⟩ (fun r reg' hreg => ?_) (fun r reg' b hreg hbk hlt => ?_) fun r r' reg reg' b hreg hreg' hbk hbk' => ?_
    · obtain ⟨r, hr, reg, hreg, hbk⟩ := hMb b hbM
      exact blk_not_F (hb.regs r reg (by rw [hsame r hr]; exact hreg)) hbk
    · obtain ⟨r, hr, reg, hreg, hbk⟩ := hMb b hbM
      exact h.mine r reg b hreg hbk hlt
    · by_cases hlt : b < w.heap.size
      · by_cases hT : b ∈ T
        · exact .inr (.inl hT)
        · exact .inl (hFold b hbF hlt hT)
      · exact .inr (.inr (Nat.le_of_not_lt hlt))
    · obtain ⟨r, hr, reg, hreg, hbk⟩ := hTb b hbT
      exact h.mine r reg b hreg hbk hlt
    · rw [setM_m up]
      by_cases hw : r ∈ ws
      · obtain ⟨reg, reg2, k1, k2, k3⟩ := i1 r hw
        rw [i3 r hw, k2, hws r hw]; exact Nat.le_refl _
      · rw [i2 r hw]; exact Nat.le_refl _
    · rw [setM_m up] at hlv
      by_cases hw : r ∈ ws
      · obtain ⟨reg, reg2, k1, k2, k3⟩ := i1 r hw
        have hlv' := live_reg hlv
        rw [i3 r hw, k2] at hlv'
        simp only [Option.some.injEq] at hlv'
        obtain ⟨hg', rfl⟩ := hlv'
        have hlv1 : live Sk.m r g' = some reg := by unfold live; rw [hws r hw, if_pos hg', k1]
        obtain ⟨_, _, _, k4⟩ := k3
        rcases k4 with ⟨sz0, els, els0, k5, k6, k7⟩ | ⟨cs, cs0, k5, k6⟩
        · rw [hbd] at k6
          cases k6
          have hle := h.rowLe k1 k5
          exact ⟨reg, els, hlv1, k5, by omega, by omega, rfl, rfl⟩
        · rw [hbd] at k6; cases k6
      · have hlv1 : live Sk.m r g' = some reg' := by unfold live at hlv ⊢; rw [i2 r hw] at hlv; exact hlv
        exact ⟨reg', els', hlv1, hbd, Nat.le_refl _, hk.rowLe (live_reg hlv1).2 hbd, rfl, rfl⟩
    · rw [setM_m up] at hlv
      by_cases hw : r ∈ ws
      · obtain ⟨reg, reg2, k1, k2, k3⟩ := i1 r hw
        have hlv' := live_reg hlv
        rw [i3 r hw, k2] at hlv'
        simp only [Option.some.injEq] at hlv'
        obtain ⟨hg', rfl⟩ := hlv'
        have hlv1 : live Sk.m r g' = some reg := by unfold live; rw [hws r hw, if_pos hg', k1]
        obtain ⟨_, _, _, k4⟩ := k3
        rcases k4 with ⟨sz0, els, els0, k5, k6, k7⟩ | ⟨cs, cs0, k5, k6⟩
        · rw [hbd] at k6; cases k6
        · exact ⟨reg, cs, hlv1, k5, rfl⟩
      · have hlv1 : live Sk.m r g' = some reg' := by unfold live at hlv ⊢; rw [i2 r hw] at hlv; exact hlv
        exact ⟨reg', cs', hlv1, hbd, rfl⟩
    · by_cases hw : r ∈ ws
      · obtain ⟨reg, reg2, k1, k2, k3⟩ := i1 r hw
        rw [setM_m up, i3 r hw, k2] at hreg
        simp only [Option.some.injEq] at hreg
        subst hreg
        exact .inl (k3.2.2.1 _)
      · obtain ⟨reg, k1, k2, k3⟩ := hold1 r reg' hreg
        have := k3 hw
        subst this
        exact .inr ⟨k1, rfl, rfl, fun b hbk => ⟨fun hM => hw (hMin r _ b k1 hbk hM), hTin r _ b k1 hbk⟩⟩
    · obtain ⟨reg, k1, k2, _⟩ := hold1 r reg' hreg
      exact hk.mine r reg b k1 (k2 ▸ hbk) hlt
    · obtain ⟨reg1, k1, k2, _⟩ := hold1 r reg hreg
      obtain ⟨reg2, j1, j2, _⟩ := hold1 r' reg' hreg'
      exact hk.inj r r' reg1 reg2 b k1 j1 (k2 ▸ hbk) (j2 ▸ hbk')
  have hgen2 : ((Sk.setM up).m dst).gen = (S.m dst).gen := by
    rw [setM_m up, i2 dst hdw]; exact hkgen dst
  obtain ⟨L2, h3, hl3, hr3, _⟩ := res_ok (m := S.m) (N := fun b => w.heap.size ≤ b ∨ b ∈ T) h2 (fun r reg' b hreg hbk hN => by
      obtain ⟨reg, k1, k2, _⟩ := hold1 r reg' hreg
      rcases hN with hN | hN
      · exact absurd (blk_lt (hk.regs r reg k1) (k2 ▸ hbk)) (Nat.not_lt.2 hN)
      · exact hTin r reg b k1 (k2 ▸ hbk) hN) (fun b hN hlt => by
      rcases hN with hN | hN
      · have := h.size0; omega
      · obtain ⟨r, hr, reg, hreg, hbk⟩ := hTb b hN
        exact h.mine r reg b hreg hbk hlt) hgen2 res ys vs' ds' new hRes hres
  refine ⟨L2, ?_⟩
  have h4 := h3.put ht (pack_ok hl3 hr3)
  rw [hSk, hSb, setM_setM, setM_setM, setM_setM, setM_put, List.append_assoc, List.append_assoc] at h4
  exact h4

theorem Sim.call (h : Sim O S n a w F L) {dst : Nat} (ht : dst < n) {s : Spec} {f : FuncId} (hs : Sound P f s) {ds : List D} {vs : List Value} (hl : ds.length = vs.length)
    (hr : ∀ (i : Nat) (d : D) (v : Value), ds[i]? = some d → vs[i]? = some v → RD w F S.m L d v) {E : Eff} (he : effCall S.m dst s ds = some E) :
    Calls P f vs.toArray w fun e w' => ∃ v F' L', e = .returned v ∧ Sim O (S.app (some dst) E) n (a.put (some dst) v) w' F' L' := by
  unfold effCall at he
  split at he
  · cases he
  rename_i xs rs ws ks hargs
  split at he
  rotate_left
  · cases he
  rename_i hcond
  obtain ⟨hnd, hwr, hdw⟩ := hcond
  split at he
  · cases he
  rename_i ys zs hfn
  split at he
  rotate_left
  · cases he
  rename_i up ds' new hios hres
  simp only [Option.some.injEq] at he
  subst he
  obtain ⟨F1, h1, hF1, hc1, hg1, hb1, hn1⟩ := h.freezeAll rs
  have hsame : ∀ r, r ∈ ws ∨ r ∈ ks → (S.setM (Va.freezeAll S.m rs)).m r = S.m r := fun r hr => by rw [setM_m]; exact hn1 r (hwr r (List.mem_append.2 hr))
  obtain ⟨M, T, ha, hMn, hMb, hTb⟩ := args_ok h hF1 s.modes ds vs xs rs ws ks hl hr hargs hc1 hnd fun r hr reg b hreg hb => by
    have hreg' : ((S.setM (Va.freezeAll S.m rs)).m r).reg = some reg := by rw [hsame r hr]; exact hreg
    exact blk_not_F (h1.regs r reg hreg') hb
  have hMok : ∀ b ∈ M, ¬ F1 b ∧ b < w.heap.size := fun b hb => by
    obtain ⟨r, hr, reg, hreg, hbk⟩ := hMb b hb
    have hreg' : ((S.setM (Va.freezeAll S.m rs)).m r).reg = some reg := by rw [hsame r hr]; exact hreg
    exact ⟨blk_not_F (h1.regs r reg hreg') hbk, blk_lt (h1.regs r reg hreg') hbk⟩
  refine Calls.mono (hs.2 xs ys zs hfn w F1 vs M T h1.Flt hMok hMn ha) ?_
  rintro e w' ⟨vs', F', rfl, hos, htape, hout, hsz, hold, hFF, hFold, hFlt, hIos, hRes, hFresh⟩
  by_cases hf : s.fresh = true
  · obtain ⟨hI2, hR2⟩ := hFresh hf (fun b => F b ∨ (F' b ∧ (w.heap.size ≤ b ∨ b ∈ T))) (fun b h1 h2 => .inr ⟨h1, h2⟩) (fun b hb => hb.elim (fun h1 => hFF b (hF1 b h1)) (·.1))
    obtain ⟨L2, h3⟩ := call_base (up0 := []) h h rfl (fun _ => rfl) (fun _ _ => rfl) hl hr hargs ht hnd hdw hMb hTb hos htape hout hsz hold (fun b hb => .inl hb)
      (fun b hb hlt hT => hb.elim id fun hb => (hb.2.elim (fun h2 => absurd hlt (Nat.not_lt.2 h2)) fun h2 => absurd h2 hT)) (fun b hb => hb.elim (fun hb => Nat.lt_of_lt_of_le (h.Flt b hb) hsz) fun hb => hFlt b hb.1) hI2 hR2 hios hres
    exact ⟨_, _, L2, rfl, by simpa [hf] using h3⟩
  · obtain ⟨L2, h3⟩ := call_base (up0 := Va.freezeAll S.m rs) h h1 rfl (fun r => by rw [setM_m]; exact hg1 r) hsame hl hr hargs ht hnd hdw hMb hTb hos htape hout hsz hold hFF hFold hFlt hIos hRes hios hres
    exact ⟨_, _, L2, rfl, by simpa [hf] using h3⟩

end Go.Proofs.YtdhdhcllgkddnaaGreat.Va

namespace Go.Proofs.YtdhdhcllgkddnaaGreat.Va
open Go Go.RowKit

variable {O : Org} {S S' : St} {n : Nat} {a : Act} {w w' : World} {F F' : Nat → Prop} {L L' : Lay} {P : Program} {m : Nat → RS} {Γ : FuncId → Option Spec}

theorem run_value {s : Sem Value} {v : Value} (h : s.run P w = .ok v w') : (do pure (.value (← s)) : Sem Next).run P w = .ok (.value v) w' := by
  rw [Sem.run_bind, h]; rfl

theorem run_unit {s : Sem Unit} (h : s.run P w = .ok () w') : (do s; pure .skip : Sem Next).run P w = .ok .skip w' := by
  rw [Sem.run_bind, h]; rfl

/-- A step that turned the regions, then writes its slot. -/
theorem Sim.done {up : List (Nat × RS)} (h : Sim O (S.setM up) n a w F L) {dst : Option Nat} (ht : ∀ t, dst = some t → t < n) {d : D} {v : Value} (hd : RD w F (S.setM up).m L d v) : Sim O (S.app dst ⟨d, up⟩) n (a.put dst v) w F L := by
  have h4 := h.putO ht hd
  rw [setM_put] at h4
  exact h4

theorem foldInts_ok {f : Int → Int → Int} {g : Value → Value → Sem Value} (hg : ∀ k x k' y (w : World), (g (.int k x) (.int k' y)).run P w = .ok (.int k (f x y)) w) : ∀ (ds : List D) (vs : List Value) (k : IntKind) (i : Int) {z : V}, ds.length = vs.length →
    (∀ (j : Nat) (d : D) (v : Value), ds[j]? = some d → vs[j]? = some v → RD w F m L d v) →
    ds.foldlM (fun (acc : V) e => match acc, e with | .int k a, .v (.int k' b) => if k = k' then some (V.int k (f a b)) else none | _, _ => none) (.int k i) = some z →
    ∃ j, z = .int k j ∧ (vs.foldlM g (.int k i)).run P w = .ok (.int k j) w
  | [], vs, k, i, z, hl, hr, h => by
    have : vs = [] := List.eq_nil_of_length_eq_zero hl.symm
    subst this
    simp only [List.foldlM_nil, Option.pure_def, Option.some.injEq] at h
    exact ⟨i, h.symm, rfl⟩
  | d :: ds, vs, k, i, z, hl, hr, h => by
    cases vs with
    | nil => simp at hl
    | cons v vs =>
      simp only [List.foldlM_cons, Option.bind_eq_bind, Option.bind_eq_some_iff] at h
      obtain ⟨y, hy, hz⟩ := h
      split at hy
      · rename_i k1 a1 k' b hk
        cases hk
        split at hy
        · rename_i hkk
          subst hkk
          simp only [Option.some.injEq] at hy
          subst hy
          have hv := (hr 0 _ v rfl rfl).int_inv
          subst hv
          obtain ⟨j, h1, h2⟩ := foldInts_ok hg ds vs k _ (by simpa using hl) (fun j d v hd hv => hr (j + 1) d v (by simpa using hd) (by simpa using hv)) hz
          refine ⟨j, h1, ?_⟩
          rw [List.foldlM_cons, Sem.run_bind, hg]
          exact h2
        · cases hy
      · cases hy

theorem args_rd (h : Sim O S n a w F L) (xs : List Operand) : ∀ (i : Nat) (d : D) (v : Value), (xs.map S.ev)[i]? = some d → (xs.map a.eval)[i]? = some v → RD w F S.m L d v := by
  intro i d v hd hv
  simp only [List.getElem?_map, Option.map_eq_some_iff] at hd hv
  obtain ⟨x, hx, rfl⟩ := hd
  obtain ⟨y, hy, rfl⟩ := hv
  rw [hx] at hy
  cases hy
  exact h.ev x

theorem run_min (h : Sim O S n a w F L) {xs : List Operand} {z : V} (hz : foldInts (fun a b => if b < a then b else a) (xs.map S.ev) = some z) (ts : Array TypeId) (ty : TypeId) :
    ∃ k j, z = .int k j ∧ (Builtin.min_ ts ty (xs.map a.eval).toArray).run P w = .ok (.int k j) w := by
  cases xs with
  | nil => simp [foldInts] at hz
  | cons x xs =>
    simp only [List.map_cons, foldInts] at hz
    split at hz
    · rename_i k i he
      have hv := h.ev x
      rw [he] at hv
      obtain ⟨j, h1, h2⟩ := foldInts_ok (P := P) (w := w) (F := F) (m := S.m) (L := L) (g := Builtin.min2) (fun k x k' y w => rfl) (xs.map S.ev) (xs.map a.eval) k i (by simp) (args_rd h xs) hz
      refine ⟨k, j, h1, ?_⟩
      simp only [Builtin.min_, List.map_cons]
      rw [hv.int_inv]; exact h2
    · cases hz

theorem run_max (h : Sim O S n a w F L) {xs : List Operand} {z : V} (hz : foldInts (fun a b => if b > a then b else a) (xs.map S.ev) = some z) (ts : Array TypeId) (ty : TypeId) :
    ∃ k j, z = .int k j ∧ (Builtin.max_ ts ty (xs.map a.eval).toArray).run P w = .ok (.int k j) w := by
  cases xs with
  | nil => simp [foldInts] at hz
  | cons x xs =>
    simp only [List.map_cons, foldInts] at hz
    split at hz
    · rename_i k i he
      have hv := h.ev x
      rw [he] at hv
      obtain ⟨j, h1, h2⟩ := foldInts_ok (P := P) (w := w) (F := F) (m := S.m) (L := L) (g := Builtin.max2) (fun k x k' y w => rfl) (xs.map S.ev) (xs.map a.eval) k i (by simp) (args_rd h xs) hz
      refine ⟨k, j, h1, ?_⟩
      simp only [Builtin.max_, List.map_cons]
      rw [hv.int_inv]; exact h2
    · cases hz

theorem mkFn_ok {f : Fn} {cs : List D} {vs : List Value} (hl : cs.length = vs.length) (hr : ∀ (i : Nat) (d : D) (v : Value), cs[i]? = some d → vs[i]? = some v → RD w F m L d v) : RD w F m L (mkFn f cs) (.func f #[] vs.toArray) := by
  unfold mkFn
  split
  · rename_i xs hx
    have := isV_all cs xs hx
    subst this
    refine .v (.fn f xs vs (by simpa using hl) fun i y u hy hu => ?_)
    exact (hr i (.v y) u (by simp [hy]) hu).v_inv
  · exact .fn f cs vs hl hr

theorem fn_inv {d : D} {v : Value} {f : FuncId} {caps : List D} (h : RD w F m L d v) (hf : fnOf d = some (f, caps)) : ∃ vs : List Value, v = .func (.func f) #[] vs.toArray ∧ caps.length = vs.length ∧
    ∀ (i : Nat) (d : D) (v : Value), caps[i]? = some d → vs[i]? = some v → RD w F m L d v := by
  unfold fnOf at hf
  split at hf
  · simp only [Option.some.injEq, Prod.mk.injEq] at hf
    obtain ⟨rfl, rfl⟩ := hf
    have h1 := h.v_inv
    cases h1 with
    | fn f caps vs hl hr => exact ⟨vs, rfl, by simpa using hl, fun i d v hd hv => by
        simp only [List.getElem?_map, Option.map_eq_some_iff] at hd
        obtain ⟨y, hy, rfl⟩ := hd
        exact .v (hr i y v hy hv)⟩
  · split at hf
    · simp only [Option.some.injEq, Prod.mk.injEq] at hf
      obtain ⟨rfl, rfl⟩ := hf
      cases h with
      | fn f caps vs hl hr => exact ⟨vs, rfl, hl, hr⟩
    · cases hf
  · cases hf

theorem callOk_inv {f : FuncId} (h : callOk P f = true) (args : Array Value) : (callFunc f args).run P w = .ok (.enter f args) w := by
  unfold callOk at h
  split at h
  · rename_i fn hf
    simp only [Bool.and_eq_true, bne_iff_ne, ne_eq] at h
    have h1 : (fn.name == "runtime.NumGoroutine") = false := by simpa using h.1
    have h2 : fn.body.isNone = false := by cases hb : fn.body <;> simp_all
    unfold callFunc
    rw [Sem.run_bind]
    have hp : (program : Sem Program).run P w = .ok P w := rfl
    rw [hp]
    simp [Result.andThen, hf, h1, h2]
  · cases h

end Go.Proofs.YtdhdhcllgkddnaaGreat.Va

namespace Go.Proofs.YtdhdhcllgkddnaaGreat.Va
open Go Go.RowKit

variable {O : Org} {S S' : St} {n : Nat} {a : Act} {w w' : World} {F F' : Nat → Prop} {L L' : Lay} {P : Program} {m : Nat → RS} {Γ : FuncId → Option Spec}

/-- What a step must come to. -/
def Fin (P : Program) (O : Org) (S : St) (n : Nat) (a : Act) (w : World) (o : Oper) (E : Eff) : Prop :=
  ∃ v w' F' L', (execOp a.eval o).run P w = .ok (.value v) w' ∧ Sim O (S.setM E.up) n a w' F' L' ∧ RD w' F' (S.setM E.up).m L' E.d v

theorem Fin.same {o : Oper} (h : Sim O S n a w F L) {d : D} {v : Value} (hr : (execOp a.eval o).run P w = .ok (.value v) w) (hd : RD w F S.m L d v) : Fin P O S n a w o ⟨d, []⟩ := ⟨v, w, F, L, hr, h, hd⟩

theorem Fin.new {o : Oper} {d : D} {up : List (Nat × RS)} {v : Value} (hr : (execOp a.eval o).run P w = .ok (.value v) w') (h : Sim O (S.setM up) n a w' F' L') (hd : RD w' F' (S.setM up).m L' d v) : Fin P O S n a w o ⟨d, up⟩ := ⟨v, w', F', L', hr, h, hd⟩

theorem Fin.wp {o : Oper} {E : Eff} (h : Fin P O S n a w o E) (ht : ∀ t, o.dst = some t → t < n) {K : Act → World → Prop} {Q : Exit → Act → World → Prop} (hK : ∀ a' w' F' L', Sim O (S.app o.dst E) n a' w' F' L' → K a' w') : o.wp P a w K Q := by
  obtain ⟨v, w', F', L', hr, h1, h2⟩ := h
  exact wp_value hr (hK _ _ _ _ (h1.done ht h2))

section
variable {dst : Option Tmp} {ty : TypeId} {pos : String} {after : Array Edge} {guard : Option (Nat × Bool)}

theorem fin_pick (h : Sim O S n a w F L) {c x y : Operand} {E : Eff} (he : eff P Γ S.ev S.m ⟨dst, .pick c x y, ty, pos, after, guard⟩ = some E) : Fin P O S n a w ⟨dst, .pick c x y, ty, pos, after, guard⟩ E := by
  simp only [eff] at he
  split at he
  · rename_i t hc
    have hv := h.ev c
    rw [hc] at hv
    have hv := hv.bool_inv
    cases he
    cases t
    · exact .same h (v := a.eval y) (by simp only [execOp]; rw [hv]; rfl) (h.ev y)
    · exact .same h (v := a.eval x) (by simp only [execOp]; rw [hv]; rfl) (h.ev x)
  · cases he

theorem fin_alloc (h : Sim O S n a w F L) {e : TypeId} {E : Eff} (he : eff P Γ S.ev S.m ⟨dst, .alloc e, ty, pos, after, guard⟩ = some E) : Fin P O S n a w ⟨dst, .alloc e, ty, pos, after, guard⟩ E := by
  simp only [eff] at he
  split at he
  · rename_i t z hz
    simp only [Option.some.injEq] at he
    subst he
    obtain ⟨zv, h1, h2, rfl, _⟩ := zeroV_run hz
    have hV := (RV.ofValue (w := w) (F := F) zv h2).cells_
    obtain ⟨L', h3, h4⟩ := h.newBox t ((V.ofValue zv).cells.map .v) zv.cells.toList e ⟨by simp [hV.len], fun c d u hd hu => by
      simp only [List.getElem?_map, Option.map_eq_some_iff] at hd
      obtain ⟨y, hy, rfl⟩ := hd
      exact ⟨.v (hV.at_ c y u hy hu).1, (hV.at_ c y u hy hu).2⟩⟩
    refine .new ?_ h3 h4
    simp [execOp, Instr.alloc, Go.newVar, Go.newRow, h1]
  · cases he

theorem fin_box (h : Sim O S n a w F L) {e : TypeId} {x : Operand} {E : Eff} (he : eff P Γ S.ev S.m ⟨dst, .box e x, ty, pos, after, guard⟩ = some E) : Fin P O S n a w ⟨dst, .box e x, ty, pos, after, guard⟩ E := by
  simp only [eff] at he
  split at he
  · rename_i t
    split at he
    · rename_i hs
      simp only [Option.some.injEq] at he
      subst he
      obtain ⟨L', h3, h4⟩ := h.newBox t (S.ev x).cells (a.eval x).cells.toList e ((h.ev x).dcells hs)
      refine .new ?_ h3 h4
      simp [execOp, Instr.box, Go.newVar, Go.newRow]
    · cases he
  · cases he

theorem fin_build (h : Sim O S n a w F L) {t : TypeId} {parts : Array (Nat × Operand)} {E : Eff} (he : eff P Γ S.ev S.m ⟨dst, .build t parts, ty, pos, after, guard⟩ = some E) : Fin P O S n a w ⟨dst, .build t parts, ty, pos, after, guard⟩ E := by
  simp only [eff] at he
  split at he
  · rename_i z hz
    split at he
    · rename_i hk
      simp only [Option.map_eq_some_iff] at he
      obtain ⟨cs, hcs, rfl⟩ := he
      obtain ⟨u, h1, h2⟩ := h.build hz hk hcs
      exact .same h (run_value h1) h2
    · cases he
  · cases he

theorem fin_buildSlice (h : Sim O S n a w F L) {t : TypeId} {len : Nat} {parts : Array (Nat × Operand)} {E : Eff} (he : eff P Γ S.ev S.m ⟨dst, .buildSlice t len parts, ty, pos, after, guard⟩ = some E) : Fin P O S n a w ⟨dst, .buildSlice t len parts, ty, pos, after, guard⟩ E := by
  simp only [eff] at he
  split at he
  · rename_i r e k by_ hk
    split at he
    · rename_i z hz
      split at he
      · rename_i hc
        obtain ⟨c1, c2, c3, c4⟩ := hc
        simp only [Option.map_eq_some_iff] at he
        obtain ⟨els, hels, rfl⟩ := he
        obtain ⟨v, w', F', L', h1, h2, h3⟩ := h.buildSlice (r := r) hk hz c1 c2 c3 hels
        exact .new (run_value h1) h2 h3
      · cases he
    · cases he
  · cases he

theorem fin_load (h : Sim O S n a w F L) {t : TypeId} {p : Operand} {E : Eff} (he : eff P Γ S.ev S.m ⟨dst, .load t p, ty, pos, after, guard⟩ = some E) : Fin P O S n a w ⟨dst, .load t p, ty, pos, after, guard⟩ E := by
  simp only [eff, Option.map_eq_some_iff] at he
  obtain ⟨d, hd, rfl⟩ := he
  obtain ⟨u, h1, h2⟩ := h.load (h.ev p) hd
  exact .same h (run_value h1) h2

theorem fin_nilCheck (h : Sim O S n a w F L) {x : Operand} {E : Eff} (he : eff P Γ S.ev S.m ⟨dst, .nilCheck x, ty, pos, after, guard⟩ = some E) : Fin P O S n a w ⟨dst, .nilCheck x, ty, pos, after, guard⟩ E := by
  have hx := h.ev x
  simp only [eff] at he
  split at he
  · rename_i r g i c hv
    split at he
    · rename_i hl
      cases he
      rw [hv] at hx
      obtain ⟨b, k, e, _⟩ := h.ptr_val hx hl
      refine .same h (v := a.eval x) ?_ hx
      simp only [execOp]
      rw [e]; rfl
    · cases he
  · rename_i y c hv
    cases he
    rw [hv] at hx
    obtain ⟨ad, e, _⟩ := cptr_val hx
    refine .same h (v := a.eval x) ?_ hx
    simp only [execOp]
    rw [e]; rfl
  · rename_i f cs hv
    split at he
    · rename_i f'
      cases he
      rw [hv] at hx
      refine .same h (v := a.eval x) ?_ hx
      have hx' := hx.v_inv
      generalize hz : a.eval x = z at hx'
      cases hx' with
      | fn f caps vs hl hr => simp only [execOp]; rw [hz]; rfl
    · cases he
  · cases he

theorem fin_binOp (h : Sim O S n a w F L) {op : BinOp} {t yt : TypeId} {x y : Operand} {E : Eff} (he : eff P Γ S.ev S.m ⟨dst, .binOp op t x y yt, ty, pos, after, guard⟩ = some E) : Fin P O S n a w ⟨dst, .binOp op t x y yt, ty, pos, after, guard⟩ E := by
  simp only [eff, Option.map_eq_some_iff] at he
  obtain ⟨z, hz, rfl⟩ := he
  obtain ⟨h1, vz, h2, h3⟩ := h.binD x y hz (h.ev x) (h.ev y)
  refine .same h (v := vz) ?_ (.v h3)
  simp only [execOp]
  refine run_value ?_
  rw [Sem.run_bind, h1]
  exact h2

theorem fin_unOp (h : Sim O S n a w F L) {op : UnOp} {t : TypeId} {x : Operand} {E : Eff} (he : eff P Γ S.ev S.m ⟨dst, .unOp op t x, ty, pos, after, guard⟩ = some E) : Fin P O S n a w ⟨dst, .unOp op t x, ty, pos, after, guard⟩ E := by
  have hx := h.ev x
  simp only [eff] at he
  split at he
  · rename_i v hv
    rw [hv] at hx
    simp only [Option.map_eq_some_iff] at he
    obtain ⟨z, hz, rfl⟩ := he
    obtain ⟨u, h1, h2⟩ := run_un (P := P) hz hx.v_inv
    exact .same h (run_value h1) (.v h2)
  · cases he

theorem fin_convert (h : Sim O S n a w F L) {t u : TypeId} {x : Operand} {E : Eff} (he : eff P Γ S.ev S.m ⟨dst, .convert t u x, ty, pos, after, guard⟩ = some E) : Fin P O S n a w ⟨dst, .convert t u x, ty, pos, after, guard⟩ E := by
  have hx := h.ev x
  simp only [eff] at he
  split at he
  · rename_i hs hd hv
    rw [hv] at hx
    cases he
    have e := hx.int_inv
    refine .same h (run_value ?_) (.v (.int _ _))
    rw [e]
    simp [convert, run_underlying hs, run_underlying hd, Conv.intToInt]
  · rename_i hs hd hv
    rw [hv] at hx
    cases he
    have e := hx.str_inv
    refine .same h (v := a.eval x) (run_value ?_) hx
    rw [e]
    simp [convert, run_underlying hs, run_underlying hd]
  · rename_i e hs hd
    split at he
    · rename_i hue
      split at he
      · rename_i hv
        rw [hv] at hx
        cases he
        have e := hx.v_inv.nil_inv
        refine .same h (v := .string ByteArray.empty) (run_value ?_) (.v (.str _))
        rw [e]
        simp [convert, run_underlying hs, run_underlying hd, run_underlying hue, Conv.bytesToString]
      · split at he
        · rename_i xs hr
          split at he
          · rename_i hu
            cases he
            exact .same h (run_value (h.toStr hs hue hd hx hr hu)) (.v (.str _))
          · cases he
        · cases he
    · cases he
  · rename_i e s hs hd hv
    split at he
    · rename_i hue
      split at he
      · rename_i hle
        cases he
        rw [hv] at hx
        have e := hx.str_inv
        obtain ⟨v, w', F', h1, h2, h3⟩ := h.toBytes hs hue hd hle
        exact ⟨v, w', F', L, run_value (by rw [e]; exact h1), h2, h3⟩
      · cases he
    · cases he
  · cases he

theorem fin_makeFunc (h : Sim O S n a w F L) {f : Fn} {first caps : Array Operand} {E : Eff} (he : eff P Γ S.ev S.m ⟨dst, .makeFunc f first caps, ty, pos, after, guard⟩ = some E) : Fin P O S n a w ⟨dst, .makeFunc f first caps, ty, pos, after, guard⟩ E := by
  simp only [eff] at he
  split at he
  · rename_i h0
    cases he
    have e : first = #[] := Array.eq_empty_of_size_eq_zero h0
    subst e
    refine .same h (v := .func f #[] (caps.toList.map a.eval).toArray) ?_ (mkFn_ok (by simp) (args_rd h _))
    simp only [execOp, Instr.makeFunc]
    refine run_value ?_
    have e : (List.map a.eval caps.toList).toArray = caps.map a.eval := by rw [← Array.toList_map]
    rw [e, Array.map_empty]; rfl
  · cases he

theorem fin_makeSlice (h : Sim O S n a w F L) {t : TypeId} {l c : Operand} {E : Eff} (he : eff P Γ S.ev S.m ⟨dst, .makeSlice t l c, ty, pos, after, guard⟩ = some E) : Fin P O S n a w ⟨dst, .makeSlice t l c, ty, pos, after, guard⟩ E := by
  have hl := h.ev l
  have hc := h.ev c
  simp only [eff] at he
  split at he
  · rename_i r e k by_ k1 i k2 q hk hvl hvc
    split at he
    · rename_i z hz
      split at he
      · rename_i hcond
        obtain ⟨c0, c1, c2, c3, c4⟩ := hcond
        cases he
        rw [hvl] at hl
        rw [hvc] at hc
        obtain ⟨v, w', L', h1, h2, h3⟩ := h.makeSlice (r := r) (k1 := k1) (k2 := k2) hk hz c0 c1 c2 c3 c4
        refine .new (run_value ?_) h2 h3
        rw [hl.int_inv, hc.int_inv]
        exact h1
      · cases he
    · cases he
  · cases he

theorem fin_slice (h : Sim O S n a w F L) {t : TypeId} {x : Operand} {lo hi mx : Option Operand} {E : Eff} (he : eff P Γ S.ev S.m ⟨dst, .slice t x lo hi mx, ty, pos, after, guard⟩ = some E) : Fin P O S n a w ⟨dst, .slice t x lo hi mx, ty, pos, after, guard⟩ E := by
  simp only [eff] at he
  split at he
  · simp only [Option.map_eq_some_iff] at he
    obtain ⟨d, hd, rfl⟩ := he
    obtain ⟨u, h1, h2⟩ := h.slice (h.ev x) hd
    exact .same h (run_value h1) h2
  · rename_i q
    simp only [Option.map_eq_some_iff] at he
    obtain ⟨d, hd, rfl⟩ := he
    obtain ⟨u, h1, h2⟩ := h.slice3 (h.ev x) (h.ev q) hd
    exact .same h (run_value h1) h2

theorem fin_fieldAddr (h : Sim O S n a w F L) {s : TypeId} {x : Operand} {f : Nat} {E : Eff} (he : eff P Γ S.ev S.m ⟨dst, .fieldAddr s x f, ty, pos, after, guard⟩ = some E) : Fin P O S n a w ⟨dst, .fieldAddr s x f, ty, pos, after, guard⟩ E := by
  have hx := h.ev x
  simp only [eff] at he
  split at he
  · rename_i fs hu
    split at he
    · rename_i fd hf
      split at he
      · cases he
      · rename_i hz
        split at he
        · rename_i hd
          split at he
          · rename_i hl
            cases he
            rw [hd] at hx
            obtain ⟨u, h1, h2⟩ := h.fieldAddr (e := _) hu hf hz hx (if_pos hl)
            exact .same h (run_value h1) h2
          · cases he
        · rename_i hd
          cases he
          rw [hd] at hx
          obtain ⟨u, h1, h2⟩ := h.fieldAddr (e := _) hu hf hz hx rfl
          exact .same h (run_value h1) h2
        · cases he
    · cases he
  · cases he

theorem fin_field (h : Sim O S n a w F L) {t : TypeId} {x : Operand} {f : Nat} {E : Eff} (he : eff P Γ S.ev S.m ⟨dst, .field t x f, ty, pos, after, guard⟩ = some E) : Fin P O S n a w ⟨dst, .field t x f, ty, pos, after, guard⟩ E := by
  have hx := h.ev x
  simp only [eff] at he
  split at he
  · rename_i fs hu
    split at he
    · rename_i fd hf
      split at he
      · rename_i agg cs ha hv
        simp only [Option.map_eq_some_iff] at he
        obtain ⟨e, he, rfl⟩ := he
        rw [hv] at hx
        obtain ⟨u, h1, h2⟩ := run_field (P := P) (e := .v e) hu hf ha hx (by simp [he])
        exact .same h (run_value h1) h2
      · rename_i agg cs ha hv
        simp only [Option.map_eq_some_iff] at he
        obtain ⟨e, he, rfl⟩ := he
        rw [hv] at hx
        obtain ⟨u, h1, h2⟩ := run_field (P := P) (e := e) hu hf ha hx he
        exact .same h (run_value h1) h2
      · cases he
    · cases he
  · cases he

theorem fin_indexAddr (h : Sim O S n a w F L) {t : TypeId} {x i : Operand} {E : Eff} (he : eff P Γ S.ev S.m ⟨dst, .indexAddr t x i, ty, pos, after, guard⟩ = some E) : Fin P O S n a w ⟨dst, .indexAddr t x i, ty, pos, after, guard⟩ E := by
  simp only [eff, Option.map_eq_some_iff] at he
  obtain ⟨d, hd, rfl⟩ := he
  obtain ⟨u, h1, h2⟩ := h.indexAddr (h.ev x) (h.ev i) hd
  exact .same h (run_value h1) h2

theorem fin_index (h : Sim O S n a w F L) {t : TypeId} {x i : Operand} {E : Eff} (he : eff P Γ S.ev S.m ⟨dst, .index t x i, ty, pos, after, guard⟩ = some E) : Fin P O S n a w ⟨dst, .index t x i, ty, pos, after, guard⟩ E := by
  have hx := h.ev x
  have hi := h.ev i
  simp only [eff] at he
  split at he
  · rename_i s j hu hv hj
    split at he
    · rename_i hc
      simp only [Option.map_eq_some_iff] at he
      obtain ⟨b, hb, rfl⟩ := he
      rw [hv] at hx
      obtain ⟨k, e⟩ := intOfD_inv hi hj
      refine .same h (run_value ?_) (.v (.int .u8 b.toNat))
      rw [e, hx.str_inv]
      exact run_index_str hu hc.1 hb
    · cases he
  · rename_i len e cs j hu hv hj
    split at he
    · rename_i hc
      split at he
      · rename_i agg ha
        simp only [Option.map_eq_some_iff] at he
        obtain ⟨b, hb, rfl⟩ := he
        rw [hv] at hx
        obtain ⟨k, e⟩ := intOfD_inv hi hj
        obtain ⟨u, h1, h2⟩ := run_index_arr (P := P) (k := k) hu ha hx.v_inv hc.1 hc.2 hb
        refine .same h (run_value ?_) (.v h2)
        rw [e]
        exact h1
      · cases he
    · cases he
  · cases he

theorem fin_extract (h : Sim O S n a w F L) {x : Operand} {i : Nat} {E : Eff} (he : eff P Γ S.ev S.m ⟨dst, .extract x i, ty, pos, after, guard⟩ = some E) : Fin P O S n a w ⟨dst, .extract x i, ty, pos, after, guard⟩ E := by
  have hx := h.ev x
  simp only [eff] at he
  split at he
  · rename_i ds hv
    simp only [Option.map_eq_some_iff] at he
    obtain ⟨d, hd, rfl⟩ := he
    rw [hv] at hx
    generalize hz : a.eval x = z at hx
    cases hx with
    | tup ds vs hl hr =>
      have hlt := (List.getElem?_eq_some_iff.1 hd).1
      have hu : vs[i]? = some (vs[i]'(by omega)) := List.getElem?_eq_getElem (by omega)
      refine .same h (v := vs[i]'(by omega)) (run_value ?_) (hr i d _ hd hu)
      rw [hz]
      simp [Instr.extract, hu]
  · cases he
end
end Go.Proofs.YtdhdhcllgkddnaaGreat.Va

namespace Go.Proofs.YtdhdhcllgkddnaaGreat.Va
open Go Go.RowKit

variable {O : Org} {S S' : St} {n : Nat} {a : Act} {w w' : World} {F F' : Nat → Prop} {L L' : Lay} {P : Program} {m : Nat → RS}

theorem Sim.clear (h : Sim O S n a w F L) {t ty : TypeId} {x : D} {v : Value} {up : List (Nat × RS)} (hx : RD w F S.m L x v) (hup : effClear P S.m t x = some up) :
    ∃ w', (Builtin.clear_ #[t] ty #[v]).run P w = .ok (.tuple #[]) w' ∧ Sim O (S.setM up) n a w' F L := by
  unfold effClear at hup
  split at hup
  · rename_i r g off len
    split at hup
    · rename_i e k by_ sz els hk hl
      split at hup
      · rename_i z hz
        split at hup
        · rename_i hc
          obtain ⟨rfl, hzl, hle⟩ := hc
          cases hup
          obtain ⟨hu, rfl, rfl, i0, z0, hi, hz0, hzs⟩ := slc_inv hk
          obtain ⟨zv, hzr, hp, rfl, i1, hi1, hz1⟩ := zeroV_run hz
          rw [hi] at hi1; cases hi1
          rw [hz0] at hz1; cases hz1
          have hsz : P.cellsOf e = i0.size := by simp [Program.cellsOf, hi]
          have hreg := (live_reg hl).2
          have hok := h.regs r _ hreg
          simp only [RegOk] at hok
          obtain ⟨ho1, ho2, ho3, ho4⟩ := hok
          cases hx with
          | own _ _ _ _ _ hg h1 hh =>
            obtain ⟨_, _, ad, rfl, had⟩ := hh _ _ _ hl rfl
            have hund : ∀ w : World, (underlying t).run P w = .ok (.slice e) w := run_underlying hu
            by_cases h0 : len = 0
            · subst h0
              refine ⟨w, ?_, ?_⟩
              · unfold Builtin.clear_
                cases ad <;> simp [hund]
              · simp only [List.replicate_zero, List.append_nil, Nat.add_zero, List.take_append_drop]
                have : upd S.m [setReg S.m r ⟨.row (P.cellsOf e) els, false⟩] = S.m := by
                  funext q
                  simp only [upd_cons, upd_nil, setReg]
                  split
                  · rename_i eq; subst eq; rw [← hreg]
                  · rfl
                simp only [St.setM, this]; exact h
            · have hcap : L.cap r ≠ 0 := by omega
              obtain ⟨b, cur, ty2, k1, k2, k3, k4, k5⟩ := ho4.resolve_left hcap
              have had' := had (by omega)
              rw [k1] at had'
              simp only [Option.map_some, Addr.add_lit, Nat.zero_add] at had'
              subst had'
              obtain ⟨l', rfl⟩ : ∃ l', len = l' + 1 := ⟨len - 1, by omega⟩
              have hV := (norm_ok (shapeOf P e) (RV.ofValue (w := w) (F := F) z0 hp)).cells_
              have hnl := norm_cells_length (V.ofValue z0) (shapeOf P e)
              have hE := ECells.replicate hV (by omega : ((V.ofValue z0).norm (shapeOf P e)).cells.length = P.cellsOf e) (l' + 1)
              have hzs' : z0.cells.size = P.cellsOf e := by omega
              have hvs : (Builtin.zeroCells z0.cells (l' + 1)).toList = (List.range ((l' + 1) * P.cellsOf e)).map fun j => z0.cells.toList.getD (j % P.cellsOf e) undef := by
                have hr := range_map_eq z0.cells (l' + 1) (P.cellsOf e) hzs'
                rw [← hr]
                simp only [Builtin.zeroCells, hzs']
              have hvl : (Builtin.zeroCells z0.cells (l' + 1)).toList.length = (l' + 1) * P.cellsOf e := by rw [hvs]; simp
              have hrow1 : (off + (l' + 1)) * P.cellsOf e ≤ L.cap r * P.cellsOf e := Nat.mul_le_mul_right _ (by omega)
              rw [Nat.add_mul] at hrow1
              have hst := run_storeCells_at P b (off * P.cellsOf e) ty2 (Builtin.zeroCells z0.cells (l' + 1)).toList 0 cur w k2 (by rw [hvl]; omega) (fun u hu => hE.one u (by rw [← hvs]; exact hu))
              simp only [Nat.add_zero] at hst
              have hrb : blk L r ⟨.row (P.cellsOf e) els, false⟩ = some b := by simp [blk, k1, hcap]
              have hbF : ¬ F b := blk_not_F (h.regs r _ hreg) hrb
              have hkeep : Keeps F w (w.setRow b (putCells cur.toList (off * P.cellsOf e) (Builtin.zeroCells z0.cells (l' + 1)).toList).toArray) := fun y hy => setRow_other w b y _ fun e => hbF (e ▸ hy)
              refine ⟨w.setRow b (putCells cur.toList (off * P.cellsOf e) (Builtin.zeroCells z0.cells (l' + 1)).toList).toArray, ?_, ?_⟩
              · unfold Builtin.clear_
                simp only [putCells]
                simp [hund, hzr, hst]
              · refine h.turn r (reg' := ⟨.row (P.cellsOf e) (els.take off ++ List.replicate (l' + 1) ((V.ofValue z0).norm (shapeOf P e)) ++ els.drop (off + (l' + 1))), false⟩) hreg b hrb (fun y hy => by simpa [blk, k1, hcap] using hy.symm) rfl rfl rfl
                  (by simp) (fun y hy hne => setRow_other w b y _ hne) (fun sz' els' he => by cases he; exact ⟨els, rfl, by simp; omega, by simp; omega⟩) (fun cs' he => by cases he) ?_
                refine ⟨by simp; omega, ho2, fun y hy => ?_, .inr ⟨b, _, ty2, k1, setRow_heap w b cur _ ty2 (0, 0) k2, ⟨fun hf => absurd hf hbF, fun hf => (by cases hf)⟩, ?_, fun p q y y' hy hy' => ?_⟩⟩
                · simp only [List.mem_append] at hy
                  rcases hy with (hy | hy) | hy
                  · exact ho3 y (List.mem_of_mem_take hy)
                  · exact hE.sizes y hy
                  · exact ho3 y (List.mem_of_mem_drop hy)
                · have : (putCells cur.toList (off * P.cellsOf e) (Builtin.zeroCells z0.cells (l' + 1)).toList).length = cur.size := by simp only [putCells, List.length_append, List.length_take, List.length_drop, hvl, Array.length_toList]; omega
                  simpa [this] using k4
                · simp only [List.getElem?_toArray]
                  rw [getElem?_putCells (by rw [hvl]; simp; omega), hvl]
                  have hys : y.cells.length = P.cellsOf e := by
                    have hm := List.mem_of_getElem? hy
                    simp only [List.mem_append] at hm
                    rcases hm with (hm | hm) | hm
                    · exact ho3 y (List.mem_of_mem_take hm)
                    · exact hE.sizes y hm
                    · exact ho3 y (List.mem_of_mem_drop hm)
                  have hq := (List.getElem?_eq_some_iff.1 hy').1
                  by_cases hp1 : p < off
                  · have hlt : p * P.cellsOf e + q < off * P.cellsOf e := idx_lt hp1 (by omega)
                    rw [if_pos hlt]
                    have hy0 : els[p]? = some y := by
                      rw [List.append_assoc, List.getElem?_append_left (by simp; omega), List.getElem?_take, if_pos hp1] at hy
                      exact hy
                    obtain ⟨u, u1, u2, u3⟩ := k5 p q y y' hy0 hy'
                    exact ⟨u, by rw [Array.getElem?_toList]; exact u1, u2, u3.mono hkeep fun _ hb => hb⟩
                  · have hge : off * P.cellsOf e ≤ p * P.cellsOf e := Nat.mul_le_mul_right _ (by omega)
                    rw [if_neg (by omega)]
                    by_cases hp2 : p < off + (l' + 1)
                    · have hlt : p * P.cellsOf e + q < (off + (l' + 1)) * P.cellsOf e := idx_lt hp2 (by omega)
                      rw [Nat.add_mul] at hlt
                      rw [if_pos hlt]
                      have hy0 : (List.replicate (l' + 1) ((V.ofValue z0).norm (shapeOf P e)))[p - off]? = some y := by
                        rw [List.append_assoc, List.getElem?_append_right (by simp; omega), List.getElem?_append_left (by simp; omega)] at hy
                        simpa [show min off els.length = off by omega] using hy
                      obtain ⟨u, u1, u2⟩ := hE.at_ (p - off) q y y' hy0 hy'
                      refine ⟨u, ?_, hE.one u (List.mem_of_getElem? u1), u2.mono hkeep fun _ hb => hb⟩
                      rw [hvs, show p * P.cellsOf e + q - off * P.cellsOf e = (p - off) * P.cellsOf e + q by rw [Nat.sub_mul]; omega]
                      exact u1
                    · have hge2 : (off + (l' + 1)) * P.cellsOf e ≤ p * P.cellsOf e := Nat.mul_le_mul_right _ (by omega)
                      rw [Nat.add_mul] at hge2
                      rw [if_neg (by omega)]
                      have hy0 : els[p]? = some y := by
                        rw [List.getElem?_append_right (by simp; omega), List.getElem?_drop] at hy
                        simp only [List.length_append, List.length_take, List.length_replicate] at hy
                        rwa [show off + (l' + 1) + (p - (min off els.length + (l' + 1))) = p by omega] at hy
                      obtain ⟨u, u1, u2, u3⟩ := k5 p q y y' hy0 hy'
                      exact ⟨u, by rw [Array.getElem?_toList]; exact u1, u2, u3.mono hkeep fun _ hb => hb⟩
        · cases hup
      · cases hup
    · cases hup
  · cases hup

end Go.Proofs.YtdhdhcllgkddnaaGreat.Va

namespace Go.Proofs.YtdhdhcllgkddnaaGreat.Va
open Go Go.RowKit

variable {O : Org} {S S' : St} {n : Nat} {a : Act} {w w' : World} {F F' : Nat → Prop} {L L' : Lay} {P : Program} {m : Nat → RS}

theorem ECells.take {w : World} {F : Nat → Prop} {sz : Nat} {els : List V} {us : List Value} (h : ECells w F sz els us) (k : Nat) : ECells w F sz (els.take k) (us.take (k * sz)) := by
  refine ⟨?_, fun x hx => h.sizes x (List.mem_of_mem_take hx), fun u hu => h.one u (List.mem_of_mem_take hu), fun i c x y hx hy => ?_⟩
  · have := h.len
    rw [List.length_take, List.length_take, this]
    rcases Nat.le_total k els.length with hk | hk
    · have := Nat.mul_le_mul_right sz hk
      rw [Nat.min_eq_left hk, Nat.min_eq_left this]
    · have := Nat.mul_le_mul_right sz hk
      rw [Nat.min_eq_right hk, Nat.min_eq_right this]
  · rw [List.getElem?_take] at hx
    split at hx
    · rename_i hi
      obtain ⟨u, h1, h2⟩ := h.at_ i c x y hx hy
      refine ⟨u, ?_, h2⟩
      have hc := (List.getElem?_eq_some_iff.1 hy).1
      rw [h.sizes x (List.mem_of_getElem? hx)] at hc
      rw [List.getElem?_take, if_pos (idx_lt hi hc)]
      exact h1
    · cases hx

theorem Sim.copy (h : Sim O S n a w F L) {t t2 ty : TypeId} {x y : D} {v yv : Value} {mm : Nat} {up : List (Nat × RS)} (hx : RD w F S.m L x v) (hy0 : RD w F S.m L y yv) (hup : effCopy P S.m t x y = some (mm, up)) :
    ∃ w', (Builtin.copy_ #[t, t2] ty #[v, yv]).run P w = .ok (.int .i64 mm) w' ∧ Sim O (S.setM up) n a w' F L := by
  unfold effCopy at hup
  split at hup
  · rename_i r g off len
    split at hup
    · rename_i e k by_ sz els sz' ys hk hl hro
      split at hup
      · rename_i hc
        obtain ⟨rfl, rfl, hle⟩ := hc
        simp only [Option.some.injEq, Prod.mk.injEq] at hup
        obtain ⟨rfl, rfl⟩ := hup
        obtain ⟨hu, rfl, rfl, i0, z0, hi, hz0, hzs⟩ := slc_inv hk
        have hsz : P.cellsOf e = i0.size := by simp [Program.cellsOf, hi]
        have hreg := (live_reg hl).2
        have hok := h.regs r _ hreg
        simp only [RegOk] at hok
        obtain ⟨ho1, ho2, ho3, ho4⟩ := hok
        obtain ⟨sad, scap, us, hrow⟩ := h.row hy0 hro
        obtain rfl := hrow.val
        have hund : ∀ w : World, (underlying t).run P w = .ok (.slice e) w := run_underlying hu
        have hE := hrow.ecells.take (min ys.length len)
        have hvl : (us.take (min ys.length len * P.cellsOf e)).length = min ys.length len * P.cellsOf e := by
          have := Nat.mul_le_mul_right (P.cellsOf e) (Nat.min_le_left ys.length len)
          rw [List.length_take, hrow.len]
          omega
        have hfc : (Builtin.firstCells (P.cellsOf e) (min ys.length len) (.slice sad ys.length scap)).run P w = .ok (us.take (min ys.length len * P.cellsOf e)).toArray w := by
          cases sad with
          | none =>
            have := hrow.none rfl
            subst this
            have := hrow.len
            simp at this
            subst this
            simp [Builtin.firstCells]
          | some sad =>
            refine run_firstCells_some (P := P) w (P.cellsOf e) _ sad _ scap _ hvl fun j u hj => ?_
            rw [List.getElem?_take] at hj
            split at hj
            · exact hrow.cell sad rfl j u hj
            · cases hj
        cases hx with
        | own _ _ _ _ _ hg h1 hh =>
          obtain ⟨_, _, ad, rfl, had⟩ := hh _ _ _ hl rfl
          generalize hmm : min ys.length len = m0 at hE hvl hfc ⊢
          have hm1 : m0 ≤ ys.length := by omega
          have hm2 : m0 ≤ len := by omega
          by_cases h0 : m0 = 0
          · subst h0
            refine ⟨w, ?_, ?_⟩
            · unfold Builtin.copy_
              have hmm' : Nat.min ys.length len = 0 := hmm
              have hso : ∀ w : World, (sizeOf e).run P w = .ok (P.cellsOf e) w := fun w => by simp [sizeOf, typeInfo, hi, Program.cellsOf]
              rw [Nat.zero_mul, List.take_zero] at hfc
              cases ad <;> simp [hund, hmm', Builtin.lenOf, hso, hfc] <;> rfl
            · simp only [List.take_zero, List.append_nil, Nat.add_zero, List.take_append_drop]
              have : upd S.m [setReg S.m r ⟨.row (P.cellsOf e) els, false⟩] = S.m := by
                funext q
                simp only [upd_cons, upd_nil, setReg]
                split
                · rename_i eq; subst eq; rw [← hreg]
                · rfl
              simp only [St.setM, this]; exact h
          · have hcap : L.cap r ≠ 0 := by omega
            obtain ⟨b, cur, ty2, k1, k2, k3, k4, k5⟩ := ho4.resolve_left hcap
            have had' := had (by omega)
            rw [k1] at had'
            simp only [Option.map_some, Addr.add_lit, Nat.zero_add] at had'
            subst had'
            have hrow1 : (off + m0) * P.cellsOf e ≤ L.cap r * P.cellsOf e := Nat.mul_le_mul_right _ (by omega)
            rw [Nat.add_mul] at hrow1
            have hst := run_storeCells_at P b (off * P.cellsOf e) ty2 (us.take (m0 * P.cellsOf e)) 0 cur w k2 (by rw [hvl]; omega) (fun u hu => hE.one u hu)
            simp only [Nat.add_zero] at hst
            have hrb : blk L r ⟨.row (P.cellsOf e) els, false⟩ = some b := by simp [blk, k1, hcap]
            have hbF : ¬ F b := blk_not_F (h.regs r _ hreg) hrb
            have hkeep : Keeps F w (w.setRow b (putCells cur.toList (off * P.cellsOf e) (us.take (m0 * P.cellsOf e))).toArray) := fun y hy => setRow_other w b y _ fun e => hbF (e ▸ hy)
            refine ⟨w.setRow b (putCells cur.toList (off * P.cellsOf e) (us.take (m0 * P.cellsOf e))).toArray, ?_, ?_⟩
            · unfold Builtin.copy_
              simp only [putCells] at hst ⊢
              have hmm' : Nat.min ys.length len = m0 := hmm
              have hso : ∀ w : World, (sizeOf e).run P w = .ok (P.cellsOf e) w := fun w => by simp [sizeOf, typeInfo, hi, Program.cellsOf]
              simp [hund, hmm', Builtin.lenOf, hso, hfc, hst]
              rfl
            · refine h.turn r (reg' := ⟨.row (P.cellsOf e) (els.take off ++ ys.take m0 ++ els.drop (off + m0)), false⟩) hreg b hrb (fun y hy => by simpa [blk, k1, hcap] using hy.symm) rfl rfl rfl
                (by simp) (fun y hy hne => setRow_other w b y _ hne) (fun sz' els' he => by cases he; exact ⟨els, rfl, by simp; omega, by simp; omega⟩) (fun cs' he => by cases he) ?_
              refine ⟨by simp; omega, ho2, fun y hy => ?_, .inr ⟨b, _, ty2, k1, setRow_heap w b cur _ ty2 (0, 0) k2, ⟨fun hf => absurd hf hbF, fun hf => (by cases hf)⟩, ?_, fun p q y y' hy hy' => ?_⟩⟩
              · simp only [List.mem_append] at hy
                rcases hy with (hy | hy) | hy
                · exact ho3 y (List.mem_of_mem_take hy)
                · exact hE.sizes y hy
                · exact ho3 y (List.mem_of_mem_drop hy)
              · have : (putCells cur.toList (off * P.cellsOf e) (us.take (m0 * P.cellsOf e))).length = cur.size := by simp only [putCells, List.length_append, List.length_take, List.length_drop, Array.length_toList] at hvl ⊢; omega
                simpa [this] using k4
              · simp only [List.getElem?_toArray]
                rw [getElem?_putCells (by rw [hvl]; simp; omega), hvl]
                have hys : y.cells.length = P.cellsOf e := by
                  have hm := List.mem_of_getElem? hy
                  simp only [List.mem_append] at hm
                  rcases hm with (hm | hm) | hm
                  · exact ho3 y (List.mem_of_mem_take hm)
                  · exact hE.sizes y hm
                  · exact ho3 y (List.mem_of_mem_drop hm)
                have hq := (List.getElem?_eq_some_iff.1 hy').1
                by_cases hp1 : p < off
                · have hlt : p * P.cellsOf e + q < off * P.cellsOf e := idx_lt hp1 (by omega)
                  rw [if_pos hlt]
                  have hy0 : els[p]? = some y := by
                    rw [List.append_assoc, List.getElem?_append_left (by simp; omega), List.getElem?_take, if_pos hp1] at hy
                    exact hy
                  obtain ⟨u, u1, u2, u3⟩ := k5 p q y y' hy0 hy'
                  exact ⟨u, by rw [Array.getElem?_toList]; exact u1, u2, u3.mono hkeep fun _ hb => hb⟩
                · have hge : off * P.cellsOf e ≤ p * P.cellsOf e := Nat.mul_le_mul_right _ (by omega)
                  rw [if_neg (by omega)]
                  by_cases hp2 : p < off + m0
                  · have hlt : p * P.cellsOf e + q < (off + m0) * P.cellsOf e := idx_lt hp2 (by omega)
                    rw [Nat.add_mul] at hlt
                    rw [if_pos hlt]
                    have hy0 : (ys.take m0)[p - off]? = some y := by
                      rw [List.append_assoc, List.getElem?_append_right (by simp; omega), List.getElem?_append_left (by simp; omega)] at hy
                      simpa [show min off els.length = off by omega] using hy
                    obtain ⟨u, u1, u2⟩ := hE.at_ (p - off) q y y' hy0 hy'
                    refine ⟨u, ?_, hE.one u (List.mem_of_getElem? u1), u2.mono hkeep fun _ hb => hb⟩
                    rw [show p * P.cellsOf e + q - off * P.cellsOf e = (p - off) * P.cellsOf e + q by rw [Nat.sub_mul]; omega]
                    exact u1
                  · have hge2 : (off + m0) * P.cellsOf e ≤ p * P.cellsOf e := Nat.mul_le_mul_right _ (by omega)
                    rw [Nat.add_mul] at hge2
                    rw [if_neg (by omega)]
                    have hy0 : els[p]? = some y := by
                      rw [List.getElem?_append_right (by simp; omega), List.getElem?_drop] at hy
                      simp only [List.length_append, List.length_take] at hy
                      rwa [show off + m0 + (p - (min off els.length + min m0 ys.length)) = p by omega] at hy
                    obtain ⟨u, u1, u2, u3⟩ := k5 p q y y' hy0 hy'
                    exact ⟨u, by rw [Array.getElem?_toList]; exact u1, u2, u3.mono hkeep fun _ hb => hb⟩
      · cases hup
    · cases hup
  · cases hup

end Go.Proofs.YtdhdhcllgkddnaaGreat.Va

namespace Go.Proofs.YtdhdhcllgkddnaaGreat.Va
open Go Go.RowKit

variable {O : Org} {S S' : St} {n : Nat} {a : Act} {w w' : World} {F F' : Nat → Prop} {L L' : Lay} {P : Program} {m : Nat → RS} {Γ : FuncId → Option Spec}

theorem map_list (f : Operand → Value) (xs : Array Operand) : xs.map f = (xs.toList.map f).toArray := by rw [← Array.toList_map]

theorem run_builtin {o : Oper} {c : Call} {b : Builtin} {v : Value} (ho : o.op = .call c) (hc : c.callee = .builtin b)
    (hr : ∀ consts, (builtin b c.argTypes o.type consts (c.args.map a.eval)).run P w = .ok (.value v) w') : (execOp a.eval o).run P w = .ok (.value v) w' := by
  unfold execOp
  rw [ho]
  simp only [resolve, hc]
  exact hr _

section
variable {dst : Option Tmp} {ty : TypeId} {pos : String} {after : Array Edge} {guard : Option (Nat × Bool)}

theorem fin_builtin (h : Sim O S n a w F L) {c : Call} {b : Builtin} (hc : c.callee = .builtin b) {E : Eff} (he : eff P Γ S.ev S.m ⟨dst, .call c, ty, pos, after, guard⟩ = some E) : Fin P O S n a w ⟨dst, .call c, ty, pos, after, guard⟩ E := by
  simp only [eff, hc] at he
  split at he
  · rename_i hb; cases hb
    split at he
    · rename_i x t hx ht
      simp only [Option.map_eq_some_iff] at he
      obtain ⟨k, hk, rfl⟩ := he
      have e1 : c.args = #[x] := by apply Array.toList_inj.1; exact hx
      have e2 : c.argTypes = #[t] := by apply Array.toList_inj.1; exact ht
      refine .same h (run_builtin rfl hc fun consts => ?_) (.v (.int _ _))
      simp only [builtin, e1, e2, map_list, List.map_cons, List.map_nil]
      exact run_value (h.len (h.ev x) hk ty)
    · cases he
  · rename_i hb; cases hb
    split at he
    · rename_i r s x ts tx hx ht
      have e1 : c.args = #[s, x] := by apply Array.toList_inj.1; exact hx
      have e2 : c.argTypes = #[ts, tx] := by apply Array.toList_inj.1; exact ht
      obtain ⟨v, w', L', h1, h2, h3⟩ := h.append (ty := ty) (h.ev s) (h.ev x) he
      refine ⟨v, w', F, L', run_builtin rfl hc fun consts => ?_, h2, by rw [setM_m]; exact h3⟩
      simp only [builtin, e1, e2, map_list, List.map_cons, List.map_nil]
      exact run_value h1
    · cases he
  · rename_i hb; cases hb
    simp only [Option.map_eq_some_iff] at he
    obtain ⟨z, hz, rfl⟩ := he
    obtain ⟨k, j, rfl, h1⟩ := run_min (P := P) h hz c.argTypes ty
    refine .same h (run_builtin rfl hc fun consts => ?_) (.v (.int _ _))
    simp only [builtin, map_list]
    exact run_value h1
  · rename_i hb; cases hb
    simp only [Option.map_eq_some_iff] at he
    obtain ⟨z, hz, rfl⟩ := he
    obtain ⟨k, j, rfl, h1⟩ := run_max (P := P) h hz c.argTypes ty
    refine .same h (run_builtin rfl hc fun consts => ?_) (.v (.int _ _))
    simp only [builtin, map_list]
    exact run_value h1
  · rename_i hb; cases hb
    split at he
    · rename_i x t hx ht
      have e1 : c.args = #[x] := by apply Array.toList_inj.1; exact hx
      have e2 : c.argTypes = #[t] := by apply Array.toList_inj.1; exact ht
      simp only [Option.map_eq_some_iff] at he
      obtain ⟨up, hup, rfl⟩ := he
      obtain ⟨w', h1, h2⟩ := h.clear (ty := ty) (h.ev x) hup
      refine ⟨.tuple #[], w', F, L, run_builtin rfl hc fun consts => ?_, h2, .tup [] [] rfl (by simp)⟩
      simp only [builtin, e1, e2, map_list, List.map_cons, List.map_nil]
      exact run_value h1
    · cases he
  · rename_i hb; cases hb
    split at he
    · rename_i x y t t2 hx ht
      have e1 : c.args = #[x, y] := by apply Array.toList_inj.1; exact hx
      have e2 : c.argTypes = #[t, t2] := by apply Array.toList_inj.1; exact ht
      simp only [Option.map_eq_some_iff] at he
      obtain ⟨⟨mm, up⟩, hup, rfl⟩ := he
      obtain ⟨w', h1, h2⟩ := h.copy (t2 := t2) (ty := ty) (h.ev x) (h.ev y) hup
      refine ⟨.int .i64 mm, w', F, L, run_builtin rfl hc fun consts => ?_, h2, .v (.int _ _)⟩
      simp only [builtin, e1, e2, map_list, List.map_cons, List.map_nil]
      exact run_value h1
    · cases he
  · rename_i hb; cases hb
  · cases he

theorem call_ok (hΓ : ∀ f s, Γ f = some s → Sound P f s) (h : Sim O S n a w F L) {c : Call} {fo : Operand} (hc : c.callee = .value fo) (ht : ∀ t, dst = some t → t < n) {E : Eff} (he : eff P Γ S.ev S.m ⟨dst, .call c, ty, pos, after, guard⟩ = some E)
    {K : Act → World → Prop} {Q : Exit → Act → World → Prop} (hK : ∀ a' w' F' L', Sim O (S.app dst E) n a' w' F' L' → K a' w') : Oper.wp P ⟨dst, .call c, ty, pos, after, guard⟩ a w K Q := by
  simp only [eff, hc] at he
  split at he
  · rename_i r f caps hf
    simp only [Option.bind_eq_some_iff] at he
    obtain ⟨s, hs, he⟩ := he
    obtain ⟨vs, hv, hvl, hvr⟩ := fn_inv (h.ev fo) hf
    have hS := hΓ f s hs
    have hrun : (execOp a.eval ⟨some r, .call c, ty, pos, after, guard⟩).run P w = .ok (.enter f (c.args.toList.map a.eval ++ vs).toArray) w := by
      unfold execOp
      simp only [resolve, hc, Deferred.ofValue, hv]
      have : (#[] ++ c.args.map a.eval) ++ vs.toArray = (c.args.toList.map a.eval ++ vs).toArray := by simp [map_list]
      show (callFunc f ((#[] ++ c.args.map a.eval) ++ vs.toArray)).run P w = _
      rw [this]
      exact callOk_inv hS.1 _
    unfold Oper.wp
    rw [hrun, Oper.upon_enter]
    refine Calls.mono (h.call (ht r rfl) hS (ds := c.args.toList.map S.ev ++ caps) (by simp [hvl]) (fun i d v hd hv => ?_) he) ?_
    · by_cases hi : i < c.args.toList.length
      · rw [List.getElem?_append_left (by simpa using hi)] at hd hv
        exact args_rd h c.args.toList i d v hd hv
      · rw [List.getElem?_append_right (by simpa using hi)] at hd hv
        simp only [List.length_map] at hd hv
        exact hvr _ d v hd hv
    · rintro e w' ⟨v, F', L', rfl, h1⟩
      exact hK _ _ _ _ h1
  · cases he
end

/-- For every operation: what 'eff' says is what the model's step does. -/
theorem eff_ok (hΓ : ∀ f s, Γ f = some s → Sound P f s) (h : Sim O S n a w F L) {o : Oper} (ht : ∀ t, o.dst = some t → t < n) {E : Eff} (he : eff P Γ S.ev S.m o = some E)
    {K : Act → World → Prop} {Q : Exit → Act → World → Prop} (hK : ∀ a' w' F' L', Sim O (S.app o.dst E) n a' w' F' L' → K a' w') : o.wp P a w K Q := by
  obtain ⟨dst, op, ty, pos, after, guard⟩ := o
  simp only at ht hK
  cases op with
  | move x => cases he; exact (Fin.same h (v := a.eval x) rfl (h.ev x)).wp ht hK
  | assign x => cases he; exact (Fin.same h (v := a.eval x) rfl (h.ev x)).wp ht hK
  | pick c x y => exact (fin_pick h he).wp ht hK
  | alloc e => exact (fin_alloc h he).wp ht hK
  | box e x => exact (fin_box h he).wp ht hK
  | build t ps => exact (fin_build h he).wp ht hK
  | buildSlice t l ps => exact (fin_buildSlice h he).wp ht hK
  | load t p => exact (fin_load h he).wp ht hK
  | store t p x =>
    simp only [eff] at he
    split at he
    · rename_i hd
      cases hd
      simp only [Option.map_eq_some_iff] at he
      obtain ⟨up, hup, rfl⟩ := he
      obtain ⟨w', F', L', h1, h2⟩ := h.store (h.ev p) (h.ev x) hup
      unfold Oper.wp
      simp only [execOp]
      rw [run_unit h1]
      exact hK _ _ _ _ h2
    · cases he
  | nilCheck x => exact (fin_nilCheck h he).wp ht hK
  | binOp op t x y yt => exact (fin_binOp h he).wp ht hK
  | unOp op t x => exact (fin_unOp h he).wp ht hK
  | convert t u x => exact (fin_convert h he).wp ht hK
  | makeFunc f first caps => exact (fin_makeFunc h he).wp ht hK
  | makeSlice t l c => exact (fin_makeSlice h he).wp ht hK
  | slice t x lo hi mx => exact (fin_slice h he).wp ht hK
  | fieldAddr s x f => exact (fin_fieldAddr h he).wp ht hK
  | field t x f => exact (fin_field h he).wp ht hK
  | indexAddr t x i => exact (fin_indexAddr h he).wp ht hK
  | index t x i => exact (fin_index h he).wp ht hK
  | extract x i => exact (fin_extract h he).wp ht hK
  | call c =>
    cases hc : c.callee with
    | builtin b => exact (fin_builtin h hc he).wp ht hK
    | value fo => exact call_ok hΓ h hc ht he hK
    | invoke r nm => simp [eff, hc] at he
  | _ => simp [eff] at he

end Go.Proofs.YtdhdhcllgkddnaaGreat.Va

namespace Go.Proofs.YtdhdhcllgkddnaaGreat.Va
open Go Go.RowKit

variable {P : Program} {m m' : Nat → RS} {Γ : FuncId → Option Spec}

/-- The regions that a variable's cells lead to. -/
def boxRids (m : Nat → RS) (r : Nat) : List Nat :=
  match (m r).reg with
  | some ⟨.box cs, _⟩ => cs.flatMap D.ridsC
  | _ => []
def ridsAll (m : Nat → RS) (d : D) : List Nat := d.rids ++ d.rids.flatMap (boxRids m)
def Agree (m m' : Nat → RS) (d : D) : Prop := ∀ r ∈ ridsAll m d, m' r = m r

theorem Agree.rid {d : D} (h : Agree m m' d) {r : Nat} (hr : r ∈ d.rids) : m' r = m r := h r (List.mem_append_left _ hr)
theorem Agree.box {d : D} (h : Agree m m' d) {r q : Nat} (hr : r ∈ d.rids) (hq : q ∈ boxRids m r) : m' q = m q := h q (List.mem_append_right _ (List.mem_flatMap.2 ⟨r, hr, hq⟩))

theorem live_eq {r : Nat} (h : m' r = m r) (g : Nat) : live m' r g = live m r g := by simp [live, h]

theorem mapM_eq {α β : Type} {f g : α → Option β} : ∀ {l : List α}, (∀ x ∈ l, f x = g x) → l.mapM f = l.mapM g
  | [], _ => rfl
  | x :: l, h => by
    rw [List.mapM_cons, List.mapM_cons, h x (by simp), mapM_eq fun y hy => h y (List.mem_cons_of_mem _ hy)]

theorem rowOf_eqC {d : D} (h : ∀ r ∈ d.ridsC, m' r = m r) : rowOf m' d = rowOf m d := by
  cases d with
  | own r g off len => simp only [rowOf, live_eq (h r (by simp [D.ridsC]))]
  | v x => cases x <;> rfl
  | _ => rfl
theorem rids_ridsC {d : D} (hd : ∀ cs, d ≠ .agg cs) (hf : ∀ f cs, d ≠ .fn f cs) (ht : ∀ cs, d ≠ .tup cs) : d.rids = d.ridsC := by
  cases d <;> first | rfl | (exact absurd rfl (hd _)) | (exact absurd rfl (hf _ _)) | (exact absurd rfl (ht _))
theorem rowOf_eq {d : D} (h : Agree m m' d) : rowOf m' d = rowOf m d := by
  cases d with
  | own r g off len => exact rowOf_eqC fun q hq => h.rid (d := .own r g off len) hq
  | v x => cases x <;> rfl
  | _ => rfl
theorem deepC_eq {d : D} (h : ∀ r ∈ d.ridsC, m' r = m r) : deepC m' d = deepC m d := by
  cases d with
  | own r g off len => simp only [deepC, rowOf_eqC h]
  | _ => rfl
theorem deepCs_eq {cs : List D} (h : ∀ r ∈ cs.flatMap D.ridsC, m' r = m r) : cs.mapM (deepC m') = cs.mapM (deepC m) :=
  mapM_eq fun x hx => deepC_eq fun r hr => h r (List.mem_flatMap.2 ⟨x, hx, hr⟩)
theorem deep_eq {d : D} (h : Agree m m' d) : deep m' d = deep m d := by
  cases d with
  | own r g off len => exact deepC_eq (d := .own r g off len) fun q hq => h.rid (d := .own r g off len) hq
  | agg cs => simp only [deep, deepCs_eq fun r hr => h.rid (d := .agg cs) hr]
  | fn f cs => simp only [deep, deepCs_eq fun r hr => h.rid (d := .fn f cs) hr]
  | _ => rfl
theorem isNil_eq {d : D} (h : Agree m m' d) : d.isNil m' = d.isNil m := by
  cases d with
  | own r g off len => simp only [D.isNil, rowOf_eq h]
  | v x => cases x <;> rfl
  | _ => rfl
theorem freezeAll_eq : ∀ {rs : List Nat}, (∀ r ∈ rs, m' r = m r) → freezeAll m' rs = freezeAll m rs
  | [], _ => rfl
  | r :: rs, h => by simp only [freezeAll, setReg, h r (by simp), freezeAll_eq fun q hq => h q (List.mem_cons_of_mem _ hq)]
theorem binD_eq {op : BinOp} {t : TypeId} {x y : D} (hx : Agree m m' x) : binD P m' op t x y = binD P m op t x y := by
  cases y with
  | v y =>
    cases y with
    | nil =>
      have h := isNil_eq hx
      cases x with
      | v x => cases x <;> rfl
      | own r g off len => simp only [binD, h]
      | _ => rfl
    | _ => cases x <;> first | rfl | (rename_i x; cases x <;> rfl)
  | _ => cases x <;> first | rfl | (rename_i x; cases x <;> rfl)
theorem fillRow_eq {sz : Nat} {sh : List (Option Nat)} : ∀ {parts : List (Nat × D)} {els : List V}, (∀ x ∈ parts, Agree m m' x.2) → fillRow sz sh m' els parts = fillRow sz sh m els parts
  | [], _, _ => rfl
  | (i, d) :: rest, els, h => by
    simp only [fillRow, deep_eq (h (i, d) (by simp))]
    split
    · split
      · exact fillRow_eq fun x hx => h x (List.mem_cons_of_mem _ hx)
      · rfl
    · rfl
theorem effLoad_eq {t : TypeId} {p : D} (h : Agree m m' p) : effLoad P m' t p = effLoad P m t p := by
  cases p with
  | ptr r g i c => simp only [effLoad, live_eq (h.rid (d := .ptr r g i c) (r := r) (by simp [D.rids, D.ridsC]))]
  | _ => rfl
theorem effStore_eq {t : TypeId} {p x : D} (h : Agree m m' p) (hx : Agree m m' x) : effStore P m' t p x = effStore P m t p x := by
  cases p with
  | ptr r g i c =>
    have hr := h.rid (d := .ptr r g i c) (r := r) (by simp [D.rids, D.ridsC])
    have hf : freezeAll m' x.rids = freezeAll m x.rids := freezeAll_eq fun q hq => hx.rid hq
    simp only [effStore, live_eq hr, deep_eq hx, hf, setReg, hr]
  | _ => rfl
theorem effIndexAddr_eq {t : TypeId} {x j : D} (h : Agree m m' x) : effIndexAddr P m' t x j = effIndexAddr P m t x j := by
  cases x with
  | ptr r g i c => cases hi : intOfD j <;> simp only [effIndexAddr, hi, live_eq (h.rid (d := .ptr r g i c) (r := r) (by simp [D.rids, D.ridsC]))]
  | own r g i c => cases hi : intOfD j <;> simp only [effIndexAddr, hi, live_eq (h.rid (d := .own r g i c) (r := r) (by simp [D.rids, D.ridsC]))]
  | v x => cases x <;> cases hi : intOfD j <;> simp only [effIndexAddr, hi]
  | _ => rfl
theorem effSlice_eq {t : TypeId} {x : D} {lo hi : Option D} (h : Agree m m' x) : effSlice P m' t x lo hi = effSlice P m t x lo hi := by
  cases x with
  | own r g i c => simp only [effSlice, live_eq (h.rid (d := .own r g i c) (r := r) (by simp [D.rids, D.ridsC]))]
  | v x => cases x <;> rfl
  | _ => rfl
theorem srcOf_eq {k : Nat} {t : TypeId} {x : D} (h : Agree m m' x) : srcOf P m' k t x = srcOf P m k t x := by
  have hr := rowOf_eq h
  cases x with
  | v x => cases x <;> first | rfl | simp only [srcOf, hr]
  | _ => simp only [srcOf, hr]
theorem effAppend_eq {dst : Nat} {ts tx : TypeId} {s x : D} (hd : m' dst = m dst) (hs : Agree m m' s) (hx : Agree m m' x) : effAppend P m' dst ts tx s x = effAppend P m dst ts tx s x := by
  cases s with
  | own r g i c =>
    have hr := hs.rid (d := .own r g i c) (r := r) (by simp [D.rids, D.ridsC])
    simp only [effAppend, live_eq hr, srcOf_eq hx, newReg, killReg, hd, hr]
  | v x => cases x <;> simp only [effAppend, srcOf_eq hx, newReg, hd]
  | _ => simp only [effAppend, srcOf_eq hx, newReg, hd]
theorem effClear_eq {t : TypeId} {x : D} (h : Agree m m' x) : effClear P m' t x = effClear P m t x := by
  unfold effClear
  cases x <;> try rfl
  rename_i r g off len
  have hr : m' r = m r := h r (by simp [ridsAll, D.rids, D.ridsC])
  simp only [live, hr, setReg]

theorem effCopy_eq {t : TypeId} {x y : D} (hx : Agree m m' x) (hy : Agree m m' y) : effCopy P m' t x y = effCopy P m t x y := by
  have hr := rowOf_eq hy
  cases x with
  | own r g off len =>
    have hr0 : m' r = m r := hx r (by simp [ridsAll, D.rids, D.ridsC])
    simp only [effCopy, live, hr0, hr, setReg]
  | _ => rfl


theorem effLen_eq {t : TypeId} {x : D} (h : Agree m m' x) : effLen P m' t x = effLen P m t x := by
  cases x with
  | own r g i c => simp only [effLen, rowOf_eq h]
  | v x => cases x <;> rfl
  | _ => rfl
theorem argOf_eq {md : Mode} {d : D} (h : Agree m m' d) : argOf m' md d = argOf m md d := by
  cases md with
  | rd sh => simp only [argOf, deep_eq h]
  | io sh =>
    cases d with
    | ptr r g i c =>
      have hr := h.rid (d := .ptr r g i c) (r := r) (by simp [D.rids, D.ridsC])
      simp only [argOf, live_eq hr]
      split
      · rename_i cs hl
        split
        · rw [deepCs_eq fun q hq => h.box (d := .ptr r g i c) (r := r) (by simp [D.rids, D.ridsC]) (by simpa only [boxRids, (live_reg hl).2] using hq)]
        · rfl
      · rfl
    | _ => rfl
  | ios =>
    cases d with
    | own r g i c => simp only [argOf, live_eq (h.rid (d := .own r g i c) (r := r) (by simp [D.rids, D.ridsC]))]
    | _ => rfl
  | take sz =>
    cases d with
    | own r g i c => simp only [argOf, live_eq (h.rid (d := .own r g i c) (r := r) (by simp [D.rids, D.ridsC]))]
    | v x => cases x <;> rfl
    | _ => rfl
theorem argsOf_eq : ∀ {ms : List Mode} {ds : List D}, (∀ d ∈ ds, Agree m m' d) → argsOf m' ms ds = argsOf m ms ds
  | [], [], _ => rfl
  | [], d :: ds, _ => rfl
  | md :: ms, [], _ => rfl
  | md :: ms, d :: ds, h => by simp only [argsOf, argOf_eq (h d (by simp)), argsOf_eq fun x hx => h x (List.mem_cons_of_mem _ hx)]
theorem argOf_rids {md : Mode} {d : D} {x : V} {rs ws ks : List Nat} (h : argOf m md d = some (x, rs, ws, ks)) : ∀ r, r ∈ rs ∨ r ∈ ws ∨ r ∈ ks → r ∈ ridsAll m d := by
  unfold argOf at h
  split at h
  · simp only [Option.map_eq_some_iff, Prod.mk.injEq] at h
    obtain ⟨y, hy, rfl, rfl, rfl, rfl⟩ := h
    intro r hr
    exact List.mem_append_left _ (by simpa using hr)
  · rename_i sh r g i c
    split at h
    · rename_i cs hl
      split at h
      · simp only [Option.map_eq_some_iff, Prod.mk.injEq] at h
        obtain ⟨y, hy, rfl, rfl, rfl, rfl⟩ := h
        intro q hq
        rcases hq with hq | hq | hq
        · refine List.mem_append_right _ (List.mem_flatMap.2 ⟨r, by simp [D.rids, D.ridsC], ?_⟩)
          simpa only [boxRids, (live_reg hl).2] using hq
        · simp only [List.mem_singleton] at hq
          subst hq
          exact List.mem_append_left _ (by simp [D.rids, D.ridsC])
        · cases hq
      · cases h
    · cases h
  · split at h
    · split at h
      · simp only [Option.some.injEq, Prod.mk.injEq] at h
        obtain ⟨rfl, rfl, rfl, rfl⟩ := h
        intro q hq
        exact List.mem_append_left _ (by simpa [D.rids, D.ridsC] using hq)
      · cases h
    · cases h
  · split at h
    · split at h
      · simp only [Option.some.injEq, Prod.mk.injEq] at h
        obtain ⟨rfl, rfl, rfl, rfl⟩ := h
        intro q hq
        exact List.mem_append_left _ (by simpa [D.rids, D.ridsC] using hq)
      · cases h
    · cases h
  · simp only [Option.some.injEq, Prod.mk.injEq] at h
    obtain ⟨rfl, rfl, rfl, rfl⟩ := h
    simp
  · cases h
theorem argsOf_rids : ∀ {ms : List Mode} {ds : List D} {xs : List V} {rs ws ks : List Nat}, argsOf m ms ds = some (xs, rs, ws, ks) → ∀ r, r ∈ rs ∨ r ∈ ws ∨ r ∈ ks → ∃ d ∈ ds, r ∈ ridsAll m d
  | [], [], xs, rs, ws, ks, h => by
    simp only [argsOf, Option.some.injEq, Prod.mk.injEq] at h
    obtain ⟨rfl, rfl, rfl, rfl⟩ := h
    simp
  | [], d :: ds, xs, rs, ws, ks, h => by simp [argsOf] at h
  | md :: ms, [], xs, rs, ws, ks, h => by simp [argsOf] at h
  | md :: ms, d :: ds, xs, rs, ws, ks, h => by
    simp only [argsOf] at h
    split at h
    · rename_i x r1 w1 k1 xs' rs' ws' ks' h1 h2
      simp only [Option.some.injEq, Prod.mk.injEq] at h
      obtain ⟨rfl, rfl, rfl, rfl⟩ := h
      intro r hr
      have : (r ∈ r1 ∨ r ∈ w1 ∨ r ∈ k1) ∨ (r ∈ rs' ∨ r ∈ ws' ∨ r ∈ ks') := by
        simp only [List.mem_append] at hr
        rcases hr with (hr | hr) | (hr | hr) | (hr | hr) <;> simp [hr]
      rcases this with hr | hr
      · exact ⟨d, by simp, argOf_rids h1 r hr⟩
      · obtain ⟨e, he, hr⟩ := argsOf_rids h2 r hr
        exact ⟨e, List.mem_cons_of_mem _ he, hr⟩
    · cases h
theorem iosOf_eq : ∀ {ws : List Nat} {zs : List V}, (∀ r ∈ ws, m' r = m r) → iosOf m' ws zs = iosOf m ws zs
  | [], [], _ => rfl
  | [], z :: zs, _ => rfl
  | r :: ws, [], _ => rfl
  | r :: ws, z :: zs, h => by simp only [iosOf, h r (by simp), iosOf_eq fun q hq => h q (List.mem_cons_of_mem _ hq), setReg]
theorem resOf_eq {dst : Nat} (hd : m' dst = m dst) : ∀ {ks : List RK} {xs : List V}, resOf m' dst ks xs = resOf m dst ks xs
  | [], [] => rfl
  | [], x :: xs => rfl
  | .plain _ :: ks, [] => rfl
  | .plain _ :: ks, x :: xs => by simp only [resOf, resOf_eq hd (ks := ks)]
  | .own _ :: ks, [] => rfl
  | .own _ :: ks, x :: xs => by cases x <;> simp only [resOf, resOf_eq hd (ks := ks), newReg, hd]
  | .new :: ks, [] => rfl
  | .new :: ks, x :: xs => by cases x <;> simp only [resOf, resOf_eq hd (ks := ks), newReg, hd]
theorem effCall_eq {dst : Nat} {s : Spec} {ds : List D} (hd : m' dst = m dst) (h : ∀ d ∈ ds, Agree m m' d) : effCall m' dst s ds = effCall m dst s ds := by
  unfold effCall
  rw [argsOf_eq h]
  split
  · rfl
  · rename_i xs rs ws ks ha
    have h1 : ∀ r ∈ ws, m' r = m r := fun r hr => by
      obtain ⟨d, hd, hr⟩ := argsOf_rids ha r (.inr (.inl hr))
      exact h d hd r hr
    have h2 : ∀ r ∈ rs, m' r = m r := fun r hr => by
      obtain ⟨d, hd, hr⟩ := argsOf_rids ha r (.inl hr)
      exact h d hd r hr
    have h3 : ks.map (killReg m') = ks.map (killReg m) := List.map_congr_left fun r hr => by
      obtain ⟨d, hd, hr⟩ := argsOf_rids ha r (.inr (.inr hr))
      simp only [killReg, h d hd r hr]
    simp only [iosOf_eq h1, resOf_eq hd, freezeAll_eq h2, h3]

variable {ev ev' : Operand → D}

theorem flatMap_eq {α β : Type} {f g : α → List β} : ∀ {l : List α}, (∀ x ∈ l, f x = g x) → l.flatMap f = l.flatMap g
  | [], _ => rfl
  | x :: l, h => by rw [List.flatMap_cons, List.flatMap_cons, h x (by simp), flatMap_eq fun y hy => h y (List.mem_cons_of_mem _ hy)]

theorem flat_rids {d : D} (h : d.flat = true) : d.rids = d.ridsC := by cases d <;> first | rfl | cases h

theorem ops_eq {xs : List Operand} (h : ∀ x ∈ xs, ev' x = ev x) : xs.map ev' = xs.map ev := List.map_congr_left h

/-- An operation reads no more than its operands, what these lead to, and its own region. -/
theorem eff_eq {o : Oper} (hev : ∀ x ∈ o.op.operands.toList, ev' x = ev x) (hm : ∀ x ∈ o.op.operands.toList, Agree m m' (ev x)) (hd : ∀ t, o.dst = some t → m' t = m t) : eff P Γ ev' m' o = eff P Γ ev m o := by
  obtain ⟨dst, op, ty, pos, after, guard⟩ := o
  simp only at hev hm hd
  have hnew : ∀ t (reg : Reg), dst = some t → newReg m' t reg = newReg m t reg := fun t reg ht => by simp only [newReg, hd t ht]
  cases op with
  | move x => simp only [eff, hev x (by simp [Op.operands])]
  | assign x => simp only [eff, hev x (by simp [Op.operands])]
  | pick c x y => simp only [eff, hev c (by simp [Op.operands]), hev x (by simp [Op.operands]), hev y (by simp [Op.operands])]
  | alloc e =>
    cases dst with
    | none => rfl
    | some t =>
      have e1 := hd t rfl
      simp only [eff]
      cases zeroV P e <;> simp only [newReg, e1]
  | box e x =>
    cases dst with
    | none => rfl
    | some t => simp only [eff, newReg, hd t rfl, hev x (by simp [Op.operands])]
  | build t ps =>
    have : (ps.toList.map fun x => (x.1, ev' x.2)) = ps.toList.map fun x => (x.1, ev x.2) := List.map_congr_left fun x hx => by
      rw [hev x.2 (by simp only [Op.operands]; exact List.mem_map.2 ⟨x, hx, rfl⟩)]
    simp only [eff, this]
  | buildSlice t l ps =>
    have h1 : (ps.toList.map fun x => (x.1, ev' x.2)) = ps.toList.map fun x => (x.1, ev x.2) := List.map_congr_left fun x hx => by
      rw [hev x.2 (by simp only [Op.operands]; exact List.mem_map.2 ⟨x, hx, rfl⟩)]
    have h2 : (ps.toList.flatMap fun x => (ev' x.2).rids) = ps.toList.flatMap fun x => (ev x.2).rids := flatMap_eq fun x hx => by
      rw [hev x.2 (by simp only [Op.operands]; exact List.mem_map.2 ⟨x, hx, rfl⟩)]
    have h3 : ∀ x ∈ ps.toList, Agree m m' (ev x.2) := fun x hx => hm x.2 (by simp only [Op.operands]; exact List.mem_map.2 ⟨x, hx, rfl⟩)
    have h4 : freezeAll m' (ps.toList.flatMap fun x => (ev x.2).rids) = freezeAll m (ps.toList.flatMap fun x => (ev x.2).rids) := freezeAll_eq fun r hr => by
      obtain ⟨x, hx, hr⟩ := List.mem_flatMap.1 hr
      exact (h3 x hx).rid hr
    have h5 : ∀ k sh els, fillRow k sh m' els (ps.toList.map fun x => (x.1, ev x.2)) = fillRow k sh m els (ps.toList.map fun x => (x.1, ev x.2)) := fun k sh els => fillRow_eq fun x hx => by
      obtain ⟨y, hy, rfl⟩ := List.mem_map.1 hx
      exact h3 y hy
    cases dst with
    | none => simp only [eff]
    | some r =>
      have e1 := hd r rfl
      simp only [eff, h1, h2, h4]
      cases slcOf P t with
      | none => rfl
      | some x => simp only [h5, newReg, e1]
  | load t p => simp only [eff, hev p (by simp [Op.operands]), effLoad_eq (hm p (by simp [Op.operands]))]
  | store t p x => simp only [eff, hev p (by simp [Op.operands]), hev x (by simp [Op.operands]), effStore_eq (hm p (by simp [Op.operands])) (hm x (by simp [Op.operands]))]
  | nilCheck x =>
    have h := hm x (by simp [Op.operands])
    simp only [eff, hev x (by simp [Op.operands])]
    generalize ev x = d at h
    cases d with
    | ptr r g i c => simp only [live_eq (h.rid (d := .ptr r g i c) (r := r) (by simp [D.rids, D.ridsC]))]
    | v x => cases x <;> rfl
    | _ => rfl
  | binOp op t x y yt => simp only [eff, hev x (by simp [Op.operands]), hev y (by simp [Op.operands]), binD_eq (hm x (by simp [Op.operands]))]
  | unOp op t x => simp only [eff, hev x (by simp [Op.operands])]
  | convert t u x =>
    have h := hm x (by simp [Op.operands])
    simp only [eff, hev x (by simp [Op.operands])]
    generalize ev x = d at h
    have h1 := rowOf_eq h
    split <;> try rfl
    split <;> try rfl
    split <;> try rfl
    rw [h1]
  | makeFunc f first caps =>
    have : caps.toList.map ev' = caps.toList.map ev := ops_eq fun x hx => hev x (by simp only [Op.operands, Array.toList_append]; exact List.mem_append_right _ hx)
    simp only [eff, this]
  | makeSlice t l c =>
    cases dst with
    | none => simp only [eff]
    | some r =>
      have e1 := hd r rfl
      simp only [eff, hev l (by simp [Op.operands]), hev c (by simp [Op.operands])]
      cases slcOf P t with
      | none => rfl
      | some x =>
        rcases x with ⟨e, k, by_⟩
        cases ev l <;> try rfl
        rename_i xl
        cases xl <;> try rfl
        cases ev c <;> try rfl
        rename_i xc
        cases xc <;> try rfl
        simp only [newReg, e1]
  | slice t x lo hi mx =>
    have h1 : lo.map ev' = lo.map ev := by
      cases lo with
      | none => rfl
      | some y => simp only [Option.map_some, hev y (by simp [Op.operands])]
    have h2 : hi.map ev' = hi.map ev := by
      cases hi with
      | none => rfl
      | some y => simp only [Option.map_some, hev y (by simp [Op.operands])]
    cases mx with
    | none => simp only [eff, hev x (by simp [Op.operands]), h1, h2, effSlice_eq (hm x (by simp [Op.operands]))]
    | some q => simp only [eff, hev x (by simp [Op.operands]), hev q (by simp [Op.operands]), h1, h2]
  | fieldAddr s x f =>
    have h := hm x (by simp [Op.operands])
    simp only [eff, hev x (by simp [Op.operands])]
    generalize ev x = d at h
    cases d with
    | ptr r g i c => simp only [live_eq (h.rid (d := .ptr r g i c) (r := r) (by simp [D.rids, D.ridsC]))]
    | _ => rfl
  | field t x f => simp only [eff, hev x (by simp [Op.operands])]
  | indexAddr t x i => simp only [eff, hev x (by simp [Op.operands]), hev i (by simp [Op.operands]), effIndexAddr_eq (hm x (by simp [Op.operands]))]
  | index t x i => simp only [eff, hev x (by simp [Op.operands]), hev i (by simp [Op.operands])]
  | extract x i => simp only [eff, hev x (by simp [Op.operands])]
  | call c =>
    have hargs : ∀ x ∈ c.args.toList, x ∈ (Op.call c).operands.toList := fun x hx => by
      simp only [Op.operands, Call.operands, Array.toList_append]; exact List.mem_append_right _ hx
    have h1 : c.args.toList.map ev' = c.args.toList.map ev := ops_eq fun x hx => hev x (hargs x hx)
    simp only [eff]
    split
    · split
      · rename_i x t hx ht
        simp only [hev x (hargs x (by simp [hx])), effLen_eq (hm x (hargs x (by simp [hx])))]
      · rfl
    · split
      · rename_i r s x ts tx hx ht
        simp only [hev x (hargs x (by simp [hx])), hev s (hargs s (by simp [hx])), effAppend_eq (hd r rfl) (hm s (hargs s (by simp [hx]))) (hm x (hargs x (by simp [hx])))]
      · rfl
    · rw [h1]
    · rw [h1]
    · split
      · rename_i x t hx ht
        simp only [hev x (hargs x (by simp [hx])), effClear_eq (hm x (hargs x (by simp [hx])))]
      · rfl
    · split
      · rename_i x y t t2 hx ht
        simp only [hev x (hargs x (by simp [hx])), hev y (hargs y (by simp [hx])), effCopy_eq (hm x (hargs x (by simp [hx]))) (hm y (hargs y (by simp [hx])))]
      · rfl
    · rename_i fo hc
      have hfo : fo ∈ (Op.call c).operands.toList := by simp only [Op.operands, Call.operands, hc, Array.toList_append]; simp
      rw [hev fo hfo, h1]
      split
      · rename_i r f caps hf
        cases hs : Γ f with
        | none => rfl
        | some s =>
          simp only [Option.bind_some]
          refine effCall_eq (hd r rfl) fun d hd' => ?_
          rcases List.mem_append.1 hd' with hd' | hd'
          · obtain ⟨x, hx, rfl⟩ := List.mem_map.1 hd'
            exact hm x (hargs x hx)
          · have h2 := hm fo hfo
            generalize ev fo = e at hf h2
            unfold fnOf at hf
            split at hf
            · simp only [Option.some.injEq, Prod.mk.injEq] at hf
              obtain ⟨rfl, rfl⟩ := hf
              obtain ⟨y, hy, rfl⟩ := List.mem_map.1 hd'
              intro q hq
              simp [ridsAll, D.rids, D.ridsC] at hq
            · rename_i g cs
              split at hf
              · rename_i hflat
                simp only [Option.some.injEq, Prod.mk.injEq] at hf
                obtain ⟨rfl, rfl⟩ := hf
                have e1 := flat_rids (List.all_eq_true.1 hflat d hd')
                intro q hq
                refine h2 q ?_
                simp only [ridsAll, List.mem_append, List.mem_flatMap] at hq ⊢
                rcases hq with hq | ⟨r, hr, hq⟩
                · exact .inl (List.mem_flatMap.2 ⟨d, hd', e1 ▸ hq⟩)
                · exact .inr ⟨r, List.mem_flatMap.2 ⟨d, hd', e1 ▸ hr⟩, hq⟩
              · cases hf
            · cases hf
      · rfl
    · rfl
  | _ => rfl

end Go.Proofs.YtdhdhcllgkddnaaGreat.Va

namespace Go.Proofs.YtdhdhcllgkddnaaGreat.Va
open Go Go.RowKit

variable {P : Program} {Γ : FuncId → Option Spec}

theorem freezeAll_keys {m : Nat → RS} : ∀ {rs : List Nat} {k : Nat}, k ∈ (freezeAll m rs).map (·.1) → k ∈ rs
  | [], _, h => by simp [freezeAll] at h
  | r :: rs, k, h => by
    simp only [freezeAll] at h
    split at h
    · simp only [setReg, List.map_cons, List.mem_cons] at h
      rcases h with rfl | h
      · simp
      · exact List.mem_cons_of_mem _ (freezeAll_keys h)
    · exact List.mem_cons_of_mem _ (freezeAll_keys h)
theorem iosOf_keys {m : Nat → RS} : ∀ {ws : List Nat} {zs : List V} {up : List (Nat × RS)}, iosOf m ws zs = some up → ∀ k ∈ up.map (·.1), k ∈ ws
  | [], [], up, h => by simp [iosOf] at h; subst h; simp
  | [], z :: zs, up, h => by simp [iosOf] at h
  | r :: ws, [], up, h => by simp [iosOf] at h
  | r :: ws, z :: zs, up, h => by
    simp only [iosOf] at h
    split at h
    · rename_i h1
      split at h
      · simp only [Option.some.injEq] at h
        subst h
        intro k hk
        simp only [setReg, List.map_cons, List.mem_cons] at hk
        rcases hk with rfl | hk
        · simp
        · exact List.mem_cons_of_mem _ (iosOf_keys h1 k hk)
      · cases h
    · rename_i h1
      split at h
      · simp only [Option.some.injEq] at h
        subst h
        intro k hk
        simp only [setReg, List.map_cons, List.mem_cons] at hk
        rcases hk with rfl | hk
        · simp
        · exact List.mem_cons_of_mem _ (iosOf_keys h1 k hk)
      · cases h
    · cases h
theorem resOf_keys {m : Nat → RS} {dst : Nat} : ∀ {ks : List RK} {xs : List V} {ds : List D} {up : List (Nat × RS)}, resOf m dst ks xs = some (ds, up) → ∀ k ∈ up.map (·.1), k = dst
  | [], [], ds, up, h => by simp [resOf] at h; obtain ⟨rfl, rfl⟩ := h; simp
  | [], x :: xs, ds, up, h => by simp [resOf] at h
  | .plain _ :: ks, [], ds, up, h => by simp [resOf] at h
  | .plain _ :: ks, x :: xs, ds, up, h => by
    simp only [resOf, Option.map_eq_some_iff, Prod.mk.injEq] at h
    obtain ⟨⟨ds', up'⟩, h1, rfl, rfl⟩ := h
    exact resOf_keys h1
  | .own _ :: ks, [], ds, up, h => by simp [resOf] at h
  | .own _ :: ks, x :: xs, ds, up, h => by
    cases x with
    | sl sz els =>
      simp only [resOf] at h
      split at h
      · split at h
        · simp only [Option.some.injEq, Prod.mk.injEq] at h
          obtain ⟨rfl, rfl⟩ := h
          intro k hk
          simpa [newReg] using hk
        · cases h
      · cases h
    | _ => simp [resOf] at h
  | .new :: ks, [], ds, up, h => by simp [resOf] at h
  | .new :: ks, x :: xs, ds, up, h => by
    cases x with
    | agg cs =>
      simp only [resOf] at h
      split at h
      · simp only [Option.some.injEq, Prod.mk.injEq] at h
        obtain ⟨rfl, rfl⟩ := h
        intro k hk
        simpa [newReg] using hk
      · cases h
    | _ => simp [resOf] at h

/-- What an operation may touch among the regions. -/
def foot (S : St) (o : Oper) : List Nat := o.dst.toList ++ o.op.operands.toList.flatMap fun x => ridsAll S.m (S.ev x)

theorem mem_foot {S : St} {o : Oper} {x : Operand} (hx : x ∈ o.op.operands.toList) {r : Nat} (hr : r ∈ ridsAll S.m (S.ev x)) : r ∈ foot S o :=
  List.mem_append_right _ (List.mem_flatMap.2 ⟨x, hx, hr⟩)
theorem mem_foot_dst {S : St} {o : Oper} {r : Nat} (h : o.dst = some r) : r ∈ foot S o := List.mem_append_left _ (by rw [h]; simp)
theorem mem_foot_rid {S : St} {o : Oper} {x : Operand} (hx : x ∈ o.op.operands.toList) {r : Nat} (hr : r ∈ (S.ev x).rids) : r ∈ foot S o := mem_foot hx (List.mem_append_left _ hr)

/-- Nothing else turns. -/
theorem eff_keys {S : St} {o : Oper} {E : Eff} (he : eff P Γ S.ev S.m o = some E) : ∀ k ∈ E.up.map (·.1), k ∈ foot S o := by
  obtain ⟨dst, op, ty, pos, after, guard⟩ := o
  have nil : ∀ {d : D}, E = ⟨d, []⟩ → ∀ k ∈ E.up.map (·.1), k ∈ foot S ⟨dst, op, ty, pos, after, guard⟩ := fun h k hk => by subst h; simp at hk
  cases op with
  | move x => cases he; exact nil rfl
  | assign x => cases he; exact nil rfl
  | pick c x y =>
    simp only [eff] at he
    split at he
    · cases he; exact nil rfl
    · cases he
  | alloc e =>
    simp only [eff] at he
    split at he
    · cases he
      intro k hk
      simp only [newReg, List.map_cons, List.map_nil, List.mem_singleton] at hk
      subst hk
      exact mem_foot_dst rfl
    · cases he
  | box e x =>
    simp only [eff] at he
    split at he
    · split at he
      · cases he
        intro k hk
        simp only [newReg, List.map_cons, List.map_nil, List.mem_singleton] at hk
        subst hk
        exact mem_foot_dst rfl
      · cases he
    · cases he
  | build t ps =>
    simp only [eff] at he
    split at he
    · split at he
      · simp only [Option.map_eq_some_iff] at he
        obtain ⟨cs, _, rfl⟩ := he
        exact nil rfl
      · cases he
    · cases he
  | buildSlice t l ps =>
    simp only [eff] at he
    split at he
    · split at he
      · split at he
        · simp only [Option.map_eq_some_iff] at he
          obtain ⟨els, _, rfl⟩ := he
          intro k hk
          simp only [newReg, List.map_cons, List.mem_cons] at hk
          rcases hk with rfl | hk
          · exact mem_foot_dst rfl
          · obtain ⟨x, hx, hr⟩ := List.mem_flatMap.1 (freezeAll_keys hk)
            exact mem_foot_rid (x := x.2) (by simp only [Op.operands]; exact List.mem_map.2 ⟨x, hx, rfl⟩) hr
        · cases he
      · cases he
    · cases he
  | load t p =>
    simp only [eff, Option.map_eq_some_iff] at he
    obtain ⟨d, _, rfl⟩ := he
    exact nil rfl
  | store t p x =>
    simp only [eff] at he
    split at he
    · simp only [Option.map_eq_some_iff] at he
      obtain ⟨up, hup, rfl⟩ := he
      unfold effStore at hup
      split at hup
      · split at hup
        · rename_i r g i c hp
          have hr : r ∈ foot S ⟨dst, .store t p x, ty, pos, after, guard⟩ := mem_foot_rid (x := p) (by simp [Op.operands]) (by rw [hp]; simp [D.rids, D.ridsC])
          split at hup
          · split at hup
            · cases hup
              intro k hk
              simp only [setReg, List.map_cons, List.map_nil, List.mem_singleton] at hk
              subst hk
              exact hr
            · cases hup
          · split at hup
            · split at hup
              · cases hup
                intro k hk
                simp only [setReg, List.map_cons, List.mem_cons] at hk
                rcases hk with rfl | hk
                · exact hr
                · exact mem_foot_rid (x := x) (by simp [Op.operands]) (freezeAll_keys hk)
              · cases hup
            · cases hup
          · cases hup
        · cases hup
      · cases hup
    · cases he
  | nilCheck x =>
    simp only [eff] at he
    split at he
    · split at he
      · cases he; exact nil rfl
      · cases he
    · cases he; exact nil rfl
    · split at he
      · cases he; exact nil rfl
      · cases he
    · cases he
  | binOp op t x y yt =>
    simp only [eff, Option.map_eq_some_iff] at he
    obtain ⟨d, _, rfl⟩ := he
    exact nil rfl
  | unOp op t x =>
    simp only [eff] at he
    split at he
    · simp only [Option.map_eq_some_iff] at he
      obtain ⟨d, _, rfl⟩ := he
      exact nil rfl
    · cases he
  | convert t u x =>
    simp only [eff] at he
    split at he
    · cases he; exact nil rfl
    · cases he; exact nil rfl
    · split at he
      · split at he
        · cases he; exact nil rfl
        · split at he
          · split at he
            · cases he; exact nil rfl
            · cases he
          · cases he
      · cases he
    · split at he
      · split at he
        · cases he; exact nil rfl
        · cases he
      · cases he
    · cases he
  | makeFunc f first caps =>
    simp only [eff] at he
    split at he
    · cases he; exact nil rfl
    · cases he
  | makeSlice t l c =>
    simp only [eff] at he
    split at he
    · split at he
      · split at he
        · cases he
          intro k hk
          simp only [newReg, List.map_cons, List.map_nil, List.mem_singleton] at hk
          subst hk
          exact mem_foot_dst rfl
        · cases he
      · cases he
    · cases he
  | slice t x lo hi mx =>
    simp only [eff] at he
    split at he
    · simp only [Option.map_eq_some_iff] at he
      obtain ⟨d, _, rfl⟩ := he
      exact nil rfl
    · simp only [Option.map_eq_some_iff] at he
      obtain ⟨d, _, rfl⟩ := he
      exact nil rfl
  | fieldAddr s x f =>
    simp only [eff] at he
    split at he
    · split at he
      · split at he
        · cases he
        · split at he
          · split at he
            · cases he; exact nil rfl
            · cases he
          · cases he; exact nil rfl
          · cases he
      · cases he
    · cases he
  | field t x f =>
    simp only [eff] at he
    split at he
    · split at he
      · split at he
        · simp only [Option.map_eq_some_iff] at he
          obtain ⟨d, _, rfl⟩ := he
          exact nil rfl
        · simp only [Option.map_eq_some_iff] at he
          obtain ⟨d, _, rfl⟩ := he
          exact nil rfl
        · cases he
      · cases he
    · cases he
  | indexAddr t x i =>
    simp only [eff, Option.map_eq_some_iff] at he
    obtain ⟨d, _, rfl⟩ := he
    exact nil rfl
  | index t x i =>
    simp only [eff] at he
    split at he
    · split at he
      · simp only [Option.map_eq_some_iff] at he
        obtain ⟨d, _, rfl⟩ := he
        exact nil rfl
      · cases he
    · split at he
      · split at he
        · simp only [Option.map_eq_some_iff] at he
          obtain ⟨d, _, rfl⟩ := he
          exact nil rfl
        · cases he
      · cases he
    · cases he
  | extract x i =>
    simp only [eff] at he
    split at he
    · simp only [Option.map_eq_some_iff] at he
      obtain ⟨d, _, rfl⟩ := he
      exact nil rfl
    · cases he
  | call c =>
    have hargs : ∀ x ∈ c.args.toList, x ∈ (Op.call c).operands.toList := fun x hx => by
      simp only [Op.operands, Call.operands, Array.toList_append]; exact List.mem_append_right _ hx
    simp only [eff] at he
    split at he
    · split at he
      · simp only [Option.map_eq_some_iff] at he
        obtain ⟨d, _, rfl⟩ := he
        exact nil rfl
      · cases he
    · split at he
      · rename_i r s x ts tx hx ht
        unfold effAppend at he
        split at he
        · cases he
        · split at he
          · cases he
          · split at he
            · split at he
              · cases he
                intro k hk
                simp only [newReg, List.map_cons, List.map_nil, List.mem_singleton] at hk
                subst hk
                exact mem_foot_dst rfl
              · cases he
            · rename_i q g off len hs
              split at he
              · split at he
                · cases he
                  intro k hk
                  simp only [newReg, killReg, List.map_cons, List.map_nil, List.mem_cons, List.not_mem_nil, or_false] at hk
                  rcases hk with rfl | rfl
                  · exact mem_foot_dst rfl
                  · exact mem_foot_rid (x := s) (hargs s (by simp [hx])) (by rw [hs]; simp [D.rids, D.ridsC])
                · cases he
              · cases he
            · cases he
      · cases he
    · simp only [Option.map_eq_some_iff] at he
      obtain ⟨d, _, rfl⟩ := he
      exact nil rfl
    · simp only [Option.map_eq_some_iff] at he
      obtain ⟨d, _, rfl⟩ := he
      exact nil rfl
    · split at he
      · rename_i x t hx ht
        simp only [Option.map_eq_some_iff] at he
        obtain ⟨up, hup, rfl⟩ := he
        unfold effClear at hup
        split at hup
        · rename_i r g off len hs
          (repeat' split at hup) <;> first
            | (cases hup
               intro k hk
               simp only [setReg, List.map_cons, List.map_nil, List.mem_singleton] at hk
               subst hk
               exact mem_foot_rid (x := x) (hargs x (by simp [hx])) (by rw [hs]; simp [D.rids, D.ridsC]))
            | cases hup
        · cases hup
      · cases he
    · split at he
      · rename_i x y t t2 hx ht
        simp only [Option.map_eq_some_iff] at he
        obtain ⟨⟨mm, up⟩, hup, rfl⟩ := he
        unfold effCopy at hup
        split at hup
        · rename_i r g off len hs
          (repeat' split at hup) <;> first
            | (simp only [Option.some.injEq, Prod.mk.injEq] at hup
               obtain ⟨_, rfl⟩ := hup
               intro k hk
               simp only [setReg, List.map_cons, List.map_nil, List.mem_singleton] at hk
               subst hk
               exact mem_foot_rid (x := x) (hargs x (by simp [hx])) (by rw [hs]; simp [D.rids, D.ridsC]))
            | cases hup
        · cases hup
      · cases he
    · rename_i fo hc
      have hfo : fo ∈ (Op.call c).operands.toList := by simp only [Op.operands, Call.operands, hc, Array.toList_append]; simp
      split at he
      · rename_i r f caps hf
        simp only [Option.bind_eq_some_iff] at he
        obtain ⟨s, hs, he⟩ := he
        have hsub : ∀ d ∈ c.args.toList.map S.ev ++ caps, ∀ q ∈ ridsAll S.m d, q ∈ foot S ⟨some r, .call c, ty, pos, after, guard⟩ := fun d hd q hq => by
          rcases List.mem_append.1 hd with hd | hd
          · obtain ⟨x, hx, rfl⟩ := List.mem_map.1 hd
            exact mem_foot (hargs x hx) hq
          · refine mem_foot hfo ?_
            generalize S.ev fo = e at hf
            unfold fnOf at hf
            split at hf
            · simp only [Option.some.injEq, Prod.mk.injEq] at hf
              obtain ⟨rfl, rfl⟩ := hf
              obtain ⟨y, hy, rfl⟩ := List.mem_map.1 hd
              simp [ridsAll, D.rids, D.ridsC] at hq
            · split at hf
              · rename_i hflat
                simp only [Option.some.injEq, Prod.mk.injEq] at hf
                obtain ⟨rfl, rfl⟩ := hf
                have e1 := flat_rids (List.all_eq_true.1 hflat d hd)
                simp only [ridsAll, List.mem_append, List.mem_flatMap] at hq ⊢
                rcases hq with hq | ⟨r, hr, hq⟩
                · exact .inl (List.mem_flatMap.2 ⟨d, hd, e1 ▸ hq⟩)
                · exact .inr ⟨r, List.mem_flatMap.2 ⟨d, hd, e1 ▸ hr⟩, hq⟩
              · cases hf
            · cases hf
        unfold effCall at he
        split at he
        · cases he
        · rename_i xs rs ws ks ha
          split at he
          · split at he
            · cases he
            · split at he
              · rename_i up ds new hi hr
                cases he
                intro k hk
                simp only [List.map_append, List.mem_append] at hk
                rcases hk with hk | hk | hk | hk
                · rw [resOf_keys hr k hk]
                  exact mem_foot_dst rfl
                · obtain ⟨d, hd, hq⟩ := argsOf_rids ha k (.inr (.inl (iosOf_keys hi k hk)))
                  exact hsub d hd k hq
                · have hk' : k ∈ ks := by
                    simp only [List.map_map, List.mem_map, Function.comp] at hk
                    obtain ⟨q, hq, rfl⟩ := hk
                    exact hq
                  obtain ⟨d, hd, hq⟩ := argsOf_rids ha k (.inr (.inr hk'))
                  exact hsub d hd k hq
                · split at hk
                  · simp at hk
                  · obtain ⟨d, hd, hq⟩ := argsOf_rids ha k (.inl (freezeAll_keys hk))
                    exact hsub d hd k hq
              · cases he
          · cases he
      · cases he
    · cases he
  | _ => simp [eff] at he

theorem calm_up {S : St} {o : Oper} {E : Eff} (hc : calm1 o = true) (he : eff P Γ S.ev S.m o = some E) : E.up = [] := by
  obtain ⟨dst, op, ty, pos, after, guard⟩ := o
  simp only [calm1, Bool.and_eq_true] at hc
  obtain ⟨_, hc⟩ := hc
  cases op with
  | call c =>
    simp only [eff] at he
    simp only at hc
    cases hcl : c.callee with
    | builtin b =>
      rw [hcl] at hc he
      cases b with
      | len | min | max =>
        simp only at he
        (repeat' split at he) <;>
        first
        | (simp only [Option.map_eq_some_iff] at he
           obtain ⟨d, _, rfl⟩ := he; rfl)
        | cases he
      | _ => exact absurd hc Bool.false_ne_true
    | value fo => rw [hcl] at hc; cases hc
    | invoke r nm => rw [hcl] at hc; cases hc
  | _ =>
    first
    | exact absurd hc Bool.false_ne_true
    | (simp only [eff] at he
       (repeat' split at he) <;>
       first
       | (simp only [Option.map_eq_some_iff] at he
          obtain ⟨d, _, rfl⟩ := he; rfl)
       | (cases he; rfl)
       | cases he)

end Go.Proofs.YtdhdhcllgkddnaaGreat.Va

namespace Go.Proofs.YtdhdhcllgkddnaaGreat.Va
open Go Go.RowKit

variable {P : Program} {Γ : FuncId → Option Spec}

theorem upd_in {m m' : Nat → RS} {r : Nat} : ∀ {l : List (Nat × RS)}, r ∈ l.map (·.1) → upd m l r = upd m' l r
  | [], h => by simp at h
  | (k, x) :: l, h => by
    simp only [upd]
    split
    · rfl
    · rename_i hk
      simp only [List.map_cons, List.mem_cons] at h
      exact upd_in (h.resolve_left hk)
theorem upd_out {m : Nat → RS} {r : Nat} : ∀ {l : List (Nat × RS)}, r ∉ l.map (·.1) → upd m l r = m r
  | [], _ => rfl
  | (k, x) :: l, h => by
    simp only [List.map_cons, List.mem_cons, not_or] at h
    simp only [upd, if_neg h.1]
    exact upd_out h.2

theorem app_f (S : St) (dst : Option Nat) (E : Eff) (t : Nat) : (S.app dst E).f t = if dst = some t then E.d else S.f t := by
  unfold St.app
  rw [setM_f]
  cases dst with
  | none => simp
  | some u =>
    simp only [put_f, Option.some.injEq]
    by_cases h : t = u
    · subst h; simp
    · rw [if_neg h, if_neg (Ne.symm h)]
theorem app_m (S : St) (dst : Option Nat) (E : Eff) : (S.app dst E).m = upd S.m E.up := by
  unfold St.app
  rw [setM_m]
  cases dst <;> rfl

/-- The operations of X are carried out, in the text's order, with fixed effects. -/
def play (dst : Nat → Option Nat) (E : Nat → Eff) (X : Nat → Bool) : Nat → St → St
  | 0, S => S
  | k + 1, S => if X k then (play dst E X k S).app (dst k) (E k) else play dst E X k S

section
variable {dst : Nat → Option Nat} {E : Nat → Eff} {X Y : Nat → Bool} {S : St}

theorem play_f {t : Nat} : ∀ {k : Nat}, (∀ j < k, X j ≠ Y j → dst j ≠ some t) → (play dst E X k S).f t = (play dst E Y k S).f t
  | 0, _ => rfl
  | k + 1, h => by
    have ih := play_f (k := k) fun j hj => h j (Nat.lt_succ_of_lt hj)
    have hk := h k (Nat.lt_succ_self k)
    simp only [play]
    cases hx : X k <;> cases hy : Y k <;> simp only [Bool.false_eq_true, if_true, if_false, app_f]
    · exact ih
    · rw [if_neg (hk (by simp [hx, hy]))]; exact ih
    · rw [if_neg (hk (by simp [hx, hy]))]; exact ih
    · rw [ih]

theorem play_m {r : Nat} : ∀ {k : Nat}, (∀ j < k, X j ≠ Y j → r ∉ (E j).up.map (·.1)) → (play dst E X k S).m r = (play dst E Y k S).m r
  | 0, _ => rfl
  | k + 1, h => by
    have ih := play_m (k := k) fun j hj => h j (Nat.lt_succ_of_lt hj)
    have hk := h k (Nat.lt_succ_self k)
    simp only [play]
    cases hx : X k <;> cases hy : Y k <;> simp only [Bool.false_eq_true, if_true, if_false, app_m]
    · exact ih
    · rw [upd_out (hk (by simp [hx, hy]))]; exact ih
    · rw [upd_out (hk (by simp [hx, hy]))]; exact ih
    · by_cases hr : r ∈ (E k).up.map (·.1)
      · exact upd_in hr
      · rw [upd_out hr, upd_out hr]; exact ih

theorem play_last_f {i t : Nat} (hi : X i = true) (ht : dst i = some t) : ∀ {k : Nat}, i < k → (∀ j, i < j → j < k → X j = true → dst j ≠ some t) → (play dst E X k S).f t = (E i).d
  | 0, hlt, _ => by omega
  | k + 1, hlt, h => by
    simp only [play]
    by_cases hik : i = k
    · subst hik
      rw [hi, if_pos rfl, app_f, if_pos ht]
    · have ih := play_last_f hi ht (k := k) (by omega) fun j h1 h2 => h j h1 (by omega)
      split
      · rename_i hx
        rw [app_f, if_neg (h k (by omega) (by omega) hx)]
        exact ih
      · exact ih

theorem play_last_m {i r : Nat} (hi : X i = true) (hr : r ∈ (E i).up.map (·.1)) (m : Nat → RS) : ∀ {k : Nat}, i < k → (∀ j, i < j → j < k → X j = true → r ∉ (E j).up.map (·.1)) → (play dst E X k S).m r = upd m (E i).up r
  | 0, hlt, _ => by omega
  | k + 1, hlt, h => by
    simp only [play]
    by_cases hik : i = k
    · subst hik
      rw [hi, if_pos rfl, app_m]
      exact upd_in hr
    · have ih := play_last_m hi hr m (k := k) (by omega) fun j h1 h2 => h j h1 (by omega)
      split
      · rename_i hx
        rw [app_m, upd_out (h k (by omega) (by omega) hx)]
        exact ih
      · exact ih

theorem St.ext_ {S T : St} (hf : ∀ t, S.f t = T.f t) (hm : ∀ r, S.m r = T.m r) : S = T := by
  obtain ⟨f, m⟩ := S
  obtain ⟨g, n⟩ := T
  have h1 : f = g := funext hf
  have h2 : m = n := funext hm
  subst h1; subst h2; rfl

/-- One more operation. -/
theorem play_insert {i n : Nat} (hi : X i = false) (hY : ∀ j, Y j = if j = i then true else X j) (hlt : i < n) (hd : ∀ j t, i < j → j < n → X j = true → dst i = some t → dst j ≠ some t) (hk : ∀ j r, i < j → j < n → X j = true → r ∈ (E i).up.map (·.1) → r ∉ (E j).up.map (·.1)) :
    play dst E Y n S = (play dst E X n S).app (dst i) (E i) := by
  have hYi : Y i = true := by rw [hY, if_pos rfl]
  have hYj : ∀ j, j ≠ i → Y j = X j := fun j hj => by rw [hY, if_neg hj]
  refine St.ext_ (fun t => ?_) fun r => ?_
  · rw [app_f]
    by_cases ht : dst i = some t
    · rw [if_pos ht]
      exact play_last_f hYi ht hlt fun j h1 h2 h3 => hd j t h1 h2 (by rw [hYj j (by omega)] at h3; exact h3) ht
    · rw [if_neg ht]
      refine play_f fun j hj hne => ?_
      by_cases hji : j = i
      · subst hji; exact ht
      · exact absurd (hYj j hji) hne
  · rw [app_m]
    by_cases hr : r ∈ (E i).up.map (·.1)
    · rw [play_last_m hYi hr (play dst E X n S).m hlt fun j h1 h2 h3 => hk j r h1 h2 (by rw [hYj j (by omega)] at h3; exact h3) hr]
    · rw [upd_out hr]
      refine play_m fun j hj hne => ?_
      by_cases hji : j = i
      · subst hji; exact hr
      · exact absurd (hYj j hji) hne

theorem play_congr : ∀ {k : Nat}, (∀ j < k, X j = Y j) → play dst E X k S = play dst E Y k S
  | 0, _ => rfl
  | k + 1, h => by simp only [play, h k (Nat.lt_succ_self k), play_congr (k := k) fun j hj => h j (Nat.lt_succ_of_lt hj)]
theorem play_stop : ∀ {n k : Nat}, k ≤ n → (∀ j, k ≤ j → j < n → X j = false) → play dst E X n S = play dst E X k S
  | 0, k, hk, _ => by
    have : k = 0 := by omega
    subst this; rfl
  | n + 1, k, hk, h => by
    by_cases e : k = n + 1
    · subst e; rfl
    · simp only [play, h n (by omega) (by omega), Bool.false_eq_true, if_false]
      exact play_stop (by omega) fun j h1 h2 => h j h1 (by omega)
end

/-- The hard edges, text before. -/
def hard (o : Oper) (e : Edge) : Prop := e ∈ o.after.toList ∧ Region.binds .any e = true

inductive Anc (ops : List Oper) (i : Nat) : Nat → Prop where
  | edge {j : Nat} {o : Oper} {e : Edge} (ho : ops[j]? = some o) (he : hard o e) (hi : e.on = i) : Anc ops i j
  | trans {j : Nat} {o : Oper} {e : Edge} (ho : ops[j]? = some o) (he : hard o e) (h : Anc ops i e.on) : Anc ops i j

def maskOf (acc : List Nat) (o : Oper) : Nat := o.after.toList.foldl (fun s e => if Region.binds .any e = true then (s ||| 2 ^ e.on) ||| acc.getD e.on 0 else s) 0
def masks : List Oper → List Nat → List Nat
  | [], acc => acc
  | o :: rest, acc => masks rest (acc ++ [maskOf acc o])

theorem foldl_mask {acc : List Nat} {i : Nat} : ∀ {l : List Edge} {s : Nat}, (l.foldl (fun s e => if Region.binds .any e = true then (s ||| 2 ^ e.on) ||| acc.getD e.on 0 else s) s).testBit i = true →
    s.testBit i = true ∨ ∃ e ∈ l, Region.binds .any e = true ∧ (e.on = i ∨ (acc.getD e.on 0).testBit i = true)
  | [], s, h => .inl h
  | e :: l, s, h => by
    simp only [List.foldl_cons] at h
    rcases foldl_mask h with h1 | ⟨e', h1, h2⟩
    · split at h1
      · rename_i hb
        simp only [Nat.testBit_or, Bool.or_eq_true, Nat.testBit_two_pow, decide_eq_true_eq] at h1
        rcases h1 with (h1 | h1) | h1
        · exact .inl h1
        · exact .inr ⟨e, by simp, hb, .inl h1⟩
        · exact .inr ⟨e, by simp, hb, .inr h1⟩
      · exact .inl h1
    · exact .inr ⟨e', List.mem_cons_of_mem _ h1, h2⟩

theorem masks_anc {ops : List Oper} {i : Nat} : ∀ {rest : List Oper} {acc : List Nat}, ops = ops.take acc.length ++ rest → acc.length ≤ ops.length → (∀ j, (acc.getD j 0).testBit i = true → Anc ops i j) →
    ∀ j, ((masks rest acc).getD j 0).testBit i = true → Anc ops i j
  | [], acc, _, _, h, j, hj => h j hj
  | o :: rest, acc, ho, hle, h, j, hj => by
    have hl : acc.length < ops.length := by
      have := congrArg List.length ho
      simp at this; omega
    have hoj : ops[acc.length]? = some o := by
      rw [ho, List.getElem?_append_right (by rw [List.length_take]; exact Nat.min_le_left _ _)]
      simp [Nat.min_eq_left hle]
    refine masks_anc (rest := rest) (acc := acc ++ [maskOf acc o]) ?_ (by simp; omega) (fun k hk => ?_) j hj
    · have e1 : ops.take (acc ++ [maskOf acc o]).length = ops.take acc.length ++ [o] := by
        rw [List.length_append, List.length_singleton, List.take_add_one, hoj]; rfl
      rw [e1, List.append_assoc]
      exact ho
    · by_cases hkl : k < acc.length
      · have : (acc ++ [maskOf acc o]).getD k 0 = acc.getD k 0 := by simp [List.getD_eq_getElem?_getD, List.getElem?_append_left hkl]
        rw [this] at hk
        exact h k hk
      · by_cases hke : k = acc.length
        · subst hke
          have : (acc ++ [maskOf acc o]).getD acc.length 0 = maskOf acc o := by simp [List.getD_eq_getElem?_getD]
          rw [this] at hk
          rcases foldl_mask hk with h1 | ⟨e, h1, h2, h3⟩
          · simp at h1
          · rcases h3 with h3 | h3
            · exact .edge hoj ⟨h1, h2⟩ h3
            · exact .trans hoj ⟨h1, h2⟩ (h e.on h3)
        · have : (acc ++ [maskOf acc o]).getD k 0 = 0 := by
            simp only [List.getD_eq_getElem?_getD]
            rw [List.getElem?_eq_none (by simp; omega)]; rfl
          rw [this] at hk
          simp at hk

/-- The pairs that no edge orders. -/
def unordOf (ms : List Nat) (n : Nat) : List (Nat × Nat) := (List.range n).flatMap fun j => (List.range j).filterMap fun i => if (ms.getD j 0).testBit i = true then none else some (i, j)
def unord (ops : List Oper) : List (Nat × Nat) := unordOf (masks ops []) ops.length
def apartAt (ops : List Oper) (p : Nat × Nat) : Bool :=
  match ops[p.1]?, ops[p.2]? with
  | some x, some y => x.apart ops.toArray y
  | _, _ => true
def calmAt (ops : List Oper) (p : Nat × Nat) : Bool :=
  match ops[p.1]?, ops[p.2]? with
  | some x, some y => calm1 x && calm1 y
  | _, _ => true
def edgesOk (ops : List Oper) : Bool := ops.zipIdx.all fun x => x.1.after.toList.all fun e => !Region.binds .any e || decide (e.on < x.2)
def drawOk (ops : List Oper) : Bool := edgesOk ops && (unord ops).all (apartAt ops)
/-- The pairs that must be looked at: one of them turns regions. -/
def pairs (ops : List Oper) : List (Nat × Nat) := (unord ops).filter fun p => !calmAt ops p

theorem mem_unord {ops : List Oper} {i j : Nat} (hij : i < j) (hj : j < ops.length) (h : ¬ Anc ops i j) : (i, j) ∈ unord ops := by
  unfold unord unordOf
  refine List.mem_flatMap.2 ⟨j, List.mem_range.2 hj, List.mem_filterMap.2 ⟨i, List.mem_range.2 hij, ?_⟩⟩
  rw [if_neg]
  intro hb
  exact h (masks_anc (acc := []) (by simp) (by simp) (fun k hk => by simp at hk) j hb)

end Go.Proofs.YtdhdhcllgkddnaaGreat.Va

namespace Go.Proofs.YtdhdhcllgkddnaaGreat.Va
open Go Go.RowKit

variable {P : Program} {Γ : FuncId → Option Spec} {O : Org} {n : Nat} {F : Nat → Prop} {L : Lay}

/-- Guards: the world's answer. -/
theorem wants_ok {S : St} {a : Act} {w : World} (h : Sim O S n a w F L) {ops : List Oper} (hn : ∀ o ∈ ops, ∀ t, o.dst = some t → t < n) {o : Oper} {b : Bool} (hw : wants ops S o = some b) : Region.wanted o (yielded ops.toArray a.tmps) = b := by
  unfold wants at hw
  unfold Region.wanted
  split at hw
  · rename_i hg
    rw [hg]
    simpa using hw
  · rename_i j want hg
    rw [hg]
    simp only [yielded, List.getElem?_toArray]
    split at hw
    · rename_i hd
      rw [hd]
      simp only [Option.some.injEq] at hw
      subst hw
      rfl
    · rename_i d hd
      rw [hd]
      have hlt : d < n := by
        simp only [Option.bind_eq_some_iff] at hd
        obtain ⟨x, hx, hxd⟩ := hd
        exact hn x (List.mem_of_getElem? hx) d hxd
      have hg : a.tmps[d]? = some (a.tmps.getD d undef) := by
        simp [Array.getD_eq_getD_getElem?, h.tmps, hlt]
      simp only [Option.bind_some, hg]
      have hf := h.frame d
      split at hw
      · rename_i x hx
        simp only [Option.some.injEq] at hw
        subst hw
        rw [hx] at hf
        rw [hf.bool_inv]
        cases x <;> cases want <;> rfl
      · rename_i hx
        simp only [Option.some.injEq] at hw
        subst hw
        rw [hx] at hf
        generalize a.tmps.getD d undef = v at hf
        cases hf with
        | tup ds vs hl hr =>
          simp
      · cases hw

theorem rd_undef {w : World} {m : Nat → RS} : RD w F m L (.tup []) undef := .tup [] [] rfl (by simp)

/-- One operation of a region. -/
theorem step_ok (hΓ : ∀ f s, Γ f = some s → Sound P f s) {S S' : St} {a : Act} {w : World} (h : Sim O S n a w F L) {ops : List Oper} (hn : ∀ o ∈ ops, ∀ t, o.dst = some t → t < n) {i : Nat} {o : Oper} (ho : ops[i]? = some o)
    (hs : stepS P Γ ops S o = some S') {K : Act → World → Prop} {Q : Exit → Act → World → Prop} (hK : ∀ a' w' F' L', Sim O S' n a' w' F' L' → K a' w') : wpOp P ops.toArray Q i K a w := by
  have hno := hn o (List.mem_of_getElem? ho)
  unfold wpOp
  simp only [List.getElem?_toArray, ho]
  unfold stepS at hs
  split at hs
  · rename_i hw
    rw [wants_ok h hn hw, if_pos rfl]
    simp only [Option.map_eq_some_iff] at hs
    obtain ⟨E, he, rfl⟩ := hs
    exact .inl (eff_ok hΓ h hno he hK)
  · rename_i hw
    rw [wants_ok h hn hw, if_neg (by simp)]
    simp only [Option.some.injEq] at hs
    subst hs
    exact hK _ _ _ _ (h.putO hno rd_undef)
  · cases hs

theorem ops_ok (hΓ : ∀ f s, Γ f = some s → Sound P f s) {ops : List Oper} (hn : ∀ o ∈ ops, ∀ t, o.dst = some t → t < n) {S' : St} {Q : Exit → Act → World → Prop} (hQ : ∀ a' w' F' L', Sim O S' n a' w' F' L' → Q .normal a' w') :
    ∀ (rest : List Oper) (k : Nat) (S : St) (a : Act) (w : World) (F : Nat → Prop) (L : Lay), ops.drop k = rest → Sim O S n a w F L → runOps P Γ ops rest S = some S' → wpOps P ops.toArray Q (List.range' k rest.length) a w
  | [], k, S, a, w, F, L, hk, h, hr => by
    simp only [runOps, Option.some.injEq] at hr
    subst hr
    exact hQ _ _ _ _ h
  | o :: rest, k, S, a, w, F, L, hk, h, hr => by
    have ho : ops[k]? = some o := by
      have := congrArg (·[0]?) hk
      simpa using this
    have hd : ops.drop (k + 1) = rest := by
      have := congrArg (List.drop 1) hk
      simpa using this
    simp only [runOps, Option.bind_eq_some_iff] at hr
    obtain ⟨S1, h1, h2⟩ := hr
    rw [List.length_cons, List.range'_succ, wpOps_cons]
    exact step_ok hΓ h hn ho h1 fun a' w' F' L' h' => ops_ok hΓ hn hQ rest (k + 1) S1 a' w' F' L' hd h' h2

/-- A region in the text's order. -/
theorem region_ok (hΓ : ∀ f s, Γ f = some s → Sound P f s) {S S' : St} {a : Act} {w : World} (h : Sim O S n a w F L) {id : Nat} {ops : List Oper} (hn : ∀ o ∈ ops, ∀ t, o.dst = some t → t < n)
    (hr : runOps P Γ ops ops S = some S') {Q : Exit → Act → World → Prop} (hQ : ∀ a' w' F' L', Sim O S' n a' w' F' L' → Q .normal a' w') : (Code.region id ops.toArray false).wp P Q a w := by
  refine wp_region ?_
  have := ops_ok hΓ hn hQ ops 0 S a w F L rfl h hr
  rw [List.range_eq_range']
  simpa using this

/-- The effect of one operation of a region. -/
def stepE (P : Program) (Γ : FuncId → Option Spec) (ops : List Oper) (S : St) (o : Oper) : Option Eff :=
  match wants ops S o with
  | some true => eff P Γ S.ev S.m o
  | some false => some ⟨.tup [], []⟩
  | none => none
theorem stepS_E {ops : List Oper} {S : St} {o : Oper} : stepS P Γ ops S o = (stepE P Γ ops S o).map (S.app o.dst) := by
  unfold stepS stepE
  cases wants ops S o with
  | none => rfl
  | some b => cases b <;> rfl

/-- The run, and what some operations may touch, and turn. -/
def runD (P : Program) (Γ : FuncId → Option Spec) (ops : List Oper) (ws : List Nat) : List Oper → Nat → St → List (Nat × List Nat × List Nat) → Option (St × List (Nat × List Nat × List Nat))
  | [], _, S, fs => some (S, fs)
  | o :: rest, k, S, fs => (stepE P Γ ops S o).bind fun E => runD P Γ ops ws rest (k + 1) (S.app o.dst E) (if ws.contains k then (k, foot S o, E.up.map (·.1)) :: fs else fs)
def lookF (fs : List (Nat × List Nat × List Nat)) (k : Nat) : Option (List Nat × List Nat) :=
  match fs with
  | [] => none
  | (i, f) :: rest => if k = i then some f else lookF rest k
/-- What one turns, the other does not touch. -/
def disj (fs : List (Nat × List Nat × List Nat)) (p : Nat × Nat) : Bool :=
  match lookF fs p.1, lookF fs p.2 with
  | some a, some b => (a.2.all fun x => !b.1.contains x) && (b.2.all fun x => !a.1.contains x)
  | _, _ => false

section
variable (P Γ)
def dstAt (ops : List Oper) (k : Nat) : Option Nat := (ops[k]?).bind (·.dst)
/-- The effect of operation k. -/
def effAt (ops : List Oper) (S : St) (k : Nat) : Eff :=
  match ops[k]? with
  | none => ⟨.any, []⟩
  | some o =>
    match wants ops S o with
    | some true => (eff P Γ S.ev S.m o).getD ⟨.any, []⟩
    | _ => ⟨.tup [], []⟩
/-- The state before operation k, in the text's order. -/
def stAt (ops : List Oper) (S : St) : Nat → St
  | 0 => S
  | k + 1 => (stAt ops S k).app (dstAt ops k) (effAt P Γ ops (stAt ops S k) k)
end

theorem stAt_play {ops : List Oper} {S : St} : ∀ k, stAt P Γ ops S k = play (dstAt ops) (fun j => effAt P Γ ops (stAt P Γ ops S j) j) (fun _ => true) k S
  | 0 => rfl
  | k + 1 => by simp only [stAt, play, if_true, stAt_play k]

theorem stepS_eff {ops : List Oper} {S S' : St} {k : Nat} {o : Oper} (ho : ops[k]? = some o) (h : stepS P Γ ops S o = some S') : S' = S.app (dstAt ops k) (effAt P Γ ops S k) := by
  unfold stepS at h
  unfold effAt dstAt
  rw [ho]
  split at h
  · rename_i hw
    simp only [Option.map_eq_some_iff] at h
    obtain ⟨E, he, rfl⟩ := h
    simp [hw, he]
  · rename_i hw
    simp only [Option.some.injEq] at h
    subst h
    simp [hw, St.app]
  · cases h

theorem runD_spec {ops : List Oper} {ws : List Nat} {S : St} : ∀ {rest : List Oper} {k : Nat} {fs fs' : List (Nat × List Nat × List Nat)} {S' : St}, ops.drop k = rest → k ≤ ops.length → runD P Γ ops ws rest k (stAt P Γ ops S k) fs = some (S', fs') →
    (∀ j o, k ≤ j → ops[j]? = some o → stepS P Γ ops (stAt P Γ ops S j) o = some (stAt P Γ ops S (j + 1))) ∧ S' = stAt P Γ ops S ops.length ∧ ∀ j f, (j, f) ∈ fs' → (j, f) ∈ fs ∨ ∃ o, ops[j]? = some o ∧ f = (foot (stAt P Γ ops S j) o, (effAt P Γ ops (stAt P Γ ops S j) j).up.map (·.1))
  | [], k, fs, fs', S', hk, hle, h => by
    simp only [runD, Option.some.injEq, Prod.mk.injEq] at h
    obtain ⟨rfl, rfl⟩ := h
    have hl := List.drop_eq_nil_iff.1 hk
    have : k = ops.length := by omega
    subst this
    refine ⟨fun j o hj ho => ?_, rfl, fun j f hf => .inl hf⟩
    have := (List.getElem?_eq_some_iff.1 ho).1
    omega
  | o :: rest, k, fs, fs', S', hk, hle, h => by
    have ho : ops[k]? = some o := by
      have := congrArg (·[0]?) hk
      simpa using this
    have hlt := (List.getElem?_eq_some_iff.1 ho).1
    have hd : ops.drop (k + 1) = rest := by
      have := congrArg (List.drop 1) hk
      simpa using this
    simp only [runD, Option.bind_eq_some_iff] at h
    obtain ⟨E, hE, h2⟩ := h
    have h1 : stepS P Γ ops (stAt P Γ ops S k) o = some ((stAt P Γ ops S k).app o.dst E) := by rw [stepS_E, hE]; rfl
    have e0 : E = effAt P Γ ops (stAt P Γ ops S k) k := by
      unfold stepE at hE
      unfold effAt
      rw [ho]
      simp only
      split at hE
      · rename_i hw; simp [hw, hE]
      · rename_i hw; cases hE; simp [hw]
      · cases hE
    have e2 : (stAt P Γ ops S k).app o.dst E = stAt P Γ ops S (k + 1) := stepS_eff ho h1
    rw [e2] at h2 h1
    obtain ⟨i1, i2, i3⟩ := runD_spec hd hlt h2
    refine ⟨fun j o' hj ho' => ?_, i2, fun j f hf => ?_⟩
    · by_cases e : j = k
      · subst e
        rw [ho] at ho'
        cases ho'
        exact h1
      · exact i1 j o' (by omega) ho'
    · rcases i3 j f hf with h3 | h3
      · split at h3
        · rcases List.mem_cons.1 h3 with h4 | h4
          · cases h4
            exact .inr ⟨o, ho, by rw [e0]⟩
          · exact .inl h4
        · exact .inl h3
      · exact .inr h3

theorem lookF_mem {k : Nat} {f : List Nat × List Nat} : ∀ {fs : List (Nat × List Nat × List Nat)}, lookF fs k = some f → (k, f) ∈ fs
  | [], h => by simp [lookF] at h
  | (i, g) :: rest, h => by
    simp only [lookF] at h
    split at h
    · rename_i e
      cases h; subst e; simp
    · exact List.mem_cons_of_mem _ (lookF_mem h)

end Go.Proofs.YtdhdhcllgkddnaaGreat.Va

namespace Go.Proofs.YtdhdhcllgkddnaaGreat.Va
open Go Go.RowKit

variable {P : Program} {Γ : FuncId → Option Spec} {O : Org} {n : Nat}

section
variable {ops : List Oper} {S : St}

/-- What is known of the run in the text's order. -/
structure Ran (P : Program) (Γ : FuncId → Option Spec) (ops : List Oper) (S : St) : Prop where
  step : ∀ j o, ops[j]? = some o → stepS P Γ ops (stAt P Γ ops S j) o = some (stAt P Γ ops S (j + 1))
  ok : drawOk ops = true
  disj : ∀ i j oi oj, i < j → ops[i]? = some oi → ops[j]? = some oj → ¬ Anc ops i j → (calm1 oi = true ∧ calm1 oj = true) ∨
    ((∀ r ∈ (effAt P Γ ops (stAt P Γ ops S i) i).up.map (·.1), r ∉ foot (stAt P Γ ops S j) oj) ∧ ∀ r ∈ (effAt P Γ ops (stAt P Γ ops S j) j).up.map (·.1), r ∉ foot (stAt P Γ ops S i) oi)

theorem ran_of {S' : St} {ws : List Nat} {fs : List (Nat × List Nat × List Nat)} (hd : drawOk ops = true) (hr : runD P Γ ops ws ops 0 S [] = some (S', fs)) (hp : (pairs ops).all (Va.disj fs) = true) : Ran P Γ ops S ∧ S' = stAt P Γ ops S ops.length := by
  obtain ⟨h1, h2, h3⟩ := runD_spec (k := 0) (by simp) (Nat.zero_le _) hr
  refine ⟨⟨fun j o ho => h1 j o (Nat.zero_le _) ho, hd, fun i j oi oj hij hi hj hanc => ?_⟩, h2⟩
  have hm := mem_unord hij (List.getElem?_eq_some_iff.1 hj).1 hanc
  by_cases hc : calmAt ops (i, j) = true
  · left
    simp only [calmAt, hi, hj, Bool.and_eq_true] at hc
    exact hc
  · right
    have hpair : (i, j) ∈ pairs ops := List.mem_filter.2 ⟨hm, by simpa using hc⟩
    have h4 := List.all_eq_true.1 hp _ hpair
    unfold Va.disj at h4
    split at h4
    · rename_i x y hx hy
      have e1 : x = (foot (stAt P Γ ops S i) oi, (effAt P Γ ops (stAt P Γ ops S i) i).up.map (·.1)) := by
        rcases h3 i x (lookF_mem hx) with h5 | ⟨o, ho, h5⟩
        · simp at h5
        · simp only [hi] at ho; cases ho; exact h5
      have e2 : y = (foot (stAt P Γ ops S j) oj, (effAt P Γ ops (stAt P Γ ops S j) j).up.map (·.1)) := by
        rcases h3 j y (lookF_mem hy) with h5 | ⟨o, ho, h5⟩
        · simp at h5
        · simp only [hj] at ho; cases ho; exact h5
      subst e1; subst e2
      simp only [Bool.and_eq_true] at h4
      refine ⟨fun r hr hr' => ?_, fun r hr hr' => ?_⟩
      · have := List.all_eq_true.1 h4.1 r hr
        simp only [Bool.not_eq_true', List.contains_eq_mem, decide_eq_false_iff_not] at this
        exact this hr'
      · have := List.all_eq_true.1 h4.2 r hr
        simp only [Bool.not_eq_true', List.contains_eq_mem, decide_eq_false_iff_not] at this
        exact this hr'
    · cases h4

abbrev EffS (P : Program) (Γ : FuncId → Option Spec) (ops : List Oper) (S : St) (j : Nat) : Eff := effAt P Γ ops (stAt P Γ ops S j) j

theorem keys_foot (h : Ran P Γ ops S) {i : Nat} {o : Oper} (ho : ops[i]? = some o) {r : Nat} (hr : r ∈ (EffS P Γ ops S i).up.map (·.1)) : r ∈ foot (stAt P Γ ops S i) o ∧ calm1 o = false := by
  have hs := h.step i o ho
  unfold EffS effAt at hr
  rw [ho] at hr
  unfold stepS at hs
  simp only at hr
  split at hs
  · rename_i hw
    rw [hw] at hr
    simp only [Option.map_eq_some_iff] at hs
    obtain ⟨E, he, _⟩ := hs
    rw [he] at hr
    simp only [Option.getD_some] at hr
    refine ⟨eff_keys he r hr, ?_⟩
    cases hc : calm1 o with
    | false => rfl
    | true => rw [calm_up hc he] at hr; simp at hr
  · rename_i hw
    rw [hw] at hr
    simp at hr
  · cases hs

/-- Two operations that no edge orders. -/
structure Apart (P : Program) (Γ : FuncId → Option Spec) (ops : List Oper) (S : St) (i j : Nat) (oi oj : Oper) : Prop where
  look : ∀ d, oj.dst = some d → d ∉ oi.looksAt ops.toArray
  dst : ∀ d, oi.dst = some d → oj.dst ≠ some d
  foot : ∀ r ∈ (EffS P Γ ops S j).up.map (·.1), r ∉ Va.foot (stAt P Γ ops S i) oi
  keys : ∀ r ∈ (EffS P Γ ops S i).up.map (·.1), r ∉ (EffS P Γ ops S j).up.map (·.1)

theorem Ran.apart (h : Ran P Γ ops S) {i j : Nat} {oi oj : Oper} (hi : ops[i]? = some oi) (hj : ops[j]? = some oj) (hu : (j < i ∧ ¬ Anc ops j i) ∨ (i < j ∧ ¬ Anc ops i j)) : Apart P Γ ops S i j oi oj := by
  have hok := h.ok
  simp only [drawOk, Bool.and_eq_true] at hok
  have hall := List.all_eq_true.1 hok.2
  rcases hu with ⟨hij, ha⟩ | ⟨hij, ha⟩
  · have hm := mem_unord hij (List.getElem?_eq_some_iff.1 hi).1 ha
    have hap := hall _ hm
    simp only [apartAt, hi, hj] at hap
    obtain ⟨h1, h2, h3⟩ := Oper.apart_spec hap
    have hd := h.disj j i oj oi hij hj hi ha
    refine ⟨h1, fun d hd hd' => h2 d hd' hd, fun r hr => ?_, fun r hr hr' => ?_⟩
    · obtain ⟨k1, k2⟩ := keys_foot h hj hr
      rcases hd with ⟨c1, _⟩ | hd
      · rw [c1] at k2; cases k2
      · exact hd.1 r hr
    · obtain ⟨k1, k2⟩ := keys_foot h hj hr'
      obtain ⟨k3, _⟩ := keys_foot h hi hr
      rcases hd with ⟨c1, _⟩ | hd
      · rw [c1] at k2; cases k2
      · exact hd.1 r hr' k3
  · have hm := mem_unord hij (List.getElem?_eq_some_iff.1 hj).1 ha
    have hap := hall _ hm
    simp only [apartAt, hi, hj] at hap
    obtain ⟨h1, h2, h3⟩ := Oper.apart_spec hap
    have hd := h.disj i j oi oj hij hi hj ha
    refine ⟨h3, fun d hd => h2 d hd, fun r hr hr' => ?_, fun r hr hr' => ?_⟩
    · obtain ⟨k1, k2⟩ := keys_foot h hj hr
      rcases hd with ⟨_, c1⟩ | hd
      · rw [c1] at k2; cases k2
      · exact hd.2 r hr hr'
    · obtain ⟨k1, k2⟩ := keys_foot h hj hr'
      obtain ⟨k3, _⟩ := keys_foot h hi hr
      rcases hd with ⟨_, c1⟩ | hd
      · rw [c1] at k2; cases k2
      · exact hd.1 r hr k1

def closed (ops : List Oper) (X : Nat → Bool) : Prop := ∀ j o e, X j = true → ops[j]? = some o → hard o e → X e.on = true

theorem anc_in {X : Nat → Bool} (hc : closed ops X) {i j : Nat} (ha : Anc ops i j) : X j = true → X i = true := by
  induction ha with
  | edge ho he hi => intro hj; subst hi; exact hc _ _ _ hj ho he
  | trans ho he _ ih => intro hj; exact ih (hc _ _ _ hj ho he)

/-- One operation that is ready: it does what it does in the text's order. -/
theorem Ran.ready (h : Ran P Γ ops S) {X : Nat → Bool} (hc : closed ops X) {i : Nat} {o : Oper} (ho : ops[i]? = some o) (hi : X i = false) (hr : ∀ e, hard o e → X e.on = true) {Y : Nat → Bool} (hY : ∀ j, Y j = if j = i then true else X j) :
    stepS P Γ ops (play (dstAt ops) (EffS P Γ ops S) X ops.length S) o = some (play (dstAt ops) (EffS P Γ ops S) Y ops.length S) := by
  have hlt := (List.getElem?_eq_some_iff.1 ho).1
  have hanc : ∀ j, Anc ops j i → X j = true := fun j ha => by
    cases ha with
    | edge ho' he hi' => rw [ho] at ho'; cases ho'; subst hi'; exact hr _ he
    | trans ho' he ha => rw [ho] at ho'; cases ho'; exact anc_in hc ha (hr _ he)
  have hun : ∀ j < ops.length, X j ≠ decide (j < i) → (j < i ∧ ¬ Anc ops j i) ∨ (i < j ∧ ¬ Anc ops i j) := fun j hj hne => by
    rcases Nat.lt_trichotomy j i with h1 | h1 | h1
    · left
      refine ⟨h1, fun ha => hne ?_⟩
      rw [hanc j ha]; simp [h1]
    · subst h1
      rw [hi] at hne; simp at hne
    · right
      refine ⟨h1, fun ha => hne ?_⟩
      cases hx : X j with
      | false => simp; omega
      | true => have := anc_in hc ha hx; rw [hi] at this; cases this
  have hSi : stAt P Γ ops S i = play (dstAt ops) (EffS P Γ ops S) (fun j => decide (j < i)) ops.length S := by
    rw [stAt_play, play_stop (k := i) (Nat.le_of_lt hlt) fun j h1 h2 => by simp; omega]
    exact play_congr fun j hj => by simp [hj]
  have hap : ∀ j < ops.length, X j ≠ decide (j < i) → ∃ oj, ops[j]? = some oj ∧ Apart P Γ ops S i j o oj := fun j hj hne => by
    have hoj : ops[j]? = some ops[j] := List.getElem?_eq_getElem hj
    exact ⟨_, hoj, h.apart ho hoj (hun j hj hne)⟩
  have hf : ∀ t ∈ o.looksAt ops.toArray, (play (dstAt ops) (EffS P Γ ops S) X ops.length S).f t = (stAt P Γ ops S i).f t := fun t ht => by
    rw [hSi]
    refine play_f fun j hj hne hd => ?_
    obtain ⟨oj, hoj, ha⟩ := hap j hj hne
    simp only [dstAt, hoj, Option.bind_some] at hd
    exact ha.look t hd ht
  have hm : ∀ r ∈ Va.foot (stAt P Γ ops S i) o, (play (dstAt ops) (EffS P Γ ops S) X ops.length S).m r = (stAt P Γ ops S i).m r := fun r hr => by
    conv => rhs; rw [hSi]
    refine play_m fun j hj hne hk => ?_
    obtain ⟨oj, hoj, ha⟩ := hap j hj hne
    exact ha.foot r hk hr
  have hw : wants ops (play (dstAt ops) (EffS P Γ ops S) X ops.length S) o = wants ops (stAt P Γ ops S i) o := by
    unfold wants
    split
    · rfl
    · rename_i g b hg
      split
      · rfl
      · rename_i d hd
        rw [hf d (by simp [Oper.looksAt, hg, hd])]
  have he : eff P Γ (play (dstAt ops) (EffS P Γ ops S) X ops.length S).ev (play (dstAt ops) (EffS P Γ ops S) X ops.length S).m o = eff P Γ (stAt P Γ ops S i).ev (stAt P Γ ops S i).m o := by
    refine eff_eq (fun x hx => ?_) (fun x hx r hr => hm r (mem_foot hx hr)) fun t ht => hm t (mem_foot_dst ht)
    cases x with
    | tmp t =>
      refine hf t ?_
      simp only [Oper.looksAt, List.mem_append, List.mem_filterMap]
      exact .inl ⟨_, hx, rfl⟩
    | _ => rfl
  have hs := h.step i o ho
  have hE := stepS_eff ho hs
  have hins : play (dstAt ops) (EffS P Γ ops S) Y ops.length S = (play (dstAt ops) (EffS P Γ ops S) X ops.length S).app (dstAt ops i) (EffS P Γ ops S i) := by
    refine play_insert hi hY hlt (fun j t h1 h2 h3 hd hd' => ?_) fun j r h1 h2 h3 hk => ?_
    · obtain ⟨oj, hoj, ha⟩ := hap j h2 (by rw [h3]; simp; omega)
      simp only [dstAt, hoj, ho, Option.bind_some] at hd hd'
      exact ha.dst t hd hd'
    · obtain ⟨oj, hoj, ha⟩ := hap j h2 (by rw [h3]; simp; omega)
      exact ha.keys r hk
  rw [hins]
  have hd0 : dstAt ops i = o.dst := by simp [dstAt, ho]
  rw [hd0]
  unfold stepS at hs ⊢
  rw [hw, he]
  unfold EffS effAt
  rw [ho]
  simp only
  split at hs
  · rename_i hw'
    simp only [hw']
    simp only [Option.map_eq_some_iff] at hs
    obtain ⟨E, he', _⟩ := hs
    rw [he']; rfl
  · rename_i hw'
    simp only [hw']
    rfl
  · cases hs
end

theorem getD_set {l : Array Bool} {i j : Nat} (hi : i < l.size) (x y : Bool) : (l.setIfInBounds i x).getD j y = if j = i then x else l.getD j y := by
  simp only [Array.getD_eq_getD_getElem?]
  by_cases h : j = i
  · subst h; simp [hi]
  · rw [Array.getElem?_setIfInBounds_ne (Ne.symm h), if_neg h]

/-- A region that draws its order. -/
theorem any_ok (hΓ : ∀ f s, Γ f = some s → Sound P f s) {ops : List Oper} (hn : ∀ o ∈ ops, ∀ t, o.dst = some t → t < n) {S : St} (hran : Ran P Γ ops S) {Q : Exit → Act → World → Prop} (hQ : ∀ a' w' F' L', Sim O (stAt P Γ ops S ops.length) n a' w' F' L' → Q .normal a' w') :
    ∀ (fuel : Nat) (listed : Array Bool) (a : Act) (w : World) (F : Nat → Prop) (L : Lay), listed.size = ops.length → closed ops (fun j => listed.getD j false) → listed.toList.count false ≤ fuel →
      Sim O (play (dstAt ops) (EffS P Γ ops S) (fun j => listed.getD j false) ops.length S) n a w F L → wpAny P .any ops.toArray Q fuel listed a w := by
  have fin : ∀ (listed : Array Bool) (a : Act) (w : World) (F : Nat → Prop) (L : Lay), (∀ j < ops.length, listed.getD j false = true) → Sim O (play (dstAt ops) (EffS P Γ ops S) (fun j => listed.getD j false) ops.length S) n a w F L → Q .normal a w := fun listed a w F L hall h => by
    rw [play_congr (Y := fun _ => true) hall, ← stAt_play] at h
    exact hQ _ _ _ _ h
  intro fuel
  induction fuel with
  | zero =>
    intro listed a w F L hsz hc hcnt h
    have hall : ∀ j < ops.length, listed.getD j false = true := fun j hj => by
      have h0 : false ∉ listed.toList := List.count_eq_zero.1 (by omega)
      cases hx : listed.getD j false with
      | true => rfl
      | false =>
        exfalso
        apply h0
        have hj' : j < listed.size := by omega
        simp only [Array.getD_eq_getD_getElem?, Array.getElem?_eq_getElem hj', Option.getD_some] at hx
        rw [← hx]
        exact Array.getElem_mem_toList hj'
    refine ⟨?_, fin listed a w F L hall h⟩
    unfold Region.ready
    refine List.filter_eq_nil_iff.2 fun i hi => ?_
    have hi' : i < ops.length := by simpa using hi
    have h1 := hall i hi'
    have h2 : listed.getD i true = true := by
      have hj' : i < listed.size := by omega
      simpa [Array.getD_eq_getD_getElem?, hj'] using h1
    simp [h2]
  | succ fuel ih =>
    intro listed a w F L hsz hc hcnt h
    refine ⟨fun hr => ?_, fun i hi => ?_⟩
    · refine fin listed a w F L (fun j hj => ?_) h
      have key : ∀ k j, j < k → j < ops.length → listed.getD j false = true := by
        intro k
        induction k with
        | zero => intro j hj _; omega
        | succ k ihk =>
          intro j hj hjl
          cases hx : listed.getD j false with
          | true => rfl
          | false =>
            exfalso
            have hmem : j ∈ Region.ready .any ops.toArray listed := by
              unfold Region.ready
              refine List.mem_filter.2 ⟨by simpa using hjl, ?_⟩
              have hj' : j < listed.size := by omega
              have h2 : listed.getD j true = false := by simpa [Array.getD_eq_getD_getElem?, hj'] using hx
              have hoj : ops[j]? = some ops[j] := List.getElem?_eq_getElem hjl
              simp only [h2, Bool.not_false, Bool.true_and, List.getElem?_toArray, hoj, Option.map_some, Option.getD_some]
              rw [← Array.all_toList]
              refine List.all_eq_true.2 fun e he => ?_
              cases hb : Region.binds .any e with
              | false => rfl
              | true =>
                have hok := hran.ok
                simp only [drawOk, Bool.and_eq_true] at hok
                have h3 := List.all_eq_true.1 hok.1 (ops[j], j) (List.mem_zipIdx_iff_getElem?.2 hoj)
                have h4 := List.all_eq_true.1 h3 e he
                simp only [hb, Bool.not_true, Bool.false_or, decide_eq_true_eq] at h4
                simp [ihk e.on (by omega) (by omega)]
            rw [hr] at hmem
            cases hmem
      exact key (j + 1) j (Nat.lt_succ_self j) hj
    · unfold Region.ready at hi
      obtain ⟨h1, h2⟩ := List.mem_filter.1 hi
      have hil : i < ops.length := by simpa using h1
      have hil' : i < listed.size := by omega
      have hoi : ops[i]? = some ops[i] := List.getElem?_eq_getElem hil
      simp only [Bool.and_eq_true, List.getElem?_toArray, hoi, Option.map_some, Option.getD_some, Bool.not_eq_true'] at h2
      obtain ⟨h3, h4⟩ := h2
      rw [← Array.all_toList] at h4
      have hready : ∀ e, hard ops[i] e → listed.getD e.on false = true := fun e he => by
        have := List.all_eq_true.1 h4 e he.1
        simpa [he.2] using this
      have hXi : listed.getD i false = false := by simpa [Array.getD_eq_getD_getElem?, hil'] using h3
      refine step_ok hΓ h hn hoi (hran.ready hc hoi hXi hready (Y := fun j => (listed.setIfInBounds i true).getD j false) fun j => getD_set hil' true false) fun a' w' F' L' h' => ?_
      refine ih (listed.setIfInBounds i true) a' w' F' L' (by simp [hsz]) (fun j o e hj ho he => ?_) ?_ h'
      · simp only at hj ⊢
        rw [getD_set hil'] at hj ⊢
        split
        · rfl
        · split at hj
          · rename_i e1
            subst e1
            rw [hoi] at ho
            cases ho
            exact hready e he
          · exact hc j o e hj ho he
      · have : listed.toList[i]'(by simpa using hil') = false := by
          simpa [Array.getD_eq_getD_getElem?, hil'] using h3
        rw [Array.toList_setIfInBounds, List.count_set (by simpa using hil')]
        simp only [this]
        rw [if_pos (by decide : (false == false) = true), if_neg (by decide : ¬ (true == false) = true)]
        omega

theorem draw_ok (hm : P.follows .mixedOrders = true) (hΓ : ∀ f s, Γ f = some s → Sound P f s) {S S' : St} {a : Act} {w : World} {F : Nat → Prop} {L : Lay} (h : Sim O S n a w F L) {id : Nat} {ops : List Oper} (hn : ∀ o ∈ ops, ∀ t, o.dst = some t → t < n)
    {ws : List Nat} {fs : List (Nat × List Nat × List Nat)} (hd : drawOk ops = true) (hr : runD P Γ ops ws ops 0 S [] = some (S', fs)) (hp : (pairs ops).all (Va.disj fs) = true) {Q : Exit → Act → World → Prop} (hQ : ∀ a' w' F' L', Sim O S' n a' w' F' L' → Q .normal a' w') :
    (Code.region id ops.toArray true).wp P Q a w := by
  obtain ⟨hran, rfl⟩ := ran_of hd hr hp
  refine wp_region_any hm ?_
  have h0 : play (dstAt ops) (EffS P Γ ops S) (fun j => (Array.replicate ops.length false).getD j false) ops.length S = S := by
    rw [play_stop (k := 0) (Nat.zero_le _) fun j _ h2 => by simp [Array.getD_eq_getD_getElem?, h2]]
    rfl
  have := any_ok (Q := Q) hΓ hn hran hQ ops.length (Array.replicate ops.length false) a w.drew F L (by simp) (fun j o e hj _ _ => by
    simp only [Array.getD_eq_getD_getElem?, Array.getElem?_replicate] at hj
    split at hj <;> simp at hj) (by simp) (by rw [h0]; exact h.drew)
  simpa using this

end Go.Proofs.YtdhdhcllgkddnaaGreat.Va

namespace Go.Proofs.YtdhdhcllgkddnaaGreat.Va
open Go Go.RowKit

inductive AExit where
  | normal
  | exit (id : Nat)
  | ret

def awp (P : Program) (Γ : FuncId → Option Spec) : Code → (AExit → St → Prop) → St → Prop
  | .skip, Q, S => Q .normal S
  | .region _ ops draw, Q, S => (draw = false ∧ ∃ S', runOps P Γ ops.toList ops.toList S = some S' ∧ Q .normal S') ∨
      (draw = true ∧ drawOk ops.toList = true ∧ ∃ ws S' fs, runD P Γ ops.toList ws ops.toList 0 S [] = some (S', fs) ∧ (pairs ops.toList).all (disj fs) = true ∧ Q .normal S')
  | .seq a b, Q, S => awp P Γ a (fun e S' => match e with | .normal => awp P Γ b Q S' | e => Q e S') S
  | .cond c x y, Q, S => ∃ b, S.ev c = .v (.bool b) ∧ (b = true → awp P Γ x Q S) ∧ (b = false → awp P Γ y Q S)
  | .block id c, Q, S => awp P Γ c (fun e S' => match e with | .exit k => if k = id then Q .normal S' else Q (.exit k) S' | e => Q e S') S
  | .loop c, Q, S => ∃ (I : St → Prop) (μ : St → Nat), I S ∧ ∀ S1, I S1 → awp P Γ c (fun e S' => match e with | .normal => I S' ∧ μ S' < μ S1 | e => Q e S') S1
  | .exit id, Q, S => Q (.exit id) S
  | .ret, Q, S => Q .ret S
  | _, _, _ => False

def GotD (o : Option (St × List (Nat × List Nat × List Nat))) (ps : List (Nat × Nat)) (K : St → Prop) : Prop :=
  match o with
  | some (S, fs) => ps.all (disj fs) = true ∧ K S
  | none => False

section
variable {P : Program} {Γ : FuncId → Option Spec} {Q : AExit → St → Prop} {S : St}
@[simp] theorem GotD_some (S : St) (fs : List (Nat × List Nat × List Nat)) (ps : List (Nat × Nat)) (K : St → Prop) : GotD (some (S, fs)) ps K = (ps.all (disj fs) = true ∧ K S) := rfl
theorem runD_nil {ops : List Oper} : ∀ {rest : List Oper} {k : Nat} {S : St} {fs : List (Nat × List Nat × List Nat)}, runD P Γ ops [] rest k S fs = (runOps P Γ ops rest S).map (·, fs)
  | [], k, S, fs => rfl
  | o :: rest, k, S, fs => by
    simp only [runD, runOps, stepS_E]
    cases stepE P Γ ops S o with
    | none => rfl
    | some E =>
      simp only [Option.bind_some, Option.map_some, List.contains_nil, Bool.false_eq_true, if_false]
      exact runD_nil

theorem awp_seq {a b : Code} (h : ∀ K : St → Prop, (∀ S', awp P Γ b Q S' → K S') → awp P Γ a (fun e S' => match e with | .normal => K S' | e => Q e S') S) : awp P Γ (.seq a b) Q S := h _ fun _ h => h
theorem awp_region {id : Nat} {l : List Oper} (h : ∀ K : St → Prop, (∀ S', Q .normal S' → K S') → Got (runOps P Γ l l S) K) : awp P Γ (.region id l.toArray false) Q S := by
  have h1 := h (fun S' => Q .normal S') fun _ h => h
  refine .inl ⟨rfl, ?_⟩
  cases hr : runOps P Γ l l S with
  | none => rw [hr] at h1; exact h1.elim
  | some S' => rw [hr] at h1; exact ⟨S', rfl, h1⟩
/-- A drawn region in which no operation turns what another looks at, but where an edge orders them. -/
theorem awp_draw {id : Nat} {l : List Oper} {ws : List Nat} {ps : List (Nat × Nat)} (hd : drawOk l = true) (hp : pairs l = ps) (h : ∀ K : St → Prop, (∀ S', Q .normal S' → K S') → GotD (runD P Γ l ws l 0 S []) ps K) : awp P Γ (.region id l.toArray true) Q S := by
  have h1 := h (fun S' => Q .normal S') fun _ h => h
  refine .inr ⟨rfl, hd, ?_⟩
  cases hr : runD P Γ l ws l 0 S [] with
  | none => rw [hr] at h1; exact h1.elim
  | some x =>
    obtain ⟨S', fs⟩ := x
    rw [hr] at h1
    exact ⟨ws, S', fs, hr, by rw [hp]; exact h1.1, h1.2⟩
theorem awp_calm {id : Nat} {l : List Oper} (hd : drawOk l = true) (hp : pairs l = []) (h : ∀ K : St → Prop, (∀ S', Q .normal S' → K S') → Got (runOps P Γ l l S) K) : awp P Γ (.region id l.toArray true) Q S := by
  refine awp_draw (ws := []) hd hp fun K hK => ?_
  have h1 := h K hK
  rw [runD_nil]
  cases hr : runOps P Γ l l S with
  | none => rw [hr] at h1; exact h1.elim
  | some S' => rw [hr] at h1; exact ⟨rfl, h1⟩
theorem awp_cond {c : Operand} {x y : Code} (b : Bool) (hb : S.ev c = .v (.bool b)) (ht : b = true → awp P Γ x Q S) (hf : b = false → awp P Γ y Q S) : awp P Γ (.cond c x y) Q S := ⟨b, hb, ht, hf⟩
theorem awp_block {id : Nat} {c : Code} (h : awp P Γ c (fun e S' => match e with | .exit k => if k = id then Q .normal S' else Q (.exit k) S' | e => Q e S') S) : awp P Γ (.block id c) Q S := h
theorem awp_loop {c : Code} (I : St → Prop) (μ : St → Nat) (h0 : I S) (h : ∀ S1, I S1 → awp P Γ c (fun e S' => match e with | .normal => I S' ∧ μ S' < μ S1 | e => Q e S') S1) : awp P Γ (.loop c) Q S := ⟨I, μ, h0, h⟩
theorem awp_skip (h : Q .normal S) : awp P Γ .skip Q S := h
theorem awp_exit {id : Nat} (h : Q (.exit id) S) : awp P Γ (.exit id) Q S := h
theorem awp_ret (h : Q .ret S) : awp P Γ .ret Q S := h
theorem awp_mono {c : Code} {Q' : AExit → St → Prop} : ∀ {Q : AExit → St → Prop} {S : St}, awp P Γ c Q S → (∀ e S, Q e S → Q' e S) → awp P Γ c Q' S := by
  induction c generalizing Q' with
  | skip => exact fun h hq => hq _ _ h
  | region id ops draw =>
    intro Q S h hq
    rcases h with ⟨h1, S', h2, h3⟩ | ⟨h1, h2, ws, S', fs, h3, h4, h5⟩
    · exact .inl ⟨h1, S', h2, hq _ _ h3⟩
    · exact .inr ⟨h1, h2, ws, S', fs, h3, h4, hq _ _ h5⟩
  | seq a b iha ihb =>
    intro Q S h hq
    refine iha (Q := _) h fun e S' he => ?_
    cases e with
    | normal => exact ihb he hq
    | exit k => exact hq _ _ he
    | ret => exact hq _ _ he
  | cond c x y ihx ihy => exact fun ⟨b, h1, h2, h3⟩ hq => ⟨b, h1, fun hb => ihx (h2 hb) hq, fun hb => ihy (h3 hb) hq⟩
  | block id c ih =>
    intro Q S h hq
    refine ih (Q := _) h fun e S' he => ?_
    cases e with
    | normal => exact hq _ _ he
    | exit k =>
      simp only at he ⊢
      split <;> rename_i hk <;> simp only [hk, if_true, if_false] at he <;> exact hq _ _ he
    | ret => exact hq _ _ he
  | loop c ih =>
    intro Q S h hq
    obtain ⟨I, μ, h0, h1⟩ := h
    refine ⟨I, μ, h0, fun S1 hI => ih (Q := _) (h1 S1 hI) fun e S' he => ?_⟩
    cases e with
    | normal => exact he
    | exit k => exact hq _ _ he
    | ret => exact hq _ _ he
  | exit id => exact fun h hq => hq _ _ h
  | ret => exact fun h hq => hq _ _ h
  | rangeFunc => exact fun h _ => h.elim
  | scope => exact fun h _ => h.elim
  | label => exact fun h _ => h.elim
  | goto => exact fun h _ => h.elim
  | refuse => exact fun h _ => h.elim
end

/-- Every slot that the code writes is one of n. -/
def slotsIn (n : Nat) : Code → Bool
  | .region _ ops _ => ops.toList.all fun o => match o.dst with | some t => decide (t < n) | none => true
  | .seq a b => slotsIn n a && slotsIn n b
  | .cond _ a b => slotsIn n a && slotsIn n b
  | .block _ c => slotsIn n c
  | .loop c => slotsIn n c
  | _ => true

def AExit.out : AExit → Exit
  | .normal => .normal
  | .exit k => .exit k
  | .ret => .ret

theorem least {p : Nat → Prop} : ∀ k, p k → ∃ k, p k ∧ ∀ j, p j → k ≤ j := by
  intro k
  induction k using Nat.strongRecOn with
  | _ k ih =>
    intro hk
    by_cases h : ∃ j, j < k ∧ p j
    · obtain ⟨j, hj, hp⟩ := h
      exact ih j hj hp
    · exact ⟨k, hk, fun j hj => Nat.le_of_not_lt fun hlt => h ⟨j, hlt, hj⟩⟩

/-- A loop whose rounds count down. -/
theorem wp_loop_down {P : Program} {c : Code} {Q : Exit → Act → World → Prop} {a : Act} {w : World} (I : Nat → Act → World → Prop) {k : Nat} (h0 : I k a w)
    (round : ∀ k a w, I k a w → c.wp P (Exit.then (fun a' w' => ∃ k', k' < k ∧ I k' a' w') Q) a w) : (Code.loop c).wp P Q a w := by
  have hmin : ∀ a w, (∃ k, I k a w) → ∃ k, I k a w ∧ ∀ j, I j a w → k ≤ j := fun a w ⟨k, hk⟩ => least (p := fun k => I k a w) k hk
  have hM : ∃ μ : Act → World → Nat, ∀ a w, (∃ k, I k a w) → I (μ a w) a w ∧ ∀ j, I j a w → μ a w ≤ j := by
    classical
    refine ⟨fun a w => if h : ∃ k, I k a w then Classical.choose (hmin a w h) else 0, fun a w h => ?_⟩
    simp only [dif_pos h]
    exact Classical.choose_spec (hmin a w h)
  obtain ⟨μ, hμ⟩ := hM
  refine wp_loop (fun a w => ∃ k, I k a w) μ ⟨k, h0⟩ fun a w hI => ?_
  refine wp_mono (round (μ a w) a w (hμ a w hI).1) fun e a' w' he => ?_
  cases e with
  | normal =>
    obtain ⟨k', hk', hI'⟩ := he
    exact ⟨⟨k', hI'⟩, Nat.lt_of_le_of_lt ((hμ a' w' ⟨k', hI'⟩).2 k' hI') hk'⟩
  | _ => exact he

theorem code_ok {P : Program} {Γ : FuncId → Option Spec} (hm : P.follows .mixedOrders = true) (hΓ : ∀ f s, Γ f = some s → Sound P f s) {O : Org} {n : Nat} {c : Code} (hn : slotsIn n c = true) :
    ∀ {Q : AExit → St → Prop} {S : St} {a : Act} {w : World} {F : Nat → Prop} {L : Lay} {R : Exit → Act → World → Prop}, awp P Γ c Q S → Sim O S n a w F L → (∀ e S' a' w' F' L', Q e S' → Sim O S' n a' w' F' L' → R e.out a' w') → c.wp P R a w := by
  induction c with
  | skip => exact fun h hS hR => wp_skip (hR .normal _ _ _ _ _ h hS)
  | region id ops draw =>
    intro Q S a w F L R h hS hR
    have hn' : ∀ o ∈ ops.toList, ∀ t, o.dst = some t → t < n := fun o ho t ht => by
      have := List.all_eq_true.1 hn o ho
      simpa [ht] using this
    rcases h with ⟨rfl, S', h2, h3⟩ | ⟨rfl, h2, ws, S', fs, h3, h4, h5⟩
    · have := region_ok (id := id) (Q := R) hΓ hS hn' h2 fun a' w' F' L' h' => hR .normal _ _ _ _ _ h3 h'
      simpa using this
    · have := draw_ok (id := id) (Q := R) hm hΓ hS hn' h2 h3 h4 fun a' w' F' L' h' => hR .normal _ _ _ _ _ h5 h'
      simpa using this
  | seq x y ihx ihy =>
    intro Q S a w F L R h hS hR
    simp only [slotsIn, Bool.and_eq_true] at hn
    refine wp_seq (ihx hn.1 h hS fun e S' a' w' F' L' he hS' => ?_)
    cases e with
    | normal => exact ihy hn.2 he hS' hR
    | exit k => exact hR (.exit k) _ _ _ _ _ he hS'
    | ret => exact hR .ret _ _ _ _ _ he hS'
  | cond c x y ihx ihy =>
    intro Q S a w F L R h hS hR
    simp only [slotsIn, Bool.and_eq_true] at hn
    obtain ⟨b, h1, h2, h3⟩ := h
    have hv := hS.ev c
    rw [h1] at hv
    exact wp_cond_split hv.bool_inv (fun hb => ihx hn.1 (h2 hb) hS hR) fun hb => ihy hn.2 (h3 hb) hS hR
  | block id c ih =>
    intro Q S a w F L R h hS hR
    refine wp_block (ih hn h hS fun e S' a' w' F' L' he hS' => ?_)
    cases e with
    | normal => exact hR .normal _ _ _ _ _ he hS'
    | exit k =>
      simp only at he
      simp only [AExit.out, Exit.inBlock]
      split <;> rename_i hk <;> simp only [hk, if_true, if_false] at he
      · exact hR .normal _ _ _ _ _ he hS'
      · exact hR (.exit k) _ _ _ _ _ he hS'
    | ret => exact hR .ret _ _ _ _ _ he hS'
  | loop c ih =>
    intro Q S a w F L R h hS hR
    obtain ⟨I, μ, h0, h1⟩ := h
    refine wp_loop_down (fun k a w => ∃ S F L, I S ∧ Sim O S n a w F L ∧ μ S = k) (k := μ S) ⟨S, F, L, h0, hS, rfl⟩ fun k a1 w1 hI => ?_
    obtain ⟨S1, F1, L1, hI1, hS1, rfl⟩ := hI
    refine ih hn (h1 S1 hI1) hS1 fun e S' a' w' F' L' he hS' => ?_
    cases e with
    | normal => exact ⟨μ S', he.2, S', F', L', he.1, hS', rfl⟩
    | exit k => exact hR (.exit k) _ _ _ _ _ he hS'
    | ret => exact hR .ret _ _ _ _ _ he hS'
  | exit id => exact fun h hS hR => wp_exit (hR (.exit id) _ _ _ _ _ h hS)
  | ret => exact fun h hS hR => wp_ret (hR .ret _ _ _ _ _ h hS)
  | rangeFunc => exact fun h _ _ => h.elim
  | scope => exact fun h _ _ => h.elim
  | label => exact fun h _ _ => h.elim
  | goto => exact fun h _ _ => h.elim
  | refuse => exact fun h _ _ => h.elim

end Go.Proofs.YtdhdhcllgkddnaaGreat.Va

namespace Go.Proofs.YtdhdhcllgkddnaaGreat.Va
open Go Go.RowKit

variable {P : Program} {Γ : FuncId → Option Spec} {w : World} {F : Nat → Prop}

def V.len : V → Nat
  | .sl _ xs => xs.length
  | _ => 0
def initF (modes : List Mode) (xs : List V) (t : Nat) : D :=
  match modes[t]?, xs[t]? with
  | some (.rd _), some x => .v x
  | some (.io _), some _ => .ptr t 0 0 0
  | some .ios, some x => .own t 0 0 x.len
  | some (.take _), some x => .own t 0 0 x.len
  | _, _ => .any
def initM (modes : List Mode) (xs : List V) (t : Nat) : RS :=
  match modes[t]?, xs[t]? with
  | some (.io _), some (.agg cs) => ⟨0, some ⟨.box (cs.map .v), false⟩⟩
  | some .ios, some (.sl sz els) => ⟨0, some ⟨.row sz els, false⟩⟩
  | some (.take _), some (.sl sz els) => ⟨0, some ⟨.row sz els, false⟩⟩
  | _, _ => ⟨0, none⟩
/-- The state in which a call begins. -/
def St.init (modes : List Mode) (xs : List V) : St := ⟨initF modes xs, initM modes xs⟩

/-- What comes back by writing: its modes, the references, the values. -/
def ioModes : List Mode → List Mode
  | [] => []
  | .io sh :: ms => .io sh :: ioModes ms
  | .ios :: ms => .ios :: ioModes ms
  | _ :: ms => ioModes ms
def ioDs : Nat → List Mode → List V → List D
  | i, .io _ :: ms, _ :: xs => .ptr i 0 0 0 :: ioDs (i + 1) ms xs
  | i, .ios :: ms, x :: xs => .own i 0 0 x.len :: ioDs (i + 1) ms xs
  | i, _ :: ms, _ :: xs => ioDs (i + 1) ms xs
  | _, _, _ => []
def ioVals : List Mode → List Value → List Value
  | .io _ :: ms, v :: vs => v :: ioVals ms vs
  | .ios :: ms, v :: vs => v :: ioVals ms vs
  | _ :: ms, _ :: vs => ioVals ms vs
  | _, _ => []

/-- One argument in the world. -/
def ArgAt (w : World) (F : Nat → Prop) (M : List Nat) : Mode → V → Value → Prop
  | .rd _, x, v => RV w F x v
  | .io _, x, v => ∃ cs b cur ty, x = .agg cs ∧ v = .pointer (some ⟨b, 0, none⟩) ∧ w.heap[b]? = some (.cells cur ty (0, 0)) ∧ VCells w F cs cur.toList ∧ b ∈ M
  | .ios, x, v => ∃ sz els κ g, x = .sl sz els ∧ OwnRow w F sz els v κ g ∧ (κ ≠ 0 → g ∈ M)
  | .take _, x, v => ∃ sz els κ g, x = .sl sz els ∧ OwnRow w F sz els v κ g ∧ (κ ≠ 0 → g ∈ M)

theorem ArgAt.mono {M M' : List Nat} (hM : ∀ b ∈ M, b ∈ M') {md : Mode} {x : V} {v : Value} (h : ArgAt w F M md x v) : ArgAt w F M' md x v := by
  cases md with
  | rd sh => exact h
  | io sh => obtain ⟨cs, b, cur, ty, h1, h2, h3, h4, h5⟩ := h; exact ⟨cs, b, cur, ty, h1, h2, h3, h4, hM b h5⟩
  | ios => obtain ⟨sz, els, κ, g, h1, h2, h3⟩ := h; exact ⟨sz, els, κ, g, h1, h2, fun h => hM g (h3 h)⟩
  | take sz0 => obtain ⟨sz, els, κ, g, h1, h2, h3⟩ := h; exact ⟨sz, els, κ, g, h1, h2, fun h => hM g (h3 h)⟩

theorem ArgsOk.lens {modes : List Mode} {xs : List V} {vs : List Value} {M T : List Nat} (h : ArgsOk w F modes xs vs M T) : xs.length = modes.length ∧ vs.length = modes.length := by
  induction h <;> simp_all

theorem ArgsOk.at_ {modes : List Mode} {xs : List V} {vs : List Value} {M T : List Nat} (h : ArgsOk w F modes xs vs M T) : ∀ (i : Nat) (md : Mode) (x : V) (v : Value), modes[i]? = some md → xs[i]? = some x → vs[i]? = some v → ArgAt w F M md x v := by
  induction h with
  | nil => intro i md x v h1; simp at h1
  | rd h hs ih =>
    intro i md x v h1 h2 h3
    cases i with
    | zero => simp at h1 h2 h3; subst h1; subst h2; subst h3; exact h
    | succ i => exact ih i md x v (by simpa using h1) (by simpa using h2) (by simpa using h3)
  | io hw h hs ih =>
    intro i md x v h1 h2 h3
    cases i with
    | zero => simp at h1 h2 h3; subst h1; subst h2; subst h3; exact ⟨_, _, _, _, rfl, rfl, hw, h, by simp⟩
    | succ i => exact (ih i md x v (by simpa using h1) (by simpa using h2) (by simpa using h3)).mono fun b hb => List.mem_cons_of_mem _ hb
  | ios h hs ih =>
    rename_i ms sz els xs v κ g vs M T
    have hsub : ∀ b ∈ M, b ∈ (if κ = 0 then M else g :: M) := fun b hb => by split; exact hb; exact List.mem_cons_of_mem _ hb
    intro i md x v h1 h2 h3
    cases i with
    | zero => simp at h1 h2 h3; subst h1; subst h2; subst h3; exact ⟨_, _, _, _, rfl, h, fun h0 => by rw [if_neg h0]; simp⟩
    | succ i => exact (ih i md x v (by simpa using h1) (by simpa using h2) (by simpa using h3)).mono hsub
  | take h hs ih =>
    rename_i ms sz els xs v κ g vs M T
    have hsub : ∀ b ∈ M, b ∈ (if κ = 0 then M else g :: M) := fun b hb => by split; exact hb; exact List.mem_cons_of_mem _ hb
    intro i md x v h1 h2 h3
    cases i with
    | zero => simp at h1 h2 h3; subst h1; subst h2; subst h3; exact ⟨_, _, _, _, rfl, h, fun h0 => by rw [if_neg h0]; simp⟩
    | succ i => exact (ih i md x v (by simpa using h1) (by simpa using h2) (by simpa using h3)).mono hsub

/-- The block that an argument lends. -/
def argBlk : Mode → Value → Option Nat
  | .rd _, _ => none
  | _, .pointer (some ad) => some ad.block
  | _, .slice (some ad) _ κ => if κ = 0 then none else some ad.block
  | _, _ => none

theorem ArgsOk.blks {modes : List Mode} {xs : List V} {vs : List Value} {M T : List Nat} (h : ArgsOk w F modes xs vs M T) : M = (modes.zip vs).filterMap fun p => argBlk p.1 p.2 := by
  induction h with
  | nil => rfl
  | rd h hs ih => simpa [argBlk] using ih
  | io hw h hs ih => simpa [argBlk] using ih
  | ios h hs ih =>
    rcases h.place with ⟨h1, ad, h2⟩ | ⟨h1, h2, _⟩
    · subst h2; cases ad <;> simpa [argBlk, h1] using ih
    · subst h2; simpa [argBlk, h1] using ih
  | take h hs ih =>
    rcases h.place with ⟨h1, ad, h2⟩ | ⟨h1, h2, _⟩
    · subst h2; cases ad <;> simpa [argBlk, h1] using ih
    · subst h2; simpa [argBlk, h1] using ih

theorem filterMap_inj {α : Type} {f : α → Option Nat} : ∀ {l : List α}, (l.filterMap f).Nodup → ∀ {i j : Nat} {x y : α} {b : Nat}, l[i]? = some x → l[j]? = some y → f x = some b → f y = some b → i = j
  | [], _, i, j, x, y, b, h1, _, _, _ => by simp at h1
  | z :: l, hn, i, j, x, y, b, h1, h2, h3, h4 => by
    have hn' : (l.filterMap f).Nodup := by
      rw [List.filterMap_cons] at hn
      split at hn
      · exact hn
      · exact (List.nodup_cons.1 hn).2
    have key : ∀ k u, l[k]? = some u → f z = some b → f u = some b → False := fun k u hk hz hu => by
      rw [List.filterMap_cons, hz] at hn
      exact (List.nodup_cons.1 hn).1 (List.mem_filterMap.2 ⟨u, List.mem_of_getElem? hk, hu⟩)
    cases i with
    | zero =>
      cases j with
      | zero => rfl
      | succ j =>
        simp at h1; subst h1
        exact (key j y (by simpa using h2) h3 h4).elim
    | succ i =>
      cases j with
      | zero =>
        simp at h2; subst h2
        exact (key i x (by simpa using h1) h4 h3).elim
      | succ j => exact congrArg (· + 1) (filterMap_inj hn' (i := i) (j := j) (by simpa using h1) (by simpa using h2) h3 h4)

/-- Where the arguments' regions lie. -/
def initL (vs : List Value) : Lay :=
  ⟨fun r => match vs[r]? with | some (.pointer ad) => ad | some (.slice ad _ _) => ad | _ => none, fun r => match vs[r]? with | some (.slice _ _ κ) => κ | _ => 1⟩

theorem ArgAt.blk {M : List Nat} {modes : List Mode} {xs : List V} {vs : List Value} (hat : ∀ (i : Nat) (md : Mode) (x : V) (v : Value), modes[i]? = some md → xs[i]? = some x → vs[i]? = some v → ArgAt w F M md x v) (hl : vs.length = modes.length)
    {r : Nat} {reg : Reg} (hr : (initM modes xs r).reg = some reg) : ∃ md x v, modes[r]? = some md ∧ xs[r]? = some x ∧ vs[r]? = some v ∧ ArgAt w F M md x v ∧ reg.frozen = false ∧
      ((∃ sh cs, md = .io sh ∧ x = .agg cs ∧ reg.body = .box (cs.map .v)) ∨ (∃ sz els, (md = .ios ∨ ∃ k, md = .take k) ∧ x = .sl sz els ∧ reg.body = .row sz els)) ∧ blk (initL vs) r reg = argBlk md v := by
  unfold initM at hr
  split at hr
  · rename_i sh cs hm hx
    simp only [Option.some.injEq] at hr
    subst hr
    have hlt := (List.getElem?_eq_some_iff.1 hm).1
    have hv : vs[r]? = some vs[r] := List.getElem?_eq_getElem (by omega)
    have ha := hat r _ _ _ hm hx hv
    refine ⟨_, _, _, hm, hx, hv, ha, rfl, .inl ⟨sh, cs, rfl, rfl, rfl⟩, ?_⟩
    obtain ⟨cs', b, cur, ty, h1, h2, h3, h4, h5⟩ := ha
    simp [Va.blk, initL, hv, h2, argBlk]
  · rename_i sz els hm hx
    simp only [Option.some.injEq] at hr
    subst hr
    have hlt := (List.getElem?_eq_some_iff.1 hm).1
    have hv : vs[r]? = some vs[r] := List.getElem?_eq_getElem (by omega)
    have ha := hat r _ _ _ hm hx hv
    refine ⟨_, _, _, hm, hx, hv, ha, rfl, .inr ⟨sz, els, .inl rfl, rfl, rfl⟩, ?_⟩
    obtain ⟨sz', els', κ, g, h1, h2, h3⟩ := ha
    rcases h2.place with ⟨p1, ad, p2⟩ | ⟨p1, p2, _⟩
    · cases ad <;> simp [Va.blk, initL, hv, p2, argBlk]
    · simp [Va.blk, initL, hv, p2, argBlk]
  · rename_i k sz els hm hx
    simp only [Option.some.injEq] at hr
    subst hr
    have hlt := (List.getElem?_eq_some_iff.1 hm).1
    have hv : vs[r]? = some vs[r] := List.getElem?_eq_getElem (by omega)
    have ha := hat r _ _ _ hm hx hv
    refine ⟨_, _, _, hm, hx, hv, ha, rfl, .inr ⟨sz, els, .inr ⟨k, rfl⟩, rfl, rfl⟩, ?_⟩
    obtain ⟨sz', els', κ, g, h1, h2, h3⟩ := ha
    rcases h2.place with ⟨p1, ad, p2⟩ | ⟨p1, p2, _⟩
    · cases ad <;> simp [Va.blk, initL, hv, p2, argBlk]
    · simp [Va.blk, initL, hv, p2, argBlk]
  · cases hr

/-- The slots of the arguments. -/
theorem init_slot {M : List Nat} {modes : List Mode} {xs : List V} {vs : List Value} (hat : ∀ (i : Nat) (md : Mode) (x : V) (v : Value), modes[i]? = some md → xs[i]? = some x → vs[i]? = some v → ArgAt w F M md x v) (hl : vs.length = modes.length)
    {t : Nat} {v : Value} (hv : ∀ v', vs[t]? = some v' → v' = v) : RD w F (initM modes xs) (initL vs) (initF modes xs t) v := by
  unfold initF
  split
  · rename_i sh x hm hx
    have hlt := (List.getElem?_eq_some_iff.1 hm).1
    have hv' : vs[t]? = some vs[t] := List.getElem?_eq_getElem (by omega)
    have := hv _ hv'
    subst this
    exact .v (hat t _ _ _ hm hx hv')
  · rename_i sh x hm hx
    have hlt := (List.getElem?_eq_some_iff.1 hm).1
    have hv' : vs[t]? = some vs[t] := List.getElem?_eq_getElem (by omega)
    have := hv _ hv'
    subst this
    obtain ⟨cs', b, cur, ty, h1, h2, h3, h4, h5⟩ := hat t _ _ _ hm hx hv'
    subst h1
    have hM : initM modes xs t = ⟨0, some ⟨.box (cs'.map .v), false⟩⟩ := by simp [initM, hm, hx]
    refine .ptr _ _ _ _ _ (Nat.zero_le _) (by rw [h2]; rfl) (fun reg sz els hlv hb => ?_) fun reg cs hlv hb => ?_
    · have := (live_reg hlv).2
      rw [hM] at this
      cases this; cases hb
    · refine ⟨rfl, ?_⟩
      simp only [initL, hv', h2]
      rfl
  · rename_i x hm hx
    have hlt := (List.getElem?_eq_some_iff.1 hm).1
    have hv' : vs[t]? = some vs[t] := List.getElem?_eq_getElem (by omega)
    have := hv _ hv'
    subst this
    obtain ⟨sz', els', κ, g, h1, h2, h3⟩ := hat t _ _ _ hm hx hv'
    subst h1
    have hM : initM modes xs t = ⟨0, some ⟨.row sz' els', false⟩⟩ := by simp [initM, hm, hx]
    have hsl : ∃ ad, vs[t] = .slice ad els'.length κ := by
      rcases h2.place with ⟨p1, ad, p2⟩ | ⟨p1, p2, _⟩
      · exact ⟨ad, by rw [p2, p1]; have := h2.le; simp; omega⟩
      · exact ⟨_, p2⟩
    obtain ⟨ad, hsl⟩ := hsl
    refine .own _ _ _ _ _ (Nat.zero_le _) (by rw [hsl]; rfl) fun reg sz els hlv hb => ?_
    have := (live_reg hlv).2
    rw [hM] at this
    cases this; cases hb
    have hcap : (initL vs).cap t = κ := by simp [initL, hv', hsl]
    have hbase : (initL vs).base t = ad := by simp [initL, hv', hsl]
    refine ⟨by simp [V.len], by rw [hcap]; exact h2.le, ad, by rw [hcap, hsl]; rfl, fun _ => ?_⟩
    rw [hbase]
    cases ad with
    | none => rfl
    | some ad => simp [Addr.add]
  · rename_i k x hm hx
    have hlt := (List.getElem?_eq_some_iff.1 hm).1
    have hv' : vs[t]? = some vs[t] := List.getElem?_eq_getElem (by omega)
    have := hv _ hv'
    subst this
    obtain ⟨sz', els', κ, g, h1, h2, h3⟩ := hat t _ _ _ hm hx hv'
    subst h1
    have hM : initM modes xs t = ⟨0, some ⟨.row sz' els', false⟩⟩ := by simp [initM, hm, hx]
    have hsl : ∃ ad, vs[t] = .slice ad els'.length κ := by
      rcases h2.place with ⟨p1, ad, p2⟩ | ⟨p1, p2, _⟩
      · exact ⟨ad, by rw [p2, p1]; have := h2.le; simp; omega⟩
      · exact ⟨_, p2⟩
    obtain ⟨ad, hsl⟩ := hsl
    refine .own _ _ _ _ _ (Nat.zero_le _) (by rw [hsl]; rfl) fun reg sz els hlv hb => ?_
    have := (live_reg hlv).2
    rw [hM] at this
    cases this; cases hb
    have hcap : (initL vs).cap t = κ := by simp [initL, hv', hsl]
    have hbase : (initL vs).base t = ad := by simp [initL, hv', hsl]
    refine ⟨by simp [V.len], by rw [hcap]; exact h2.le, ad, by rw [hcap, hsl]; rfl, fun _ => ?_⟩
    rw [hbase]
    cases ad with
    | none => rfl
    | some ad => simp [Addr.add]
  · exact .any _

theorem mem_pins : ∀ {ms : List Mode} {xs : List V} {vs : List Value} {k : Nat} {p : D × Value}, p ∈ (ioDs k ms xs).zip (ioVals ms vs) → xs.length = ms.length → vs.length = ms.length →
    ∃ i v, vs[i]? = some v ∧ p.2 = v ∧ ((∃ sh x, ms[i]? = some (.io sh) ∧ xs[i]? = some x ∧ p.1 = .ptr (k + i) 0 0 0) ∨ (∃ x, ms[i]? = some .ios ∧ xs[i]? = some x ∧ p.1 = .own (k + i) 0 0 x.len))
  | [], xs, vs, k, p, h, _, _ => by simp [ioDs, ioVals] at h
  | md :: ms, [], vs, k, p, h, hx, _ => by simp at hx
  | md :: ms, x :: xs, [], k, p, h, _, hv => by simp at hv
  | md :: ms, x :: xs, v :: vs, k, p, h, hx, hv => by
    have rest : p ∈ (ioDs (k + 1) ms xs).zip (ioVals ms vs) → ∃ i v', (v :: vs)[i]? = some v' ∧ p.2 = v' ∧ ((∃ sh x', (md :: ms)[i]? = some (.io sh) ∧ (x :: xs)[i]? = some x' ∧ p.1 = .ptr (k + i) 0 0 0) ∨ (∃ x', (md :: ms)[i]? = some .ios ∧ (x :: xs)[i]? = some x' ∧ p.1 = .own (k + i) 0 0 x'.len)) := fun hp => by
      obtain ⟨i, v', h1, h2, h3⟩ := mem_pins hp (by simpa using hx) (by simpa using hv)
      refine ⟨i + 1, v', by simpa using h1, h2, ?_⟩
      rcases h3 with ⟨sh, x', h4, h5, h6⟩ | ⟨x', h4, h5, h6⟩
      · exact .inl ⟨sh, x', by simpa using h4, by simpa using h5, by rw [h6, Nat.add_assoc, Nat.add_comm 1 i]⟩
      · exact .inr ⟨x', by simpa using h4, by simpa using h5, by rw [h6, Nat.add_assoc, Nat.add_comm 1 i]⟩
    cases md with
    | rd sh => exact rest (by simpa [ioDs, ioVals] using h)
    | take sz => exact rest (by simpa [ioDs, ioVals] using h)
    | io sh =>
      simp only [ioDs, ioVals, List.zip_cons_cons, List.mem_cons] at h
      rcases h with h | h
      · exact ⟨0, v, rfl, by rw [h], .inl ⟨sh, x, rfl, rfl, by rw [h]; rfl⟩⟩
      · exact rest h
    | ios =>
      simp only [ioDs, ioVals, List.zip_cons_cons, List.mem_cons] at h
      rcases h with h | h
      · exact ⟨0, v, rfl, by rw [h], .inr ⟨x, rfl, rfl, by rw [h]; rfl⟩⟩
      · exact rest h

/-- The first state tells the frame. -/
theorem init_sim {modes : List Mode} {xs : List V} {vs : List Value} {M T : List Nat} {nt : Nat} (h : ArgsOk w F modes xs vs M T) (hn : M.Nodup) (hM : ∀ b ∈ M, ¬ F b ∧ b < w.heap.size) (hF : ∀ b, F b → b < w.heap.size) (hnt : modes.length ≤ nt) :
    Sim ⟨w, F, M, (ioDs 0 modes xs).zip (ioVals modes vs)⟩ (St.init modes xs) nt { tmps := vs.toArray ++ Array.replicate (nt - vs.toArray.size) undef, defers := [] } w F (initL vs) := by
  obtain ⟨hl1, hl2⟩ := h.lens
  have hat := h.at_
  have hblk := fun {r reg} => ArgAt.blk (r := r) (reg := reg) hat hl2
  have hblks := h.blks
  refine ⟨rfl, rfl, rfl, Nat.le_refl _, fun _ _ _ => rfl, fun _ hb => hb, fun _ _ hb _ => hb, hF, rfl, by simp; omega, fun t => ?_, fun r reg hr => ?_, fun r reg b hr hb _ => ?_, fun r r' reg reg' b hr hr' hb hb' => ?_, fun p hp => ?_⟩
  · refine init_slot hat hl2 fun v' hv' => ?_
    have hlt := (List.getElem?_eq_some_iff.1 hv').1
    have : (vs.toArray ++ Array.replicate (nt - vs.toArray.size) undef)[t]? = some v' := by
      rw [Array.getElem?_append_left (by simpa using hlt)]
      simpa using hv'
    simp only [Array.getD_eq_getD_getElem?, this, Option.getD_some]
  · obtain ⟨md, x, v, h1, h2, h3, h4, h5, h6, h7⟩ := hblk hr
    obtain ⟨body, fz⟩ := reg
    simp only at h5
    subst h5
    rcases h6 with ⟨sh, cs, rfl, rfl, h8⟩ | ⟨sz, els, h8, rfl, h9⟩
    · simp only at h8
      subst h8
      obtain ⟨cs', b, cur, ty, k1, k2, k3, k4, k5⟩ := h4
      cases k1
      refine ⟨b, cur, ty, by simp [initL, h3, k2], k3, ⟨fun hf => absurd hf (hM b k5).1, fun hf => (by cases hf)⟩, by have := k4.len; simp at this; simp [this], fun c d hd => ?_⟩
      simp only [List.getElem?_map, Option.map_eq_some_iff] at hd
      obtain ⟨y, hy, rfl⟩ := hd
      have hjl := (List.getElem?_eq_some_iff.1 hy).1
      have hjl' : c < cur.toList.length := by rw [← k4.len]; exact hjl
      obtain ⟨k6, k7⟩ := k4.at_ c y _ hy (List.getElem?_eq_getElem hjl')
      refine ⟨_, ?_, k7, .v k6⟩
      rw [← Array.getElem?_toList]
      exact List.getElem?_eq_getElem hjl'
    · simp only at h9
      subst h9
      have h4' : ∃ sz' els' κ g, V.sl sz els = .sl sz' els' ∧ OwnRow w F sz' els' v κ g ∧ (κ ≠ 0 → g ∈ M) := by
        rcases h8 with rfl | ⟨k, rfl⟩
        · exact h4
        · exact h4
      obtain ⟨sz', els', κ, g, k1, k2, k3⟩ := h4'
      cases k1
      have hcap : (initL vs).cap r = κ := by
        rcases k2.place with ⟨p1, ad, p2⟩ | ⟨p1, p2, _⟩
        · simp [initL, h3, p2, p1]
        · simp [initL, h3, p2]
      simp only [RegOk]
      rw [hcap]
      refine ⟨k2.le, k2.max, k2.sizes, ?_⟩
      rcases k2.place with ⟨p1, ad, p2⟩ | ⟨p1, p2, p3, cur, ty, p4, p5, p6⟩
      · exact .inl p1
      · exact .inr ⟨g, cur, ty, by simp [initL, h3, p2], p4, ⟨fun hf => absurd hf p3, fun hf => (by cases hf)⟩, p5, p6⟩
  · obtain ⟨md, x, v, h1, h2, h3, h4, h5, h6, h7⟩ := hblk hr
    rw [h7] at hb
    rw [hblks]
    refine List.mem_filterMap.2 ⟨(md, v), ?_, hb⟩
    have : (modes.zip vs)[r]? = some (md, v) := by simp [List.getElem?_zip_eq_some, h1, h3]
    exact List.mem_of_getElem? this
  · obtain ⟨md, x, v, h1, h2, h3, h4, h5, h6, h7⟩ := hblk hr
    obtain ⟨md', x', v', h1', h2', h3', h4', h5', h6', h7'⟩ := hblk hr'
    rw [h7] at hb
    rw [h7'] at hb'
    rw [hblks] at hn
    exact filterMap_inj hn (x := (md, v)) (y := (md', v')) (by simp [List.getElem?_zip_eq_some, h1, h3]) (by simp [List.getElem?_zip_eq_some, h1', h3']) hb hb'
  · obtain ⟨i, v, h1, h2, h3⟩ := mem_pins hp hl1 hl2
    rw [h2]
    have hs := init_slot (t := i) (v := v) hat hl2 fun v' hv' => by rw [h1] at hv'; cases hv'; rfl
    rcases h3 with ⟨sh, x, h4, h5, h6⟩ | ⟨x, h4, h5, h6⟩
    · rw [h6, Nat.zero_add]
      have e : initF modes xs i = .ptr i 0 0 0 := by simp [initF, h4, h5]
      rw [e] at hs
      exact hs
    · rw [h6, Nat.zero_add]
      have e : initF modes xs i = .own i 0 0 x.len := by simp [initF, h4, h5]
      rw [e] at hs
      exact hs

end Go.Proofs.YtdhdhcllgkddnaaGreat.Va

namespace Go.Proofs.YtdhdhcllgkddnaaGreat.Va
open Go Go.RowKit

variable {P : Program} {Γ : FuncId → Option Spec} {w w' : World} {F F' F2 : Nat → Prop} {O : Org} {S : St} {n : Nat} {a : Act} {L : Lay} {m : Nat → RS}

def RK.mode : RK → Mode
  | .plain sh => .rd sh
  | .own sz => .take sz
  | .new => .io []

/-- Values that lead nowhere. -/
def V.leaf : V → Bool
  | .int _ _ => true
  | .bool _ => true
  | .str _ => true
  | .nil => true
  | _ => false
def V.bare : V → Bool
  | .agg cs => cs.all V.leaf
  | x => x.leaf

theorem RV.leaf_ {x : V} {v : Value} (h : RV w F x v) (hx : x.leaf = true) : RV w' F' x v := by
  cases h with
  | int k n => exact .int k n
  | bool b => exact .bool b
  | str s => exact .str s
  | nil => exact .nil
  | _ => cases hx
theorem RV.bare_ {x : V} {v : Value} (h : RV w F x v) (hx : x.bare = true) : RV w' F' x v := by
  cases h with
  | int k n => exact .int k n
  | bool b => exact .bool b
  | str s => exact .str s
  | nil => exact .nil
  | agg cs vs hl h1 hr => exact .agg cs vs hl h1 fun i y u hy hu => (hr i y u hy hu).leaf_ (List.all_eq_true.1 hx y (List.mem_of_getElem? hy))
  | _ => cases hx
theorem bare_cell {x y : V} (h : x.bare = true) {c : Nat} (hy : x.cells[c]? = some y) : y.leaf = true := by
  cases x with
  | agg cs => exact List.all_eq_true.1 h y (List.mem_of_getElem? hy)
  | sl sz xs => cases h
  | ne sz => cases h
  | fn f xs => cases h
  | raw v => cases h
  | _ =>
    cases c with
    | zero => simp [V.cells] at hy; subst hy; rfl
    | succ c => simp [V.cells] at hy

/-- A row, a variable, that hold values that lead nowhere. -/
def RowBare (m : Nat → RS) (r g : Nat) : Prop :=
  match live m r g with
  | some ⟨.row _ els, false⟩ => ∀ x ∈ els, x.bare = true
  | _ => False
def leafD : D → Bool
  | .v x => x.leaf
  | _ => false
def BoxBare (m : Nat → RS) (r g : Nat) : Prop :=
  match live m r g with
  | some ⟨.box cs, false⟩ => cs.all leafD = true
  | _ => False
theorem RowBare.get {r g : Nat} (h : RowBare m r g) : ∃ sz els, live m r g = some ⟨.row sz els, false⟩ ∧ ∀ x ∈ els, x.bare = true := by
  unfold RowBare at h
  split at h
  · rename_i sz els hl
    exact ⟨sz, els, hl, h⟩
  · exact h.elim
theorem BoxBare.get {r g : Nat} (h : BoxBare m r g) : ∃ cs, live m r g = some ⟨.box cs, false⟩ ∧ ∀ c ∈ cs, ∃ x : V, c = .v x ∧ x.leaf = true := by
  unfold BoxBare at h
  split at h
  · rename_i cs hl
    refine ⟨cs, hl, fun c hc => ?_⟩
    have := List.all_eq_true.1 h c hc
    cases c with
    | v x => exact ⟨x, rfl, this⟩
    | _ => cases this
  · exact h.elim

/-- What is new through and through. -/
def freshD (m : Nat → RS) : Mode → D → Prop
  | .rd _, .v x => x.bare = true
  | .rd _, .own r g _ _ => RowBare m r g
  | .take _, .v .nil => True
  | .take _, .own r g _ _ => RowBare m r g
  | .ios, .own r g _ _ => RowBare m r g
  | .io _, .ptr r g _ _ => BoxBare m r g
  | _, _ => False

/-- What is written keeps its size. -/
def ioLen : List Mode → List V → List V → Prop
  | .io _ :: ms, .agg cs :: xs, .agg cs' :: zs => cs'.length = cs.length ∧ ioLen ms xs zs
  | .ios :: ms, .sl sz els :: xs, .sl sz' els' :: zs => sz' = sz ∧ els'.length = els.length ∧ ioLen ms xs zs
  | .rd _ :: ms, _ :: xs, zs => ioLen ms xs zs
  | .take _ :: ms, _ :: xs, zs => ioLen ms xs zs
  | [], [], [] => True
  | _, _, _ => False

/-- What a result variable holds. -/
def resD (P : Program) (S : St) : ResultVar → Option D
  | .tmp t => some (S.f t)
  | .cell a t => effLoad P S.m t (S.f a)

/-- The call has ended, as the contract says; ds: the results as they lie. -/
structure Ends (P : Program) (s : Spec) (xs : List V) (slots : List ResultVar) (rs zs : List V) (S : St) : Prop where
  args : ∃ ds rids ws ks, slots.mapM (resD P S) = some ds ∧ argsOf S.m (s.res.map RK.mode ++ ioModes s.modes) (ds ++ ioDs 0 s.modes xs) = some (rs ++ zs, rids, ws, ks) ∧ (ws ++ ks).Nodup ∧ (∀ r ∈ ws ++ ks, r ∉ rids) ∧
    (s.fresh = true → ∀ p ∈ (s.res.map RK.mode ++ ioModes s.modes).zip (ds ++ ioDs 0 s.modes xs), freshD S.m p.1 p.2)
  rlen : rs.length = s.res.length
  ios : ioLen s.modes xs zs

theorem ArgsOk.split : ∀ {m1 m2 : List Mode} {x1 x2 : List V} {v1 v2 : List Value} {M T : List Nat}, ArgsOk w F (m1 ++ m2) (x1 ++ x2) (v1 ++ v2) M T → x1.length = m1.length → v1.length = m1.length →
    ∃ M1 T1 M2 T2, ArgsOk w F m1 x1 v1 M1 T1 ∧ ArgsOk w F m2 x2 v2 M2 T2 ∧ M = M1 ++ M2 ∧ T = T1 ++ T2
  | [], m2, [], x2, [], v2, M, T, h, _, _ => ⟨[], [], M, T, .nil, h, rfl, rfl⟩
  | [], _, _ :: _, _, _, _, _, _, _, hx, _ => by simp at hx
  | [], _, [], _, _ :: _, _, _, _, _, _, hv => by simp at hv
  | _ :: _, _, [], _, _, _, _, _, _, hx, _ => by simp at hx
  | _ :: _, _, _ :: _, _, [], _, _, _, _, _, hv => by simp at hv
  | md :: m1, m2, x :: x1, x2, v :: v1, v2, M, T, h, hx, hv => by
    simp only [List.cons_append] at h
    cases h with
    | rd h hs =>
      obtain ⟨M1, T1, M2, T2, h1, h2, rfl, rfl⟩ := ArgsOk.split hs (by simpa using hx) (by simpa using hv)
      exact ⟨_, _, _, _, .rd h h1, h2, rfl, rfl⟩
    | io hw h hs =>
      obtain ⟨M1, T1, M2, T2, h1, h2, rfl, rfl⟩ := ArgsOk.split hs (by simpa using hx) (by simpa using hv)
      exact ⟨_, _, _, _, .io hw h h1, h2, rfl, rfl⟩
    | ios h hs =>
      obtain ⟨M1, T1, M2, T2, h1, h2, rfl, rfl⟩ := ArgsOk.split hs (by simpa using hx) (by simpa using hv)
      refine ⟨_, _, _, _, .ios h h1, h2, ?_, rfl⟩
      split <;> rfl
    | take h hs =>
      obtain ⟨M1, T1, M2, T2, h1, h2, rfl, rfl⟩ := ArgsOk.split hs (by simpa using hx) (by simpa using hv)
      refine ⟨_, _, _, _, .take h h1, h2, ?_, ?_⟩ <;> split <;> rfl

theorem res_of {N : Nat → Prop} : ∀ {ks : List RK} {rs : List V} {vs : List Value} {M T : List Nat}, ArgsOk w F (ks.map RK.mode) rs vs M T → (∀ b ∈ M, ¬ F b ∧ N b) → ResOk w F N ks rs vs
  | [], rs, vs, M, T, h, _ => by cases h; exact .nil
  | .plain sh :: ks, rs, vs, M, T, h, hM => by
    cases h with
    | rd h hs => exact .plain h (res_of hs hM)
  | .own sz :: ks, rs, vs, M, T, h, hM => by
    cases h with
    | take h hs =>
      rename_i els xs v κ g vs M T
      refine .own h (fun h0 => (hM g (by rw [if_neg h0]; simp)).2) (res_of hs fun b hb => hM b ?_)
      split
      · exact hb
      · exact List.mem_cons_of_mem _ hb
  | .new :: ks, rs, vs, M, T, h, hM => by
    cases h with
    | io hw h hs => exact .new hw (hM _ (by simp)).1 (hM _ (by simp)).2 h (res_of hs fun b hb => hM b (List.mem_cons_of_mem _ hb))

theorem ios_of {w0 : World} {F0 : Nat → Prop} : ∀ {modes : List Mode} {xs zs : List V} {vs : List Value} {M T M0 T0 : List Nat}, ArgsOk w0 F0 modes xs vs M0 T0 → ArgsOk w F (ioModes modes) zs (ioVals modes vs) M T → ioLen modes xs zs → (∀ b ∈ M, ¬ F b) → IosOk w F modes xs vs zs
  | [], xs, zs, vs, M, T, M0, T0, h0, h, hl, _ => by
    cases h0
    cases h
    exact .nil
  | .rd sh :: ms, xs, zs, vs, M, T, M0, T0, h0, h, hl, hM => by
    cases h0 with
    | rd h1 hs => exact .rd (ios_of hs h (by simpa [ioLen] using hl) hM)
  | .take sz :: ms, xs, zs, vs, M, T, M0, T0, h0, h, hl, hM => by
    cases h0 with
    | take h1 hs => exact .take (ios_of hs h (by simpa [ioLen] using hl) hM)
  | .io sh :: ms, xs, zs, vs, M, T, M0, T0, h0, h, hl, hM => by
    cases h0 with
    | io hw0 h1 hs =>
      simp only [ioModes, ioVals] at h
      cases h with
      | io hw h2 hs2 =>
        simp only [ioLen] at hl
        exact .io hw (hM _ (by simp)) hl.1 h2 (ios_of hs hs2 hl.2 fun b hb => hM b (List.mem_cons_of_mem _ hb))
  | .ios :: ms, xs, zs, vs, M, T, M0, T0, h0, h, hl, hM => by
    cases h0 with
    | ios h1 hs =>
      simp only [ioModes, ioVals] at h
      cases h with
      | ios h2 hs2 =>
        simp only [ioLen] at hl
        obtain ⟨rfl, hl2, hl3⟩ := hl
        refine .ios hl2 h2 (ios_of hs hs2 hl3 fun b hb => hM b ?_)
        split
        · exact hb
        · exact List.mem_cons_of_mem _ hb

/-- A block that may be written is one that was taken over, or one that comes back. -/
theorem lent : ∀ {modes : List Mode} {xs : List V} {vs : List Value} {M T : List Nat}, ArgsOk w F modes xs vs M T → ∀ b ∈ M, b ∈ T ∨ b ∈ ((ioModes modes).zip (ioVals modes vs)).filterMap fun p => argBlk p.1 p.2
  | [], xs, vs, M, T, h, b, hb => by cases h; cases hb
  | .rd sh :: ms, xs, vs, M, T, h, b, hb => by
    cases h with
    | rd h hs => exact lent hs b hb
  | .take sz :: ms, xs, vs, M, T, h, b, hb => by
    cases h with
    | take h hs =>
      split at hb
      · rename_i h0
        rw [if_pos h0]
        exact lent hs b hb
      · rename_i h0
        rw [if_neg h0]
        rcases List.mem_cons.1 hb with rfl | hb
        · exact .inl (by simp)
        · exact (lent hs b hb).imp (List.mem_cons_of_mem _) id
  | .io sh :: ms, xs, vs, M, T, h, b, hb => by
    cases h with
    | io hw h hs =>
      simp only [ioModes, ioVals, List.zip_cons_cons, List.filterMap_cons, argBlk]
      rcases List.mem_cons.1 hb with rfl | hb
      · exact .inr (by simp)
      · exact (lent hs b hb).imp id (List.mem_cons_of_mem _)
  | .ios :: ms, xs, vs, M, T, h, b, hb => by
    cases h with
    | ios h hs =>
      simp only [ioModes, ioVals, List.zip_cons_cons, List.filterMap_cons]
      rcases h.place with ⟨h1, ad, h2⟩ | ⟨h1, h2, _⟩
      · rw [if_pos h1] at hb
        have := lent hs b hb
        subst h2
        cases ad <;> simpa [argBlk, h1] using this
      · rw [if_neg h1] at hb
        subst h2
        simp only [argBlk, if_neg h1]
        rcases List.mem_cons.1 hb with rfl | hb
        · exact .inr (by simp)
        · exact (lent hs b hb).imp id (List.mem_cons_of_mem _)

theorem io_lens : ∀ {modes : List Mode} {xs : List V} {vs : List Value} (k : Nat), xs.length = modes.length → vs.length = modes.length → (ioDs k modes xs).length = (ioModes modes).length ∧ (ioVals modes vs).length = (ioModes modes).length
  | [], xs, vs, k, hx, hv => by simp [ioDs, ioModes, ioVals]
  | _ :: _, [], _, _, hx, _ => by simp at hx
  | _ :: _, _ :: _, [], _, _, hv => by simp at hv
  | md :: ms, x :: xs, v :: vs, k, hx, hv => by
    have := io_lens (modes := ms) (xs := xs) (vs := vs) (k + 1) (by simpa using hx) (by simpa using hv)
    cases md <;> simp [ioDs, ioModes, ioVals, this]

theorem res_run (h : Sim O S n a w F L) {fn : Func} {slots : List ResultVar} (hres : fn.results.toList = slots) {ds : List D} (hds : slots.mapM (resD P S) = some ds) :
    ∃ vs : List Value, (results fn a.tmps).run P w = .ok (packV vs) w ∧ ds.length = vs.length ∧ ∀ (i : Nat) (d : D) (v : Value), ds[i]? = some d → vs[i]? = some v → RD w F S.m L d v := by
  have hm : ∀ (g : ResultVar → Sem Value), (∀ t, g (.tmp t) = pure (a.tmps.getD t undef)) → (∀ c t, g (.cell c t) = do loadVar t (← asAddr (a.tmps.getD c undef))) → ∀ (l : List ResultVar) (ds : List D), l.mapM (resD P S) = some ds →
      ∃ vs : List Value, (l.mapM g).run P w = .ok vs w ∧ ds.length = vs.length ∧ ∀ (i : Nat) (d : D) (v : Value), ds[i]? = some d → vs[i]? = some v → RD w F S.m L d v := fun g hg1 hg2 l => by
    induction l with
    | nil =>
      intro ds hds
      simp at hds
      subst hds
      exact ⟨[], rfl, rfl, by simp⟩
    | cons x l ih =>
      intro ds hds
      rw [List.mapM_cons] at hds
      simp only [Option.bind_eq_bind, Option.bind_eq_some_iff, Option.pure_def, Option.some.injEq] at hds
      obtain ⟨d, hd, ds', hds', rfl⟩ := hds
      obtain ⟨vs, h1, h2, h3⟩ := ih ds' hds'
      have hone : ∃ v, (g x).run P w = .ok v w ∧ RD w F S.m L d v := by
        cases x with
        | tmp t =>
          simp only [resD, Option.some.injEq] at hd
          subst hd
          exact ⟨a.tmps.getD t undef, by rw [hg1]; rfl, h.frame t⟩
        | cell c t =>
          simp only [resD] at hd
          obtain ⟨u, hu1, hu2⟩ := h.load (h.frame c) hd
          have hv : ∃ ad, a.tmps.getD c undef = .pointer (some ad) := by
            have hf := h.frame c
            unfold effLoad at hd
            split at hd
            · cases hd
            · split at hd
              · rename_i x c' hx
                rw [hx] at hf
                obtain ⟨ad, e, _⟩ := cptr_val hf
                exact ⟨ad, e⟩
              · rename_i r g i c' hx
                rw [hx] at hf
                split at hd
                · rename_i hl
                  obtain ⟨b, k, e, _⟩ := h.ptr_val hf (by rw [hl]; rfl)
                  exact ⟨_, e⟩
                · rename_i hl
                  obtain ⟨b, k, e, _⟩ := h.ptr_val hf (by rw [hl]; rfl)
                  exact ⟨_, e⟩
                · cases hd
              · cases hd
          obtain ⟨ad, hv⟩ := hv
          rw [hv] at hu1
          refine ⟨u, ?_, hu2⟩
          rw [hg2, hv]
          exact hu1
      obtain ⟨v, hv1, hv2⟩ := hone
      refine ⟨v :: vs, ?_, by simp [h2], fun i d' v' hd' hv' => ?_⟩
      · rw [List.mapM_cons, Sem.run_bind, hv1]
        show ((do let ys ← List.mapM g l; pure (v :: ys) : Sem (List Value)).run P w) = _
        rw [Sem.run_bind, h1]
        rfl
      · cases i with
        | zero => simp at hd' hv'; subst hd'; subst hv'; exact hv2
        | succ i => exact h3 i d' v' (by simpa using hd') (by simpa using hv')
  have e : fn.results = slots.toArray := Array.toList_inj.1 hres
  have fin : ∀ (g : ResultVar → Sem Value), (∀ t, g (.tmp t) = pure (a.tmps.getD t undef)) → (∀ c t, g (.cell c t) = do loadVar t (← asAddr (a.tmps.getD c undef))) →
      ∃ vs : List Value, (do let vs ← slots.toArray.mapM g; pure (if h : vs.size = 1 then vs[0] else .tuple vs) : Sem Value).run P w = .ok (packV vs) w ∧ ds.length = vs.length ∧ ∀ (i : Nat) (d : D) (v : Value), ds[i]? = some d → vs[i]? = some v → RD w F S.m L d v := fun g hg1 hg2 => by
    obtain ⟨vs, h1, h2, h3⟩ := hm g hg1 hg2 slots ds hds
    refine ⟨vs, ?_, h2, h3⟩
    rw [Sem.run_bind, List.mapM_toArray]
    have e2 : ∀ s : Sem (List Value), s.run P w = .ok vs w → ((List.toArray <$> s).run P w) = .ok vs.toArray w := fun s hs => by
      rw [map_eq_pure_bind, Sem.run_bind, hs]; rfl
    rw [e2 _ h1]
    match vs with
    | [] => rfl
    | [t] => rfl
    | t :: u :: l => rfl
  unfold results
  rw [e]
  exact fin _ (fun _ => rfl) (fun _ _ => rfl)

end Go.Proofs.YtdhdhcllgkddnaaGreat.Va

namespace Go.Proofs.YtdhdhcllgkddnaaGreat.Va
open Go Go.RowKit

variable {P : Program} {Γ : FuncId → Option Spec} {w w' : World} {F F' : Nat → Prop} {S : St} {n : Nat} {a : Act} {L : Lay} {m : Nat → RS}

theorem mem_argBlk {M T : List Nat} {modes : List Mode} {xs : List V} {vs : List Value} (h : ArgsOk w F modes xs vs M T) : (modes.zip vs).filterMap (fun p => argBlk p.1 p.2) = M := h.blks.symm

/-- What a fresh value leads to. -/
theorem fresh_rv {O : Org} {F2 : Nat → Prop} (h : Sim O S n a w F L) {md : Mode} {d : D} {v : Value} (hd : RD w F S.m L d v) (hf : freshD S.m md d)
    (hb : ∀ sh r g off len, md = .rd sh → d = .own r g off len → ∀ reg b, (S.m r).reg = some reg → blk L r reg = some b → F2 b) : ArgRV w F F2 S.m L md d v := by
  cases md with
  | rd sh =>
    cases d with
    | v x =>
      intro y hy
      simp only [deep, deepC, Option.some.injEq] at hy
      subst hy
      exact hd.v_inv.bare_ hf
    | own r g off len =>
      obtain ⟨sz, els, hlv, hall⟩ := RowBare.get hf
      intro y hy
      obtain ⟨hle, ad, us, hrow, had⟩ := row_own h hd hlv
      simp only [deep, deepC, rowOf, hlv, Option.map_some, Option.some.injEq] at hy
      subst hy
      have hrow2 : Row w F2 sz ((els.drop off).take len) v ad (L.cap r - off) us := ⟨hrow.val, hrow.le, hrow.max, hrow.len, hrow.sizes, hrow.one, hrow.cell, hrow.none, fun i c x y hx hy => by
        obtain ⟨u, hu1, hu2⟩ := hrow.at_ i c x y hx hy
        have hxm : x ∈ els := List.mem_of_mem_drop (List.mem_of_mem_take (List.mem_of_getElem? hx))
        exact ⟨u, hu1, hu2.leaf_ (bare_cell (hall x hxm) hy)⟩⟩
      have hreg := (live_reg hlv).2
      have hok := h.regs r _ hreg
      simp only [RegOk] at hok
      by_cases hoff : off < L.cap r
      · have had' := had hoff
        refine hrow2.rv (fun _ hb => hb) (fun b hb1 hne => ?_) fun hn => ?_
        · have h0 : L.cap r ≠ 0 := by omega
          obtain ⟨g0, cur, ty, k1, _⟩ := hok.2.2.2.resolve_left h0
          rw [k1] at had'
          rw [hb1] at had'
          simp only [Option.map_some, Option.some.injEq] at had'
          rw [had', block_add]
          exact hb sh r g off len rfl rfl _ g0 hreg (by simp [blk, h0, k1])
        · have h0 : L.cap r ≠ 0 := by omega
          obtain ⟨g0, cur, ty, k1, _⟩ := hok.2.2.2.resolve_left h0
          rw [k1, hn] at had'
          cases had'
      · have hlen : len = 0 := by have := hok.1; omega
        subst hlen
        simp only [List.take_zero] at hrow2 ⊢
        have hv := hrow2.val
        have hc0 : L.cap r - off = 0 := by omega
        rw [hc0] at hv
        cases ad with
        | none => rw [hv]; exact .sl0 sz
        | some ad =>
          rw [hv]
          exact .sl sz [] ad 0 (fun _ _ => undef) (fun hne => absurd rfl hne) (Nat.le_refl _) (by unfold maxLen; omega) (by simp) (by simp) (by simp) (by simp)
    | _ => exact hf.elim
  | io sh =>
    cases d with
    | ptr r g i c =>
      obtain ⟨cs, hlv, hall⟩ := BoxBare.get hf
      intro cs' fz hlv' j e u y he hy hu
      rw [hlv] at hlv'
      cases hlv'
      obtain ⟨x, rfl, hx⟩ := hall e (List.mem_of_getElem? he)
      simp only [deepC, Option.some.injEq] at hy
      subst hy
      exact hu.v_inv.leaf_ hx
    | own r g off len => exact hf.elim
    | _ => trivial
  | ios =>
    cases d with
    | own r g off len =>
      obtain ⟨sz, els, hlv, hall⟩ := RowBare.get hf
      intro sz' els' fz hlv' i c x y u hx hy hu
      rw [hlv] at hlv'
      cases hlv'
      exact hu.leaf_ (bare_cell (hall x (List.mem_of_getElem? hx)) hy)
    | _ => trivial
  | take sz0 =>
    cases d with
    | own r g off len =>
      obtain ⟨sz, els, hlv, hall⟩ := RowBare.get hf
      intro sz' els' fz hlv' i c x y u hx hy hu
      rw [hlv] at hlv'
      cases hlv'
      exact hu.leaf_ (bare_cell (hall x (List.mem_of_getElem? hx)) hy)
    | _ => trivial

/-- The end of a call. -/
theorem end_ok {s : Spec} {xs rs zs : List V} {slots : List ResultVar} {vals : List Value} {fn : Func} {M T : List Nat} (h0 : ArgsOk w F s.modes xs vals M T) (hsl : slots.length = s.res.length) (hres : fn.results.toList = slots)
    (h : Sim ⟨w, F, M, (ioDs 0 s.modes xs).zip (ioVals s.modes vals)⟩ S n a w' F' L) (he : Ends P s xs slots rs zs S) : ∃ (vs : List Value) (F' : Nat → Prop), (results fn a.tmps).run P w' = .ok (packV vs) w' ∧ w'.os = w.os ∧ w'.tape = w.tape ∧ w'.output = w.output ∧ w.heap.size ≤ w'.heap.size ∧
      (∀ b, b < w.heap.size → b ∉ M → w'.heap[b]? = w.heap[b]?) ∧ (∀ b, F b → F' b) ∧ (∀ b, F' b → b < w.heap.size → b ∉ T → F b) ∧ (∀ b, F' b → b < w'.heap.size) ∧
      IosOk w' F' s.modes xs vals zs ∧ ResOk w' F' (fun b => w.heap.size ≤ b ∨ b ∈ T) s.res rs vs ∧
      (s.fresh = true → ∀ F2 : Nat → Prop, (∀ b, F' b → (w.heap.size ≤ b ∨ b ∈ T) → F2 b) → (∀ b, F2 b → F' b) → IosOk w' F2 s.modes xs vals zs ∧ ResOk w' F2 (fun b => w.heap.size ≤ b ∨ b ∈ T) s.res rs vs) := by
  obtain ⟨hx0, hv0⟩ := h0.lens
  obtain ⟨hio1, hio2⟩ := io_lens (modes := s.modes) (xs := xs) (vs := vals) 0 hx0 hv0
  obtain ⟨⟨ds, rids, ws, ks, hds, hargs, hnd, hdis, hfr⟩, hrl, hios⟩ := he
  obtain ⟨vs, hrun, hvl, hvr⟩ := res_run h hres hds
  have hdl : ds.length = slots.length := (mapM_getElem hds).1.symm
  have hll : (ds ++ ioDs 0 s.modes xs).length = (vs ++ ioVals s.modes vals).length := by simp [hio1, hio2, hvl]
  have hrd : ∀ (i : Nat) (d : D) (v : Value), (ds ++ ioDs 0 s.modes xs)[i]? = some d → (vs ++ ioVals s.modes vals)[i]? = some v → RD w' F' S.m L d v := fun i d v hd hv => by
    by_cases hi : i < ds.length
    · rw [List.getElem?_append_left hi] at hd
      rw [List.getElem?_append_left (by omega)] at hv
      exact hvr i d v hd hv
    · rw [List.getElem?_append_right (by omega)] at hd
      rw [List.getElem?_append_right (by omega), ← hvl] at hv
      have hz : ((ioDs 0 s.modes xs).zip (ioVals s.modes vals))[i - ds.length]? = some (d, v) := by simp [List.getElem?_zip_eq_some, hd, hv]
      exact h.pins (d, v) (List.mem_of_getElem? hz)
  obtain ⟨F1, h1, hF1, hc1, hg1, hb1, hn1⟩ := h.freezeAll rids
  have hnF : ∀ r, r ∈ ws ∨ r ∈ ks → ∀ reg b, (S.m r).reg = some reg → blk L r reg = some b → ¬ F1 b := fun r hr reg b hreg hb => by
    have hreg' : ((S.setM (Va.freezeAll S.m rids)).m r).reg = some reg := by rw [setM_m, hn1 r (hdis r (List.mem_append.2 hr))]; exact hreg
    exact blk_not_F (h1.regs r reg hreg') hb
  -- what follows from the arguments' form
  have key : ∀ (G : Nat → Prop), (∀ b, G b → F1 b) → ∀ M2 T2, ArgsOk w' G (s.res.map RK.mode ++ ioModes s.modes) (rs ++ zs) (vs ++ ioVals s.modes vals) M2 T2 → M2.Nodup →
      (∀ b ∈ M2, ∃ r, (r ∈ ws ∨ r ∈ ks) ∧ ∃ reg, (S.m r).reg = some reg ∧ blk L r reg = some b) →
      IosOk w' G s.modes xs vals zs ∧ ResOk w' G (fun b => w.heap.size ≤ b ∨ b ∈ T) s.res rs vs ∧ (∀ b ∈ M, b ∉ T → b ∈ M2) := by
    intro G hG M2 T2 hA hnd2 hM2
    have hnG : ∀ b ∈ M2, ¬ G b := fun b hb hg => by
      obtain ⟨r, hr, reg, hreg, hbk⟩ := hM2 b hb
      exact hnF r hr reg b hreg hbk (hG b hg)
    obtain ⟨Ma, Ta, Mb, Tb, hA1, hA2, rfl, rfl⟩ := hA.split (by simp [hrl]) (by simp; omega)
    have hlent := lent h0
    rw [mem_argBlk hA2] at hlent
    refine ⟨ios_of h0 hA2 hios fun b hb => hnG b (List.mem_append_right _ hb), res_of hA1 fun b hb => ⟨hnG b (List.mem_append_left _ hb), ?_⟩, fun b hb hT => List.mem_append_right _ ((hlent b hb).resolve_left hT)⟩
    by_cases hlt : b < w.heap.size
    · obtain ⟨r, hr, reg, hreg, hbk⟩ := hM2 b (List.mem_append_left _ hb)
      rcases hlent b (h.mine r reg b hreg hbk hlt) with h2 | h2
      · exact .inr h2
      · exact absurd rfl ((List.nodup_append.1 hnd2).2.2 b hb b h2)
    · exact .inl (Nat.le_of_not_lt hlt)
  obtain ⟨M2, T2, hA, hnd2, hM2, _⟩ := args_ok h hF1 _ _ _ _ rids ws ks hll hrd hargs hc1 hnd hnF
  obtain ⟨k1, k2, k3⟩ := key F1 (fun _ hb => hb) M2 T2 hA hnd2 hM2
  have hMF : ∀ b ∈ M, b ∉ T → ¬ F1 b := fun b hb hT hf => by
    obtain ⟨r, hr, reg, hreg, hbk⟩ := hM2 b (k3 b hb hT)
    exact hnF r hr reg b hreg hbk hf
  refine ⟨vs, F1, hrun, h.os, h.tape, h.output, h.size0, h.old, fun b hb => hF1 b (h.F0 b hb), fun b hb hlt hT => ?_, h1.Flt, k1, k2, fun hs F2 hF2 hF2' => ?_⟩
  · by_cases hM : b ∈ M
    · exact absurd hb (hMF b hM hT)
    · exact h1.Fold b hlt hb hM
  · have hH : ∀ (i : Nat) (md : Mode) (d : D) (v : Value), (s.res.map RK.mode ++ ioModes s.modes)[i]? = some md → (ds ++ ioDs 0 s.modes xs)[i]? = some d → (vs ++ ioVals s.modes vals)[i]? = some v → ArgRV w' F' F2 S.m L md d v := fun i md d v hi1 hi2 hi3 => by
      have hz : ((s.res.map RK.mode ++ ioModes s.modes).zip (ds ++ ioDs 0 s.modes xs))[i]? = some (md, d) := by simp only [List.getElem?_zip_eq_some]; exact ⟨hi1, hi2⟩
      refine fresh_rv h (hrd i d v hi2 hi3) (hfr hs _ (List.mem_of_getElem? hz)) fun sh r g off len hmd hdd reg b hreg hbk => ?_
      subst hmd; subst hdd
      obtain ⟨x, r1, w1, q1, j1, _, j3, _, _⟩ := argsOf_at hargs i _ _ hi1 hi2
      simp only [argOf, Option.map_eq_some_iff, Prod.mk.injEq] at j1
      obtain ⟨y, hy, _, rfl, _, _⟩ := j1
      have hrr : r ∈ rids := j3 r (by simp [D.rids, D.ridsC])
      have hrow : ∃ sz els, reg.body = .row sz els := by
        obtain ⟨sz, els, hlv, _⟩ := RowBare.get (hfr hs _ (List.mem_of_getElem? hz))
        have := (live_reg hlv).2
        rw [hreg] at this
        cases this
        exact ⟨sz, els, rfl⟩
      refine hF2 b (hc1 r hrr reg b hreg hrow hbk) ?_
      by_cases hlt : b < w.heap.size
      · by_cases hT : b ∈ T
        · exact .inr hT
        · exfalso
          obtain ⟨r', hr', reg', hreg', hbk'⟩ := hM2 b (k3 b (h.mine r reg b hreg hbk hlt) hT)
          have := h.inj r r' reg reg' b hreg hreg' hbk hbk'
          subst this
          exact hdis r (List.mem_append.2 hr') hrr
      · exact .inl (Nat.le_of_not_lt hlt)
    obtain ⟨M3, T3, hA3, hnd3, hM3, _⟩ := args_gen h (F1 := F2) _ _ _ _ rids ws ks hll hrd hargs hH hnd fun r hr reg b hreg hb hf => hnF r hr reg b hreg hb (hF2' b hf)
    obtain ⟨q1, q2, _⟩ := key F2 hF2' M3 T3 hA3 hnd3 hM3
    exact ⟨q1, q2⟩

/-- The rule for a function. -/
theorem sound_of {f : FuncId} {fn : Func} {c : Code} {s : Spec} {nt : Nat} {slots : List ResultVar} (hm : P.follows .mixedOrders = true) (hΓ : ∀ f s, Γ f = some s → Sound P f s) (hf : P.funcs[f]? = some fn) (hb : fn.body = some c) (hname : (fn.name != "runtime.NumGoroutine") = true)
    (hnt : fn.ntmps = nt) (hres : fn.results.toList = slots) (hin : slotsIn nt c = true) (hmodes : s.modes.length ≤ nt) (hsl : slots.length = s.res.length)
    (h : ∀ xs rs zs, s.fn xs = some (rs, zs) → xs.length = s.modes.length → awp P Γ c (fun e S => match e with | .exit _ => False | _ => Ends P s xs slots rs zs S) (St.init s.modes xs)) : Sound P f s := by
  refine ⟨by simp [callOk, hf, hname, hb], fun xs rs zs hfn w F vals M T hF hM hn ha => ?_⟩
  obtain ⟨hx0, hv0⟩ := ha.lens
  subst hnt
  have hsim := init_sim ha hn hM hF hmodes
  refine calls_of_wp hf hb ?_
  refine code_ok hm hΓ hin (h xs rs zs hfn hx0) hsim fun e S' a' w' F' L' he hS => ?_
  have fin : Ends P s xs slots rs zs S' → bodyPost P fn (fun e w' => ∃ (vs : List Value) (F' : Nat → Prop), e = .returned (packV vs) ∧ w'.os = w.os ∧ w'.tape = w.tape ∧ w'.output = w.output ∧ w.heap.size ≤ w'.heap.size ∧
      (∀ b, b < w.heap.size → b ∉ M → w'.heap[b]? = w.heap[b]?) ∧ (∀ b, F b → F' b) ∧ (∀ b, F' b → b < w.heap.size → b ∉ T → F b) ∧ (∀ b, F' b → b < w'.heap.size) ∧
      IosOk w' F' s.modes xs vals zs ∧ ResOk w' F' (fun b => w.heap.size ≤ b ∨ b ∈ T) s.res rs vs ∧
      (s.fresh = true → ∀ F2 : Nat → Prop, (∀ b, F' b → (w.heap.size ≤ b ∨ b ∈ T) → F2 b) → (∀ b, F2 b → F' b) → IosOk w' F2 s.modes xs vals zs ∧ ResOk w' F2 (fun b => w.heap.size ≤ b ∨ b ∈ T) s.res rs vs)) .ret a' w' := fun he => by
    obtain ⟨vs, F3, k1, k⟩ := end_ok ha hsl hres hS he
    exact ⟨hS.defers, _, k1, vs, F3, rfl, k⟩
  cases e with
  | normal => exact fin he
  | exit k => exact he.elim
  | ret => exact fin he

end Go.Proofs.YtdhdhcllgkddnaaGreat.Va

namespace Go.Proofs.YtdhdhcllgkddnaaGreat.Va
open Go Go.RowKit

variable {P : Program} {Γ : FuncId → Option Spec} {Q : AExit → St → Prop} {S : St}

theorem awp_sr {id : Nat} {l : List Oper} {b : Code} (h : ∀ K : St → Prop, (∀ S', awp P Γ b Q S' → K S') → Got (runOps P Γ l l S) K) : awp P Γ (.seq (.region id l.toArray false) b) Q S :=
  awp_seq fun K hK => awp_region fun K' hK' => h K' fun S' hS => hK' S' (hK S' hS)
theorem awp_sc {id : Nat} {l : List Oper} {b : Code} (hd : drawOk l = true) (hp : pairs l = []) (h : ∀ K : St → Prop, (∀ S', awp P Γ b Q S' → K S') → Got (runOps P Γ l l S) K) : awp P Γ (.seq (.region id l.toArray true) b) Q S :=
  awp_seq fun K hK => awp_calm hd hp fun K' hK' => h K' fun S' hS => hK' S' (hK S' hS)
theorem awp_sw {id : Nat} {l : List Oper} {b : Code} {ws : List Nat} {ps : List (Nat × Nat)} (hd : drawOk l = true) (hp : pairs l = ps) (h : ∀ K : St → Prop, (∀ S', awp P Γ b Q S' → K S') → GotD (runD P Γ l ws l 0 S []) ps K) : awp P Γ (.seq (.region id l.toArray true) b) Q S :=
  awp_seq fun K hK => awp_draw (ws := ws) hd hp fun K' hK' => h K' fun S' hS => hK' S' (hK S' hS)

/-- What a part of a sequence may end as. -/
def Then (K : St → Prop) (Q : AExit → St → Prop) : AExit → St → Prop
  | .normal, S => K S
  | e, S => Q e S
/-- What a block's inside may end as. -/
def Inside (id : Nat) (Q : AExit → St → Prop) : AExit → St → Prop
  | .exit k, S => if k = id then Q .normal S else Q (.exit k) S
  | e, S => Q e S
@[simp] theorem Then_normal (K : St → Prop) : Then K Q .normal S = K S := rfl
@[simp] theorem Then_ret (K : St → Prop) : Then K Q .ret S = Q .ret S := rfl
@[simp] theorem Then_exit (K : St → Prop) (k : Nat) : Then K Q (.exit k) S = Q (.exit k) S := rfl
@[simp] theorem Inside_normal (id : Nat) : Inside id Q .normal S = Q .normal S := rfl
@[simp] theorem Inside_ret (id : Nat) : Inside id Q .ret S = Q .ret S := rfl
@[simp] theorem Inside_exit (id k : Nat) : Inside id Q (.exit k) S = if k = id then Q .normal S else Q (.exit k) S := rfl

theorem awp_congr {c : Code} {Q' : AExit → St → Prop} (h : awp P Γ c Q S) (hq : ∀ e S, Q e S → Q' e S) : awp P Γ c Q' S := awp_mono h hq
theorem awp_s {a b : Code} (h : ∀ K : St → Prop, (∀ S', awp P Γ b Q S' → K S') → awp P Γ a (Then K Q) S) : awp P Γ (.seq a b) Q S :=
  awp_seq fun K hK => awp_mono (h K hK) fun e S' he => by cases e <;> exact he
theorem awp_b {id : Nat} {c : Code} (h : awp P Γ c (Inside id Q) S) : awp P Γ (.block id c) Q S :=
  awp_block (awp_mono h fun e S' he => by cases e <;> exact he)
/-- A conditional in a sequence: each branch goes on with the rest. -/
theorem awp_sif {c : Operand} {x y r : Code} (b : Bool) (hb : S.ev c = .v (.bool b)) (ht : b = true → awp P Γ (.seq x r) Q S) (hf : b = false → awp P Γ (.seq y r) Q S) : awp P Γ (.seq (.cond c x y) r) Q S := by
  refine awp_seq fun K hK => awp_cond b hb (fun h => ?_) fun h => ?_
  · exact awp_mono (ht h) fun e S' he => by cases e <;> first | exact hK S' he | exact he
  · exact awp_mono (hf h) fun e S' he => by cases e <;> first | exact hK S' he | exact he
theorem awp_sskip {r : Code} (h : awp P Γ r Q S) : awp P Γ (.seq .skip r) Q S := awp_seq fun _ hK => hK S h
theorem awp_sret {r : Code} (h : Q .ret S) : awp P Γ (.seq .ret r) Q S := awp_seq fun _ _ => h
theorem awp_sexit {k : Nat} {r : Code} (h : Q (.exit k) S) : awp P Γ (.seq (.exit k) r) Q S := awp_seq fun _ _ => h
theorem awp_sseq {a b r : Code} (h : awp P Γ (.seq a (.seq b r)) Q S) : awp P Γ (.seq (.seq a b) r) Q S := by
  refine awp_seq fun K hK => awp_seq fun K1 hK1 => ?_
  have h1 : awp P Γ a (fun e S' => match e with | .normal => awp P Γ (.seq b r) Q S' | e => Q e S') S := h
  refine awp_mono h1 fun e S' he => ?_
  cases e with
  | normal =>
    refine hK1 S' ?_
    have h2 : awp P Γ b (fun e S' => match e with | .normal => awp P Γ r Q S' | e => Q e S') S' := he
    exact awp_mono h2 fun e S'' he => by cases e <;> first | exact hK S'' he | exact he
  | exit k => exact he
  | ret => exact he

/-- A loop in a block, in a sequence: 'while'. -/
theorem awp_while {id : Nat} {c r : Code} (I : St → Prop) (μ : St → Nat) (h0 : I S)
    (h : ∀ S1, I S1 → ∀ K1 K2 : St → Prop, (∀ S', I S' → μ S' < μ S1 → K1 S') → (∀ S', awp P Γ r Q S' → K2 S') → awp P Γ c (Then K1 (Inside id (Then K2 Q))) S1) : awp P Γ (.seq (.block id (.loop c)) r) Q S := by
  refine awp_s fun K hK => awp_b ?_
  refine awp_loop I μ h0 fun S1 hI => ?_
  have := h S1 hI (fun S' => I S' ∧ μ S' < μ S1) K (fun S' a b => ⟨a, b⟩) hK
  exact awp_mono this fun e S' he => by cases e <;> exact he

theorem mapM_tmps {P : Program} {S : St} : ∀ ts : List Nat, (ts.map ResultVar.tmp).mapM (resD P S) = some (ts.map S.f)
  | [] => rfl
  | t :: ts => by rw [List.map_cons, List.mapM_cons, mapM_tmps ts]; rfl

/-- The end of a call whose results lie in slots. -/
theorem Ends.tmps {P : Program} {s : Spec} {xs rs zs : List V} {S : St} {ts : List Nat} {rids ws ks : List Nat} (h1 : argsOf S.m (s.res.map RK.mode ++ ioModes s.modes) (ts.map S.f ++ ioDs 0 s.modes xs) = some (rs ++ zs, rids, ws, ks)) (h2 : (ws ++ ks).Nodup) (h3 : ∀ r ∈ ws ++ ks, r ∉ rids)
    (h4 : s.fresh = true → ∀ p ∈ (s.res.map RK.mode ++ ioModes s.modes).zip (ts.map S.f ++ ioDs 0 s.modes xs), freshD S.m p.1 p.2) (h5 : rs.length = s.res.length) (h6 : ioLen s.modes xs zs) : Ends P s xs (ts.map ResultVar.tmp) rs zs S :=
  ⟨⟨_, rids, ws, ks, mapM_tmps ts, h1, h2, h3, h4⟩, h5, h6⟩
theorem Ends.of {P : Program} {s : Spec} {xs rs zs : List V} {S : St} {slots : List ResultVar} {ds : List D} {rids ws ks : List Nat} (h0 : slots.mapM (resD P S) = some ds) (h1 : argsOf S.m (s.res.map RK.mode ++ ioModes s.modes) (ds ++ ioDs 0 s.modes xs) = some (rs ++ zs, rids, ws, ks)) (h2 : (ws ++ ks).Nodup) (h3 : ∀ r ∈ ws ++ ks, r ∉ rids)
    (h4 : s.fresh = true → ∀ p ∈ (s.res.map RK.mode ++ ioModes s.modes).zip (ds ++ ioDs 0 s.modes xs), freshD S.m p.1 p.2) (h5 : rs.length = s.res.length) (h6 : ioLen s.modes xs zs) : Ends P s xs slots rs zs S :=
  ⟨⟨_, rids, ws, ks, h0, h1, h2, h3, h4⟩, h5, h6⟩

end Go.Proofs.YtdhdhcllgkddnaaGreat.Va

namespace Go.Proofs.YtdhdhcllgkddnaaGreat.Va
open Go Go.RowKit

theorem wrap_u8 (n : Int) : IntKind.u8.wrap n = n % 256 := by simp [IntKind.wrap, IntKind.bits, IntKind.signed]
theorem wrap_u16 (n : Int) : IntKind.u16.wrap n = n % 65536 := by simp [IntKind.wrap, IntKind.bits, IntKind.signed]
theorem wrap_u64 (n : Int) : IntKind.u64.wrap n = n % 18446744073709551616 := by simp [IntKind.wrap, IntKind.bits, IntKind.signed]
theorem wrap_i64 {n : Int} (h : -9223372036854775808 ≤ n) (h' : n < 9223372036854775808) : IntKind.i64.wrap n = n := by
  have e : IntKind.i64.wrap n = if n % 18446744073709551616 ≥ 9223372036854775808 then n % 18446744073709551616 - 18446744073709551616 else n % 18446744073709551616 := by simp [IntKind.wrap, IntKind.bits, IntKind.signed]
  rw [e]
  split <;> omega
theorem fdiv_pow (u : Nat) (k : Nat) : (u : Int).fdiv (2 ^ k) = ((u / 2 ^ k : Nat) : Int) := by
  rw [Int.fdiv_eq_ediv_of_nonneg _ (Int.pow_nonneg (by decide))]
  simp

theorem or128_all : ((List.range 256).all fun b => bits .or .u8 (b : Int) 128 == ((b % 128 + 128 : Nat) : Int)) = true := by kernel_rfl
theorem or128 (u : Nat) : bits .or .u8 (IntKind.u8.wrap u) 128 = ((u % 128 + 128 : Nat) : Int) := by
  have h := List.all_eq_true.1 or128_all (u % 256) (List.mem_range.2 (Nat.mod_lt _ (by decide)))
  have h := eq_of_beq h
  rw [wrap_u8]
  have e : (u : Int) % 256 = ((u % 256 : Nat) : Int) := by omega
  rw [e, h]
  omega

theorem xor_zero {a : Nat} (h : a < 18446744073709551616) : bits .xor .u64 a 0 = a := by
  show IntKind.u64.wrap ((BitVec.ofInt 64 (a : Int) ^^^ (BitVec.ofInt 64 0 : BitVec 64)).toNat : Int) = _
  have e : BitVec.ofInt 64 0 = 0#64 := by decide
  rw [e, BitVec.xor_zero, BitVec.toNat_ofInt, wrap_u64]
  omega
theorem xor_ones {a : Nat} (h : a < 18446744073709551616) : bits .xor .u64 a 18446744073709551615 = ((18446744073709551615 - a : Nat) : Int) := by
  show IntKind.u64.wrap ((BitVec.ofInt 64 (a : Int) ^^^ (BitVec.ofInt 64 18446744073709551615 : BitVec 64)).toNat : Int) = _
  have e : BitVec.ofInt 64 18446744073709551615 = BitVec.allOnes 64 := by decide
  rw [e, BitVec.xor_allOnes, BitVec.toNat_not, BitVec.toNat_ofInt, wrap_u64]
  omega

/-- Zigzag. -/
def zig (n : Int) : Nat := if n < 0 then (-2 * n - 1).toNat else (2 * n).toNat
theorem zig_lt {n : Int} (h : -9223372036854775808 ≤ n) (h' : n < 9223372036854775808) : zig n < 18446744073709551616 := by unfold zig; split <;> omega
theorem zig_bits {n : Int} (h : -9223372036854775808 ≤ n) (h' : n < 9223372036854775808) :
    bits .xor .u64 (IntKind.u64.wrap (IntKind.u64.wrap n * 2 ^ (min 1 IntKind.u64.bits))) (IntKind.u64.wrap (n.fdiv (2 ^ (min 63 IntKind.i64.bits)))) = zig n := by
  have e1 : (2 : Int) ^ (min 1 IntKind.u64.bits) = 2 := by decide
  have e2 : (2 : Int) ^ (min 63 IntKind.i64.bits) = 9223372036854775808 := by decide
  rw [e1, e2, wrap_u64, wrap_u64, wrap_u64, Int.fdiv_eq_ediv_of_nonneg _ (by decide)]
  by_cases hn : n < 0
  · have a1 : n / 9223372036854775808 % 18446744073709551616 = 18446744073709551615 := by omega
    have a2 : n % 18446744073709551616 * 2 % 18446744073709551616 = ((18446744073709551616 + 2 * n).toNat : Int) := by omega
    rw [a1, a2, xor_ones (by omega)]
    unfold zig
    rw [if_pos hn]
    omega
  · have a1 : n / 9223372036854775808 % 18446744073709551616 = 0 := by omega
    have a2 : n % 18446744073709551616 * 2 % 18446744073709551616 = ((2 * n).toNat : Int) := by omega
    rw [a1, a2, xor_zero (by omega)]
    unfold zig
    rw [if_neg hn]

/-- The groups of seven bits of a number. -/
def grp (u : Nat) : List UInt8 := if u < 128 then [UInt8.ofNat u] else UInt8.ofNat (u % 128 + 128) :: grp (u / 128)
termination_by u
decreasing_by omega

theorem grp_len : ∀ (k u : Nat), u < 128 ^ (k + 1) → (grp u).length ≤ k + 1
  | 0, u, h => by rw [grp, if_pos (by omega)]; simp
  | k + 1, u, h => by
    rw [grp]
    split
    · simp
    · have := grp_len k (u / 128) (by rw [Nat.pow_succ] at h; omega)
      simp; omega

/-- Bytes, numbers as values. -/
def byV (b : List UInt8) : List V := b.map fun x => V.int .u8 (x.toNat : Int)
@[simp] theorem byV_nil : byV [] = [] := rfl
theorem byV_cons (x : UInt8) (b : List UInt8) : byV (x :: b) = V.int .u8 (x.toNat : Int) :: byV b := rfl
theorem byV_append (a b : List UInt8) : byV (a ++ b) = byV a ++ byV b := by simp [byV]
@[simp] theorem byV_app (a b : List UInt8) : byV a ++ byV b = byV (a ++ b) := by simp [byV]
@[simp] theorem byV_length (b : List UInt8) : (byV b).length = b.length := by simp [byV]
@[simp] theorem byV_take_all (b : List UInt8) : List.take b.length (byV b) = byV b := List.take_of_length_le (by simp)
@[simp] theorem byV_take_le {b : List UInt8} {n : Nat} (h : b.length ≤ n) : List.take n (byV b) = byV b := List.take_of_length_le (by simpa using h)
theorem byV_take (b : List UInt8) (n : Nat) : List.take n (byV b) = byV (b.take n) := by simp [byV]
theorem byV_drop (b : List UInt8) (n : Nat) : List.drop n (byV b) = byV (b.drop n) := by simp [byV]
theorem byV_bare {b : List UInt8} {x : V} (h : x ∈ byV b) : x.bare = true := by
  simp only [byV, List.mem_map] at h
  obtain ⟨y, _, rfl⟩ := h
  rfl
def bytesOf : List V → Option (List UInt8)
  | [] => some []
  | .int .u8 n :: xs => if 0 ≤ n ∧ n < 256 then (bytesOf xs).map (UInt8.ofNat n.toNat :: ·) else none
  | _ => none
@[simp] theorem bytesOf_byV : ∀ b : List UInt8, bytesOf (byV b) = some b
  | [] => rfl
  | x :: b => by
    have h := x.toNat_lt
    have e : UInt8.ofNat x.toNat = x := by simp
    simp only [byV_cons, bytesOf, bytesOf_byV b, Option.map_some, Int.toNat_natCast, e]
    rw [if_pos (by omega)]
theorem bytesOf_some : ∀ {a : List V} {b : List UInt8}, bytesOf a = some b → a = byV b
  | [], b, h => by simp [bytesOf] at h; subst h; rfl
  | x :: xs, b, h => by
    unfold bytesOf at h
    split at h
    · simp at h; subst h; rename_i e; cases e
    · rename_i n ys e
      cases e
      split at h
      · rename_i hn
        simp only [Option.map_eq_some_iff] at h
        obtain ⟨c, hc, rfl⟩ := h
        rw [byV_cons, bytesOf_some hc]
        have e1 : (UInt8.ofNat n.toNat).toNat = n.toNat := by
          rw [UInt8.toNat_ofNat']
          omega
        rw [e1, Int.toNat_of_nonneg hn.1]
      · cases h
    · cases h

def I64 (n : Int) : Prop := -9223372036854775808 ≤ n ∧ n < 9223372036854775808
instance (n : Int) : Decidable (I64 n) := by unfold I64; exact inferInstance
def intV (l : List Int) : List V := l.map (V.int .i64)
@[simp] theorem intV_nil : intV [] = [] := rfl
theorem intV_cons (x : Int) (b : List Int) : intV (x :: b) = V.int .i64 x :: intV b := rfl
theorem intV_append (a b : List Int) : intV (a ++ b) = intV a ++ intV b := by simp [intV]
@[simp] theorem intV_app (a b : List Int) : intV a ++ intV b = intV (a ++ b) := by simp [intV]
@[simp] theorem intV_length (b : List Int) : (intV b).length = b.length := by simp [intV]
@[simp] theorem intV_take_all (b : List Int) : List.take b.length (intV b) = intV b := List.take_of_length_le (by simp)
@[simp] theorem intV_take_le {b : List Int} {n : Nat} (h : b.length ≤ n) : List.take n (intV b) = intV b := List.take_of_length_le (by simpa using h)
theorem intV_take (b : List Int) (n : Nat) : List.take n (intV b) = intV (b.take n) := by simp [intV]
theorem intV_drop (b : List Int) (n : Nat) : List.drop n (intV b) = intV (b.drop n) := by simp [intV]
theorem intV_bare {b : List Int} {x : V} (h : x ∈ intV b) : x.bare = true := by
  simp only [intV, List.mem_map] at h
  obtain ⟨y, _, rfl⟩ := h
  rfl
def intsOf : List V → Option (List Int)
  | [] => some []
  | .int .i64 n :: xs => if I64 n then (intsOf xs).map (n :: ·) else none
  | _ => none
theorem intsOf_intV : ∀ {b : List Int}, (∀ x ∈ b, I64 x) → intsOf (intV b) = some b
  | [], _ => rfl
  | x :: b, h => by
    simp only [intV_cons, intsOf, intsOf_intV fun y hy => h y (List.mem_cons_of_mem _ hy), Option.map_some]
    rw [if_pos (h x (by simp))]
theorem intsOf_some : ∀ {a : List V} {b : List Int}, intsOf a = some b → a = intV b ∧ ∀ x ∈ b, I64 x
  | [], b, h => by simp [intsOf] at h; subst h; exact ⟨rfl, by simp⟩
  | x :: xs, b, h => by
    unfold intsOf at h
    split at h
    · rename_i e; cases e
    · rename_i n ys e
      cases e
      split at h
      · rename_i hn
        simp only [Option.map_eq_some_iff] at h
        obtain ⟨c, hc, rfl⟩ := h
        obtain ⟨h1, h2⟩ := intsOf_some hc
        exact ⟨by rw [intV_cons, h1], fun y hy => (List.mem_cons.1 hy).elim (fun e => e ▸ hn) (h2 y)⟩
      · cases h
    · cases h

/-- A table of contracts. -/
def tab (l : List (Nat × Spec)) (f : Nat) : Option Spec :=
  match l with
  | [] => none
  | (g, s) :: r => if f = g then some s else tab r f
theorem tab_ok {P : Program} : ∀ {l : List (Nat × Spec)}, (∀ p ∈ l, Sound P p.1 p.2) → ∀ f s, tab l f = some s → Sound P f s
  | [], _, f, s, h => by simp [tab] at h
  | (g, t) :: r, hl, f, s, h => by
    simp only [tab] at h
    split at h
    · rename_i e
      cases h; subst e
      exact hl (f, t) (by simp)
    · exact tab_ok (fun p hp => hl p (List.mem_cons_of_mem _ hp)) f s h

/-- A row that grows: nil, or an own row. -/
def Acc (S : St) (t r sz : Nat) (els : List V) : Prop := (S.f t = .v .nil ∧ els = []) ∨ (S.f t = .own r (S.m r).gen 0 els.length ∧ (S.m r).reg = some ⟨.row sz els, false⟩)

end Go.Proofs.YtdhdhcllgkddnaaGreat.Va
