/-
  Contracts of Go's library that the kit has proved, at this program: Sort, Len64.
-/
import Derived.Shelf.Sort.Plain
import Derived.Test.YtdhdhcllgkddnaaProg
import Derived.Shelf.Slices.In.SortNone
import Derived.Test.YtdhdhcllgkddnaaWm
import Derived.Shelf.Small.Bits
namespace Go.Proofs
open Go.Shelf
def Try.lays189_ren : Go.Shelf.Ren := ⟨fun | 189 => 49 | 125 => 58 | 257 => 57 | 128 => 71 | 129 => 53 | 294 => 63 | 295 => 64 | 296 => 65 | 297 => 66 | 298 => 67 | 299 => 68 | 216 => 59 | 300 => 69 | 301 => 70 | 328 => 73 | 329 => 74 | 330 => 75 | 331 => 76 | 332 => 77 | 215 => 72 | 343 => 78 | n => n, fun | 28 => 22 | 3 => 3 | 46 => 43 | 0 => 0 | 51 => 84 | 53 => 30 | 4 => 4 | 183 => 91 | 182 => 90 | 131 => 75 | 5 => 5 | 9 => 9 | 218 => 97 | 222 => 101 | 228 => 103 | 229 => 104 | n => n, fun | n => n⟩
theorem Try.lays189 : Go.Proofs.Lays.n189 Try.prog Try.lays189_ren where
  mixed := by kernel_rfl
  f125 := Try.func58.trans (congrArg some (by kernel_rfl))
  f128 := Try.func71.trans (congrArg some (by kernel_rfl))
  f129 := Try.func53.trans (congrArg some (by kernel_rfl))
  f189 := Try.func49.trans (congrArg some (by kernel_rfl))
  f215 := Try.func72.trans (congrArg some (by kernel_rfl))
  f216 := Try.func59.trans (congrArg some (by kernel_rfl))
  f257 := Try.func57.trans (congrArg some (by kernel_rfl))
  f294 := Try.func63.trans (congrArg some (by kernel_rfl))
  f295 := Try.func64.trans (congrArg some (by kernel_rfl))
  f296 := Try.func65.trans (congrArg some (by kernel_rfl))
  f297 := Try.func66.trans (congrArg some (by kernel_rfl))
  f298 := Try.func67.trans (congrArg some (by kernel_rfl))
  f299 := Try.func68.trans (congrArg some (by kernel_rfl))
  f300 := Try.func69.trans (congrArg some (by kernel_rfl))
  f301 := Try.func70.trans (congrArg some (by kernel_rfl))
  f328 := Try.func73.trans (congrArg some (by kernel_rfl))
  f329 := Try.func74.trans (congrArg some (by kernel_rfl))
  f330 := Try.func75.trans (congrArg some (by kernel_rfl))
  f331 := Try.func76.trans (congrArg some (by kernel_rfl))
  f332 := Try.func77.trans (congrArg some (by kernel_rfl))
  f343 := Try.func78.trans (congrArg some (by kernel_rfl))
  t0 := Try.underlying0
  a0 := Try.isAgg0
  z0 := Try.sizeOf0
  v0 := Try.zeroValue0
  t3 := Try.underlying3
  a3 := Try.isAgg3
  z3 := Try.sizeOf3
  v3 := Try.zeroValue3
  t4 := Try.underlying4
  a4 := Try.isAgg4
  z4 := Try.sizeOf4
  v4 := Try.zeroValue4
  t5 := Try.underlying5
  a5 := Try.isAgg5
  z5 := Try.sizeOf5
  v5 := Try.zeroValue5
  t9 := Try.underlying9
  a9 := Try.isAgg9
  z9 := Try.sizeOf9
  v9 := Try.zeroValue9
  t28 := Try.underlying22
  a28 := Try.isAgg22
  z28 := Try.sizeOf22
  v28 := Try.zeroValue22
  t46 := Try.underlying43
  a46 := Try.isAgg43
  z46 := Try.sizeOf43
  v46 := Try.zeroValue43
  t51 := Try.underlying84
  a51 := Try.isAgg84
  z51 := Try.sizeOf84
  v51 := Try.zeroValue84
  t53 := Try.underlying30
  a53 := Try.isAgg30
  z53 := Try.sizeOf30
  v53 := Try.zeroValue30
  t131 := Try.underlying75
  a131 := Try.isAgg75
  z131 := Try.sizeOf75
  v131 := Try.zeroValue75
  t182 := Try.underlying90
  a182 := Try.isAgg90
  z182 := Try.sizeOf90
  v182 := Try.zeroValue90
  t183 := Try.underlying91
  a183 := Try.isAgg91
  z183 := Try.sizeOf91
  v183 := Try.zeroValue91
  t218 := Try.underlying97
  a218 := Try.isAgg97
  z218 := Try.sizeOf97
  v218 := Try.zeroValue97
  t222 := Try.underlying101
  a222 := Try.isAgg101
  z222 := Try.sizeOf101
  v222 := Try.zeroValue101
  t228 := Try.underlying103
  a228 := Try.isAgg103
  z228 := Try.sizeOf103
  v228 := Try.zeroValue103
  t229 := Try.underlying104
  a229 := Try.isAgg104
  z229 := Try.sizeOf104
  v229 := Try.zeroValue104
open Go.Sort Go.RowKit in
theorem Try.slices_Sort_int (blk off cap : Nat) (zs : List Int) (w : World) (hH : Holds (Value.int .i64) w blk off zs.toArray) (hblk : blk < w.heap.size) (hsz : zs.length < 4611686018427387904) :
    Calls Try.prog 49 #[.slice (some ⟨blk, off, none⟩) zs.length cap] w fun e w' =>
      e = .returned (.tuple #[]) ∧ ∃ n os, w' = grow (putRow (Value.int .i64) (Sort.ahead w n) blk off (zs.mergeSort fun x y => decide (x ≤ y)).toArray) os := Any.slices_Sort_int Try.lays189 blk off cap zs w hH hblk hsz
end Go.Proofs

namespace Go.Proofs.Ytdhdhcllgkddnaa.Va
open Go Go.RowKit Go.Sort

theorem heap_mapBlock (w : World) (b : Nat) (f : Array Value → Array Value) (k : Nat) : (mapBlock w b f).heap[k]? = if b = k then (w.heap[k]?).map (onCells f) else w.heap[k]? := by
  simp only [mapBlock, Array.getElem?_modify]

theorem ios1_inv {w : World} {F : Nat → Prop} {els : List V} {vals : List Value} {M T : List Nat} (h : ArgsOk w F [.ios] [.sl 1 els] vals M T) :
    ∃ v κ g, vals = [v] ∧ OwnRow w F 1 els v κ g ∧ M = (if κ = 0 then [] else [g]) ∧ T = [] := by
  cases h with
  | ios h hs => cases hs; exact ⟨_, _, _, rfl, h, rfl, rfl⟩

noncomputable def slices_Sort_sint_int (xs : List V) : Ans :=
  match xs with
  | [.sl 1 x] => (intsOf x).bind fun l => if l.length < 1000000000 then some ([], [.sl 1 (intV (sortL l))]) else none
  | _ => none
def slices_Sort_sint_int_c (g : List V → Ans) : Con := ⟨⟨[.ios], [], true, g⟩, [], [[]], none⟩

theorem slices_Sort_sint_int_eq {l : List Int} (hI : ∀ x ∈ l, I64 x) (hl : l.length < 1000000000) : slices_Sort_sint_int [.sl 1 (intV l)] = some ([], [.sl 1 (intV (sortL l))]) := by
  simp [slices_Sort_sint_int, intsOf_intV hI, hl]

theorem slices_Sort_sint_int_ok : Sound Try.prog 49 (slices_Sort_sint_int_c slices_Sort_sint_int).spec := by
  refine ⟨by kernel_rfl, fun xs rs zs hfn w F vals M T hF hM hn ha => ?_⟩
  simp only [slices_Sort_sint_int_c] at hfn ha ⊢
  unfold slices_Sort_sint_int at hfn
  split at hfn
  · rename_i x
    simp only [Option.bind_eq_some_iff] at hfn
    obtain ⟨l, hl, hfn⟩ := hfn
    obtain ⟨rfl, hI⟩ := intsOf_some hl
    split at hfn
    · rename_i hlt
      cases hfn
      obtain ⟨v, κ, g, rfl, h, rfl, rfl⟩ := ios1_inv ha
      clear ha
      · skip
        have hlen : (intV (sortL l)).length = (intV l).length := by simp [sortL_length]
        rcases h.place with ⟨hk, ad, hv⟩ | ⟨hk, hv, hgF, cur, ty, hw, hcs, hat⟩
        · have h0 : l = [] := by have := h.le; rw [hk] at this; simpa using this
          subst h0
          subst hv
          subst hk
          refine (Any.slices_Sort_int_none Try.lays189 ad 0 w).mono fun e w' he => ?_
          obtain ⟨rfl, rfl⟩ := he
          have hO : ∀ F2 : Nat → Prop, OwnRow w' F2 1 (intV (sortL [])) (.slice ad 0 0) 0 g := fun F2 => ⟨by simp [sortL], by unfold maxLen; omega, by simp [sortL], .inl ⟨rfl, ad, rfl⟩⟩
          exact ⟨[], F, rfl, rfl, rfl, rfl, Nat.le_refl _, fun _ _ _ => rfl, fun _ hb => hb, fun _ hb _ _ => hb, hF, .ios hlen (hO F) .nil, .nil, fun _ F2 _ _ => ⟨.ios hlen (hO F2) .nil, .nil⟩⟩
        · subst hv
          rw [if_neg hk] at hM hn ⊢
          have hle := h.le
          simp only [intV_length] at hle
          have hgw : g < w.heap.size := (hM g (by simp)).2
          have hat' : ∀ j (hj : j < l.length), cur[j]? = some (.int .i64 l[j]) := fun j hj => by
            obtain ⟨u, u1, u2, u3⟩ := hat j 0 (.int .i64 l[j]) (.int .i64 l[j]) (by simp [intV, hj]) rfl
            rw [u3.int_inv] at u1
            simpa using u1
          have hH : Holds (Value.int .i64) w g 0 l.toArray := fun j hj => by
            have hj' : j < l.length := by simpa using hj
            refine ⟨?_, ?_⟩
            · rw [Nat.zero_add, cell_of_row w g j cur ty (0, 0) hw, hat' j hj']
              simp [hj']
            · simp [World.frozen?, hw]
          have hcall := Try.slices_Sort_int g 0 κ l w hH hgw (by omega)
          have elen : (intV l).length = l.length := intV_length l
          rw [elen]
          refine Calls.mono hcall fun e w' he => ?_
          · obtain ⟨rfl, k, os, rfl⟩ := he
            have hheap : ∀ b, b < w.heap.size → (grow (putRow (Value.int .i64) (Go.Sort.ahead w k) g 0 (sortL l).toArray) os).heap[b]? = if g = b then (w.heap[b]?).map (onCells (Go.Sort.putCells (Value.int .i64) 0 (sortL l).toArray)) else w.heap[b]? := fun b hb => by
              rw [heap_grow_old _ _ (by simpa using hb)]
              exact heap_mapBlock _ _ _ _
            have hnew : (grow (putRow (Value.int .i64) (Go.Sort.ahead w k) g 0 (sortL l).toArray) os).heap[g]? = some (.cells (Go.Sort.putCells (Value.int .i64) 0 (sortL l).toArray cur) ty (0, 0)) := by
              rw [hheap g hgw, if_pos rfl, hw]; rfl
            have hO : ∀ F2 : Nat → Prop, (∀ b, F2 b → F b) → OwnRow (grow (putRow (Value.int .i64) (Go.Sort.ahead w k) g 0 (sortL l).toArray) os) F2 1 (intV (sortL l)) (.slice (some ⟨g, 0, none⟩) l.length κ) κ g := fun F2 h2 =>
              ⟨by rw [hlen]; exact h.le, h.max, fun x hx => by
                simp only [intV, List.mem_map] at hx
                obtain ⟨y, _, rfl⟩ := hx; rfl, .inr ⟨hk, by rw [hlen, elen], fun hf => hgF (h2 g hf), _, ty, hnew, by simpa [Go.Sort.putCells] using hcs, fun i c x y hx hy => by
                  simp only [intV, List.getElem?_map, Option.map_eq_some_iff] at hx
                  obtain ⟨z, hz, rfl⟩ := hx
                  have hi := (List.getElem?_eq_some_iff.1 hz).1
                  cases c with
                  | succ c => simp at hy
                  | zero =>
                    simp only [cells_int, List.getElem?_cons_zero, Option.some.injEq] at hy
                    subst hy
                    have hi2 : i < l.length := by rw [sortL_length] at hi; exact hi
                    refine ⟨.int .i64 z, ?_, rfl, .int _ _⟩
                    simp only [Nat.mul_one, Nat.add_zero, Go.Sort.putCells, Array.getElem?_mapIdx, hat' i hi2, Option.map_some]
                    rw [if_pos ⟨Nat.zero_le _, by simpa using hi⟩]
                    have := List.getElem?_eq_some_iff.1 hz
                    obtain ⟨h5, h6⟩ := this
                    simp [h5, h6]⟩⟩
            refine ⟨[], F, rfl, rfl, rfl, rfl, by simp, fun b hb hbM => ?_, fun _ hb => hb, fun _ hb _ _ => hb, fun b hb => by simp; have := hF b hb; omega, .ios hlen (hO F fun _ hb => hb) .nil, .nil, fun _ F2 _ h2 => ⟨.ios hlen (hO F2 h2) .nil, .nil⟩⟩
            refine (hheap b hb).trans (if_neg ?_)
            intro e
            subst e
            exact hbM (by simp)
    · cases hfn
  · cases hfn

end Go.Proofs.Ytdhdhcllgkddnaa.Va

namespace Go.Proofs
open Go.Shelf
def Try.lays129_ren : Go.Shelf.Ren := ⟨fun | 129 => 53 | n => n, fun | 53 => 30 | 3 => 3 | 4 => 4 | 46 => 43 | 5 => 5 | 9 => 9 | n => n, fun | n => n⟩
theorem Try.lays129 : Go.Proofs.Lays.n129 Try.prog Try.lays129_ren where
  mixed := by kernel_rfl
  f129 := Try.func53.trans (congrArg some (by kernel_rfl))
  t3 := Try.underlying3
  a3 := Try.isAgg3
  z3 := Try.sizeOf3
  v3 := Try.zeroValue3
  t4 := Try.underlying4
  a4 := Try.isAgg4
  z4 := Try.sizeOf4
  v4 := Try.zeroValue4
  t5 := Try.underlying5
  a5 := Try.isAgg5
  z5 := Try.sizeOf5
  v5 := Try.zeroValue5
  t9 := Try.underlying9
  a9 := Try.isAgg9
  z9 := Try.sizeOf9
  v9 := Try.zeroValue9
  t46 := Try.underlying43
  a46 := Try.isAgg43
  z46 := Try.sizeOf43
  v46 := Try.zeroValue43
  t53 := Try.underlying30
  a53 := Try.isAgg30
  z53 := Try.sizeOf30
  v53 := Try.zeroValue30
theorem Try.bits_Len64 (x : Int) (w : World) (h0 : 0 ≤ x) (h1 : x ≤ 18446744073709551615) :
    Calls Try.prog 53 #[.int .u64 x] w fun e w' => e = .returned (.int .i64 (Lib.bitLen x.toNat)) ∧ w' = w := Any.bits_Len64 Try.lays129 x w h0 h1
namespace Ytdhdhcllgkddnaa.Va
open Go Go.RowKit

/-- A function of one value that leads nowhere, whose result leads nowhere. -/
theorem sound_leaf1 {P : Program} {f : FuncId} {fn : List V → Ans} (hc : callOk P f = true) (h : ∀ xs p, fn xs = some p → ∃ x y, xs = [x] ∧ p = ([y], []) ∧ ∀ v w, (∀ F, RV w F x v → RV w F x v) → (∃ F, RV w F x v) → ∃ u, (∀ w' F, RV w' F y u) ∧ Calls P f #[v] w fun e w' => e = .returned u ∧ w' = w)
    {sh sh' : List (Option Nat)} : Sound P f ⟨[.rd sh], [.plain sh'], true, fn⟩ := by
  refine ⟨hc, fun xs rs zs hfn w F vals M T hF hM hn ha => ?_⟩
  obtain ⟨x, y, rfl, hp, hcall⟩ := h xs (rs, zs) hfn
  cases hp
  cases ha with
  | rd hv hs =>
    cases hs
    obtain ⟨u, hu, hc⟩ := hcall _ w (fun _ h => h) ⟨F, hv⟩
    refine Calls.mono hc fun e w' he => ?_
    obtain ⟨rfl, rfl⟩ := he
    exact ⟨[u], F, rfl, rfl, rfl, rfl, Nat.le_refl _, fun _ _ _ => rfl, fun _ hb => hb, fun _ hb _ _ => hb, hF, .rd .nil, .plain (hu _ _) .nil, fun _ F2 _ _ => ⟨.rd .nil, .plain (hu _ _) .nil⟩⟩

noncomputable def bits_Len64 (xs : List V) : Ans :=
  match xs with
  | [.int .u64 x] => if 0 ≤ x ∧ x ≤ 18446744073709551615 then some ([.int .i64 (Lib.bitLen x.toNat)], []) else none
  | _ => none
def bits_Len64_c (g : List V → Ans) : Con := ⟨⟨[.rd [none]], [.plain [none]], true, g⟩, [[.int .i64]], [], none⟩
theorem bits_Len64_ok : Sound Try.prog 53 (bits_Len64_c bits_Len64).spec := by
  refine sound_leaf1 (by kernel_rfl) fun xs p h => ?_
  unfold bits_Len64 at h
  split at h
  · rename_i x
    split at h
    · rename_i hx
      cases h
      refine ⟨_, _, rfl, rfl, fun v w _ hv => ?_⟩
      obtain ⟨F, hv⟩ := hv
      rw [hv.int_inv]
      exact ⟨_, fun _ _ => .int _ _, Try.bits_Len64 x w hx.1 hx.2⟩
    · cases h
  · cases h
theorem bitLen_wid : ∀ (f x : Nat), x < 2 ^ f → Lib.bitLenAux f x = wid x
  | 0, x, h => by
    have : x = 0 := by simpa using h
    subst this
    rw [wid]; rfl
  | f + 1, x, h => by
    rw [wid]
    unfold Lib.bitLenAux
    by_cases h0 : x = 0
    · rw [if_pos h0, if_pos h0]
    · rw [if_neg h0, if_neg h0, bitLen_wid f (x / 2) (by rw [Nat.pow_succ] at h; omega)]
      omega
theorem bits_Len64_eq' {u : Nat} (h : u < 18446744073709551616) : bits_Len64 [.int .u64 u] = some ([.int .i64 (wid u)], []) := by
  have h1 : (u : Int) ≤ 18446744073709551615 := by omega
  have h2 : Lib.bitLen u = wid u := bitLen_wid 64 u h
  simp [bits_Len64, h1, h2]
end Ytdhdhcllgkddnaa.Va
end Go.Proofs
