/-
  Contracts of Go's library that the kit has proved, at this program: Sort, Len64.
-/
import Derived.Shelf.Sort.Plain
import Derived.Test.YtdhdhcllgkddnaaGreatProg
import Derived.Shelf.Slices.In.SortNone
import Derived.Test.YtdhdhcllgkddnaaGreatWm
import Derived.Shelf.Small.Bits
namespace Go.Proofs
open Go.Shelf
def Tryz.lays189_ren : Go.Shelf.Ren := ⟨fun | 189 => 77 | 125 => 37 | 257 => 88 | 128 => 68 | 129 => 69 | 294 => 94 | 295 => 95 | 296 => 96 | 297 => 97 | 298 => 98 | 299 => 99 | 216 => 89 | 300 => 100 | 301 => 101 | 328 => 103 | 329 => 83 | 330 => 84 | 331 => 104 | 332 => 105 | 215 => 102 | 343 => 106 | n => n, fun | 28 => 37 | 3 => 3 | 46 => 64 | 0 => 0 | 51 => 86 | 53 => 74 | 4 => 4 | 183 => 80 | 182 => 79 | 131 => 42 | 5 => 5 | 9 => 9 | 218 => 94 | 222 => 98 | 228 => 105 | 229 => 106 | n => n, fun | n => n⟩
theorem Tryz.lays189 : Go.Proofs.Lays.n189 Tryz.prog Tryz.lays189_ren where
  mixed := by kernel_rfl
  f125 := Tryz.func37.trans (congrArg some (by kernel_rfl))
  f128 := Tryz.func68.trans (congrArg some (by kernel_rfl))
  f129 := Tryz.func69.trans (congrArg some (by kernel_rfl))
  f189 := Tryz.func77.trans (congrArg some (by kernel_rfl))
  f215 := Tryz.func102.trans (congrArg some (by kernel_rfl))
  f216 := Tryz.func89.trans (congrArg some (by kernel_rfl))
  f257 := Tryz.func88.trans (congrArg some (by kernel_rfl))
  f294 := Tryz.func94.trans (congrArg some (by kernel_rfl))
  f295 := Tryz.func95.trans (congrArg some (by kernel_rfl))
  f296 := Tryz.func96.trans (congrArg some (by kernel_rfl))
  f297 := Tryz.func97.trans (congrArg some (by kernel_rfl))
  f298 := Tryz.func98.trans (congrArg some (by kernel_rfl))
  f299 := Tryz.func99.trans (congrArg some (by kernel_rfl))
  f300 := Tryz.func100.trans (congrArg some (by kernel_rfl))
  f301 := Tryz.func101.trans (congrArg some (by kernel_rfl))
  f328 := Tryz.func103.trans (congrArg some (by kernel_rfl))
  f329 := Tryz.func83.trans (congrArg some (by kernel_rfl))
  f330 := Tryz.func84.trans (congrArg some (by kernel_rfl))
  f331 := Tryz.func104.trans (congrArg some (by kernel_rfl))
  f332 := Tryz.func105.trans (congrArg some (by kernel_rfl))
  f343 := Tryz.func106.trans (congrArg some (by kernel_rfl))
  t0 := Tryz.underlying0
  a0 := Tryz.isAgg0
  z0 := Tryz.sizeOf0
  v0 := Tryz.zeroValue0
  t3 := Tryz.underlying3
  a3 := Tryz.isAgg3
  z3 := Tryz.sizeOf3
  v3 := Tryz.zeroValue3
  t4 := Tryz.underlying4
  a4 := Tryz.isAgg4
  z4 := Tryz.sizeOf4
  v4 := Tryz.zeroValue4
  t5 := Tryz.underlying5
  a5 := Tryz.isAgg5
  z5 := Tryz.sizeOf5
  v5 := Tryz.zeroValue5
  t9 := Tryz.underlying9
  a9 := Tryz.isAgg9
  z9 := Tryz.sizeOf9
  v9 := Tryz.zeroValue9
  t28 := Tryz.underlying37
  a28 := Tryz.isAgg37
  z28 := Tryz.sizeOf37
  v28 := Tryz.zeroValue37
  t46 := Tryz.underlying64
  a46 := Tryz.isAgg64
  z46 := Tryz.sizeOf64
  v46 := Tryz.zeroValue64
  t51 := Tryz.underlying86
  a51 := Tryz.isAgg86
  z51 := Tryz.sizeOf86
  v51 := Tryz.zeroValue86
  t53 := Tryz.underlying74
  a53 := Tryz.isAgg74
  z53 := Tryz.sizeOf74
  v53 := Tryz.zeroValue74
  t131 := Tryz.underlying42
  a131 := Tryz.isAgg42
  z131 := Tryz.sizeOf42
  v131 := Tryz.zeroValue42
  t182 := Tryz.underlying79
  a182 := Tryz.isAgg79
  z182 := Tryz.sizeOf79
  v182 := Tryz.zeroValue79
  t183 := Tryz.underlying80
  a183 := Tryz.isAgg80
  z183 := Tryz.sizeOf80
  v183 := Tryz.zeroValue80
  t218 := Tryz.underlying94
  a218 := Tryz.isAgg94
  z218 := Tryz.sizeOf94
  v218 := Tryz.zeroValue94
  t222 := Tryz.underlying98
  a222 := Tryz.isAgg98
  z222 := Tryz.sizeOf98
  v222 := Tryz.zeroValue98
  t228 := Tryz.underlying105
  a228 := Tryz.isAgg105
  z228 := Tryz.sizeOf105
  v228 := Tryz.zeroValue105
  t229 := Tryz.underlying106
  a229 := Tryz.isAgg106
  z229 := Tryz.sizeOf106
  v229 := Tryz.zeroValue106
open Go.Sort Go.RowKit in
theorem Tryz.slices_Sort_int (blk off cap : Nat) (zs : List Int) (w : World) (hH : Holds (Value.int .i64) w blk off zs.toArray) (hblk : blk < w.heap.size) (hsz : zs.length < 4611686018427387904) :
    Calls Tryz.prog 77 #[.slice (some ⟨blk, off, none⟩) zs.length cap] w fun e w' =>
      e = .returned (.tuple #[]) ∧ ∃ n os, w' = grow (putRow (Value.int .i64) (Sort.ahead w n) blk off (zs.mergeSort fun x y => decide (x ≤ y)).toArray) os := Any.slices_Sort_int Tryz.lays189 blk off cap zs w hH hblk hsz
end Go.Proofs

namespace Go.Proofs.YtdhdhcllgkddnaaGreat.Va
open Go Go.RowKit Go.Sort

theorem heap_mapBlock (w : World) (b : Nat) (f : Array Value → Array Value) (k : Nat) : (mapBlock w b f).heap[k]? = if b = k then (w.heap[k]?).map (onCells f) else w.heap[k]? := by
  simp only [mapBlock, Array.getElem?_modify]

theorem ios1_inv {w : World} {F : Nat → Prop} {els : List V} {vals : List Value} {M T : List Nat} (h : ArgsOk w F [.ios] [.sl 1 els] vals M T) :
    ∃ v κ g, vals = [v] ∧ OwnRow w F 1 els v κ g ∧ M = (if κ = 0 then [] else [g]) ∧ T = [] := by
  cases h with
  | ios h hs => cases hs; exact ⟨_, _, _, rfl, h, rfl, rfl⟩

noncomputable def slices_Sort_sint_int (xs : List V) : Ans :=
  match xs with
  | [.sl 1 x] => (intsOf x).bind fun l => if l.length < 1000000000 then some ([], [.sl 1 (intV (sortL l))]) else none
  | _ => none
def slices_Sort_sint_int_c (g : List V → Ans) : Con := ⟨⟨[.ios], [], true, g⟩, [], [[]], none⟩

theorem slices_Sort_sint_int_eq {l : List Int} (hI : ∀ x ∈ l, I64 x) (hl : l.length < 1000000000) : slices_Sort_sint_int [.sl 1 (intV l)] = some ([], [.sl 1 (intV (sortL l))]) := by
  simp [slices_Sort_sint_int, intsOf_intV hI, hl]

theorem slices_Sort_sint_int_ok : Sound Tryz.prog 77 (slices_Sort_sint_int_c slices_Sort_sint_int).spec := by
  refine ⟨by kernel_rfl, fun xs rs zs hfn w F vals M T hF hM hn ha => ?_⟩
  simp only [slices_Sort_sint_int_c] at hfn ha ⊢
  unfold slices_Sort_sint_int at hfn
  split at hfn
  · rename_i x
    simp only [Option.bind_eq_some_iff] at hfn
    obtain ⟨l, hl, hfn⟩ := hfn
    obtain ⟨rfl, hI⟩ := intsOf_some hl
    split at hfn
    · rename_i hlt
      cases hfn
      obtain ⟨v, κ, g, rfl, h, rfl, rfl⟩ := ios1_inv ha
      clear ha
      · skip
        have hlen : (intV (sortL l)).length = (intV l).length := by simp [sortL_length]
        rcases h.place with ⟨hk, ad, hv⟩ | ⟨hk, hv, hgF, cur, ty, hw, hcs, hat⟩
        · have h0 : l = [] := by have := h.le; rw [hk] at this; simpa using this
          subst h0
          subst hv
          subst hk
          refine (Any.slices_Sort_int_none Tryz.lays189 ad 0 w).mono fun e w' he => ?_
          obtain ⟨rfl, rfl⟩ := he
          have hO : ∀ F2 : Nat → Prop, OwnRow w' F2 1 (intV (sortL [])) (.slice ad 0 0) 0 g := fun F2 => ⟨by simp [sortL], by unfold maxLen; omega, by simp [sortL], .inl ⟨rfl, ad, rfl⟩⟩
          exact ⟨[], F, rfl, rfl, rfl, rfl, Nat.le_refl _, fun _ _ _ => rfl, fun _ hb => hb, fun _ hb _ _ => hb, hF, .ios hlen (hO F) .nil, .nil, fun _ F2 _ _ => ⟨.ios hlen (hO F2) .nil, .nil⟩⟩
        · subst hv
          rw [if_neg hk] at hM hn ⊢
          have hle := h.le
          simp only [intV_length] at hle
          have hgw : g < w.heap.size := (hM g (by simp)).2
          have hat' : ∀ j (hj : j < l.length), cur[j]? = some (.int .i64 l[j]) := fun j hj => by
            obtain ⟨u, u1, u2, u3⟩ := hat j 0 (.int .i64 l[j]) (.int .i64 l[j]) (by simp [intV, hj]) rfl
            rw [u3.int_inv] at u1
            simpa using u1
          have hH : Holds (Value.int .i64) w g 0 l.toArray := fun j hj => by
            have hj' : j < l.length := by simpa using hj
            refine ⟨?_, ?_⟩
            · rw [Nat.zero_add, cell_of_row w g j cur ty (0, 0) hw, hat' j hj']
              simp [hj']
            · simp [World.frozen?, hw]
          have hcall := Tryz.slices_Sort_int g 0 κ l w hH hgw (by omega)
          have elen : (intV l).length = l.length := intV_length l
          rw [elen]
          refine Calls.mono hcall fun e w' he => ?_
          · obtain ⟨rfl, k, os, rfl⟩ := he
            have hheap : ∀ b, b < w.heap.size → (grow (putRow (Value.int .i64) (Go.Sort.ahead w k) g 0 (sortL l).toArray) os).heap[b]? = if g = b then (w.heap[b]?).map (onCells (Go.Sort.putCells (Value.int .i64) 0 (sortL l).toArray)) else w.heap[b]? := fun b hb => by
              rw [heap_grow_old _ _ (by simpa using hb)]
              exact heap_mapBlock _ _ _ _
            have hnew : (grow (putRow (Value.int .i64) (Go.Sort.ahead w k) g 0 (sortL l).toArray) os).heap[g]? = some (.cells (Go.Sort.putCells (Value.int .i64) 0 (sortL l).toArray cur) ty (0, 0)) := by
              rw [hheap g hgw, if_pos rfl, hw]; rfl
            have hO : ∀ F2 : Nat → Prop, (∀ b, F2 b → F b) → OwnRow (grow (putRow (Value.int .i64) (Go.Sort.ahead w k) g 0 (sortL l).toArray) os) F2 1 (intV (sortL l)) (.slice (some ⟨g, 0, none⟩) l.length κ) κ g := fun F2 h2 =>
              ⟨by rw [hlen]; exact h.le, h.max, fun x hx => by
                simp only [intV, List.mem_map] at hx
                obtain ⟨y, _, rfl⟩ := hx; rfl, .inr ⟨hk, by rw [hlen, elen], fun hf => hgF (h2 g hf), _, ty, hnew, by simpa [Go.Sort.putCells] using hcs, fun i c x y hx hy => by
                  simp only [intV, List.getElem?_map, Option.map_eq_some_iff] at hx
                  obtain ⟨z, hz, rfl⟩ := hx
                  have hi := (List.getElem?_eq_some_iff.1 hz).1
                  cases c with
                  | succ c => simp at hy
                  | zero =>
                    simp only [cells_int, List.getElem?_cons_zero, Option.some.injEq] at hy
                    subst hy
                    have hi2 : i < l.length := by rw [sortL_length] at hi; exact hi
                    refine ⟨.int .i64 z, ?_, rfl, .int _ _⟩
                    simp only [Nat.mul_one, Nat.add_zero, Go.Sort.putCells, Array.getElem?_mapIdx, hat' i hi2, Option.map_some]
                    rw [if_pos ⟨Nat.zero_le _, by simpa using hi⟩]
                    have := List.getElem?_eq_some_iff.1 hz
                    obtain ⟨h5, h6⟩ := this
                    simp [h5, h6]⟩⟩
            refine ⟨[], F, rfl, rfl, rfl, rfl, by simp, fun b hb hbM => ?_, fun _ hb => hb, fun _ hb _ _ => hb, fun b hb => by simp; have := hF b hb; omega, .ios hlen (hO F fun _ hb => hb) .nil, .nil, fun _ F2 _ h2 => ⟨.ios hlen (hO F2 h2) .nil, .nil⟩⟩
            refine (hheap b hb).trans (if_neg ?_)
            intro e
            subst e
            exact hbM (by simp)
    · cases hfn
  · cases hfn

end Go.Proofs.YtdhdhcllgkddnaaGreat.Va

namespace Go.Proofs
open Go.Shelf
def Tryz.lays129_ren : Go.Shelf.Ren := ⟨fun | 129 => 69 | n => n, fun | 53 => 74 | 3 => 3 | 4 => 4 | 46 => 64 | 5 => 5 | 9 => 9 | n => n, fun | n => n⟩
theorem Tryz.lays129 : Go.Proofs.Lays.n129 Tryz.prog Tryz.lays129_ren where
  mixed := by kernel_rfl
  f129 := Tryz.func69.trans (congrArg some (by kernel_rfl))
  t3 := Tryz.underlying3
  a3 := Tryz.isAgg3
  z3 := Tryz.sizeOf3
  v3 := Tryz.zeroValue3
  t4 := Tryz.underlying4
  a4 := Tryz.isAgg4
  z4 := Tryz.sizeOf4
  v4 := Tryz.zeroValue4
  t5 := Tryz.underlying5
  a5 := Tryz.isAgg5
  z5 := Tryz.sizeOf5
  v5 := Tryz.zeroValue5
  t9 := Tryz.underlying9
  a9 := Tryz.isAgg9
  z9 := Tryz.sizeOf9
  v9 := Tryz.zeroValue9
  t46 := Tryz.underlying64
  a46 := Tryz.isAgg64
  z46 := Tryz.sizeOf64
  v46 := Tryz.zeroValue64
  t53 := Tryz.underlying74
  a53 := Tryz.isAgg74
  z53 := Tryz.sizeOf74
  v53 := Tryz.zeroValue74
theorem Tryz.bits_Len64 (x : Int) (w : World) (h0 : 0 ≤ x) (h1 : x ≤ 18446744073709551615) :
    Calls Tryz.prog 69 #[.int .u64 x] w fun e w' => e = .returned (.int .i64 (Lib.bitLen x.toNat)) ∧ w' = w := Any.bits_Len64 Tryz.lays129 x w h0 h1
namespace YtdhdhcllgkddnaaGreat.Va
open Go Go.RowKit

/-- A function of one value that leads nowhere, whose result leads nowhere. -/
theorem sound_leaf1 {P : Program} {f : FuncId} {fn : List V → Ans} (hc : callOk P f = true) (h : ∀ xs p, fn xs = some p → ∃ x y, xs = [x] ∧ p = ([y], []) ∧ ∀ v w, (∀ F, RV w F x v → RV w F x v) → (∃ F, RV w F x v) → ∃ u, (∀ w' F, RV w' F y u) ∧ Calls P f #[v] w fun e w' => e = .returned u ∧ w' = w)
    {sh sh' : List (Option Nat)} : Sound P f ⟨[.rd sh], [.plain sh'], true, fn⟩ := by
  refine ⟨hc, fun xs rs zs hfn w F vals M T hF hM hn ha => ?_⟩
  obtain ⟨x, y, rfl, hp, hcall⟩ := h xs (rs, zs) hfn
  cases hp
  cases ha with
  | rd hv hs =>
    cases hs
    obtain ⟨u, hu, hc⟩ := hcall _ w (fun _ h => h) ⟨F, hv⟩
    refine Calls.mono hc fun e w' he => ?_
    obtain ⟨rfl, rfl⟩ := he
    exact ⟨[u], F, rfl, rfl, rfl, rfl, Nat.le_refl _, fun _ _ _ => rfl, fun _ hb => hb, fun _ hb _ _ => hb, hF, .rd .nil, .plain (hu _ _) .nil, fun _ F2 _ _ => ⟨.rd .nil, .plain (hu _ _) .nil⟩⟩

noncomputable def bits_Len64 (xs : List V) : Ans :=
  match xs with
  | [.int .u64 x] => if 0 ≤ x ∧ x ≤ 18446744073709551615 then some ([.int .i64 (Lib.bitLen x.toNat)], []) else none
  | _ => none
def bits_Len64_c (g : List V → Ans) : Con := ⟨⟨[.rd [none]], [.plain [none]], true, g⟩, [[.int .i64]], [], none⟩
theorem bits_Len64_ok : Sound Tryz.prog 69 (bits_Len64_c bits_Len64).spec := by
  refine sound_leaf1 (by kernel_rfl) fun xs p h => ?_
  unfold bits_Len64 at h
  split at h
  · rename_i x
    split at h
    · rename_i hx
      cases h
      refine ⟨_, _, rfl, rfl, fun v w _ hv => ?_⟩
      obtain ⟨F, hv⟩ := hv
      rw [hv.int_inv]
      exact ⟨_, fun _ _ => .int _ _, Tryz.bits_Len64 x w hx.1 hx.2⟩
    · cases h
  · cases h
theorem bitLen_wid : ∀ (f x : Nat), x < 2 ^ f → Lib.bitLenAux f x = wid x
  | 0, x, h => by
    have : x = 0 := by simpa using h
    subst this
    rw [wid]; rfl
  | f + 1, x, h => by
    rw [wid]
    unfold Lib.bitLenAux
    by_cases h0 : x = 0
    · rw [if_pos h0, if_pos h0]
    · rw [if_neg h0, if_neg h0, bitLen_wid f (x / 2) (by rw [Nat.pow_succ] at h; omega)]
      omega
theorem bits_Len64_eq' {u : Nat} (h : u < 18446744073709551616) : bits_Len64 [.int .u64 u] = some ([.int .i64 (wid u)], []) := by
  have h1 : (u : Int) ≤ 18446744073709551615 := by omega
  have h2 : Lib.bitLen u = wid u := bitLen_wid 64 u h
  simp [bits_Len64, h1, h2]
end YtdhdhcllgkddnaaGreat.Va
end Go.Proofs
