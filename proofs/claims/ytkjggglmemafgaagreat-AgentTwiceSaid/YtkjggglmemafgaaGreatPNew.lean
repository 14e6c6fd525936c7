import Derived.Test.YtkjggglmemafgaaGreatNew
import Derived.Test.YtkjggglmemafgaaGreatSep
import Derived.Deep.LoopGhost
import Derived.Deep.RegionLaw
import Derived.Laws.MakeOwn
namespace Go.Proofs.YtkjggglmemafgaaGreat
open Go Go.RowKit
set_option linter.unusedVariables false
set_option linter.unusedSimpArgs false
set_option maxRecDepth 20000

def tenC : List Value := [.int .i64 0, .int .i64 0, .string ByteArray.empty, .int .i64 0, .int .i64 0, .string ByteArray.empty, .int .i64 0, .int .i64 0, .string ByteArray.empty, .int .i64 0]
theorem make_bufs (w : World) (n : Int) (h0 : 1 ≤ n) (h1 : n ≤ 16) : (Instr.makeSlice 190 (.int .i64 n) (.int .i64 n)).run Tryz.prog w = .ok (.slice (some ⟨w.heap.size, 0, none⟩) n.toNat n.toNat) (w.alloc (.cells (madeCells tenC.toArray (n.toNat * 10)) 197)) := by
  obtain ⟨i, hi⟩ : ∃ i, Tryz.prog.info? 197 = some i := by
    have : (Tryz.prog.info? 197).isSome = true := by kernel_rfl
    exact Option.isSome_iff_exists.1 this
  have hs : i.size = 10 := by
    have : (Tryz.prog.info? 197).map (·.size) = some 10 := by kernel_rfl
    rw [hi] at this; simpa using this
  have hb : i.bytes = 104 := by
    have : (Tryz.prog.info? 197).map (·.bytes) = some 104 := by kernel_rfl
    rw [hi] at this; simpa using this
  have hz : i.zero = some (.agg tenC.toArray) := by
    have : (Tryz.prog.info? 197).map (·.zero) = some (some (.agg tenC.toArray)) := by kernel_rfl
    rw [hi] at this; simpa using this
  have := run_makeSlice w (P := Tryz.prog) 190 197 i (.agg tenC.toArray) (by kernel_rfl) hi hz .i64 .i64 n n (by omega) (Int.le_refl _) (by rw [hs]; omega) (by rw [hb]; omega) (by omega)
  rw [hs] at this
  exact this
def PNewS (w : World) (n : Int) (fv : Value) (k : Nat) (wr : World) : Prop :=
  St w [slA 3 1 fv k ((List.range k).map fun (i : Nat) => Value.int .i64 i), blkA (w.heap.size + 1 + 1) 192 [.slice (some ⟨w.heap.size, 0, none⟩) n.toNat n.toNat, fv, .map (some (w.heap.size + 1))],
    blkA w.heap.size 197 (madeCells tenC.toArray (n.toNat * 10)).toList, mapA (w.heap.size + 1) [], oldA w] wr
theorem pool_new_main (w : World) (n : Int) (h1 : 1 ≤ n) (h2 : n ≤ 16) : Calls Tryz.prog 84 #[.int .i64 n] w fun e w' => e = .returned (.tuple #[.pointer (some ⟨w.heap.size + 1 + 1, 0, none⟩), .int .i64 0]) ∧ ∃ fv, PNewS w n fv n.toNat w' := by
  have hm := make_bufs w n h1 h2
  have HS : PNewS w n (.slice none 0 0) 0 (((w.alloc (.cells (madeCells tenC.toArray (n.toNat * 10)) 197)).alloc (.map #[] 0)).alloc (.cells #[.slice (some ⟨w.heap.size, 0, none⟩) n.toNat n.toNat, .slice none 0 0, .map (some (w.heap.size + 1))] 192)) := by
    have a1 : St w [blkA (w.heap.size + 1 + 1) 192 [.slice (some ⟨w.heap.size, 0, none⟩) n.toNat n.toNat, .slice none 0 0, .map (some (w.heap.size + 1))], mapA (w.heap.size + 1) [], blkA w.heap.size 197 (madeCells tenC.toArray (n.toNat * 10)).toList, oldA w] _ := ((St.start w).alloc (madeCells tenC.toArray (n.toNat * 10)).toList 197).allocMap.alloc [.slice (some ⟨w.heap.size, 0, none⟩) n.toNat n.toNat, .slice none 0 0, .map (some (w.heap.size + 1))] 192
    exact (((a1.slNil 3 1).at 3).at 2).at 2
  go_enter Tryz.func84, Tryz.ntmps84
  go_wp2
  go_loopw [5, 18] (fun _ i wr => ∃ k : Nat, k ≤ n.toNat ∧ i = .int .i64 k ∧ ∃ fv, PNewS w n fv k wr) (fun _ i _ => n.toNat - (intOf i).toNat)
  case atStart => exact ⟨0, Nat.zero_le _, rfl, _, HS⟩
  case round =>
    obtain ⟨k, hk, rfl, fv, hS⟩ := hrel
    have hk0 : (0 : Int) ≤ (k : Int) := by omega
    by_cases hlt : k < n.toNat
    · have hlt' : (k : Int) < n := by omega
      obtain ⟨fa, fc, rfl⟩ := hS.sl.lit
      have c1 := (hS.at 1).blk.get (i := 1) rfl
      have z1 := (hS.at 1).blk.frozen 1
      go_wp2_with (at_builtin; refine wpList_append_sl _ rfl _ _ _ rfl el_int (v := .slice fa k fc) rfl (hS.skip _).sl rfl (by exact rd_one _ _ _ (by simp)) (by rfl) (by simp [Value.oneCell']) (by omega) (by omega) ?_; intro v' w6 hs6 hg6 hb6 hn6; obtain ⟨v6a, v6c, rfl⟩ := hs6.lit; clear hn6; have s6 := (hS.skip _).append hs6 hg6 hb6; have q4 := (s6.at 1).blk.get (i := 1) rfl; have q4f := (s6.at 1).blk.frozen 1)
      go_roundw
      case rel => 
        refine ⟨k + 1, by omega, by go_num, .slice v6a (k + 1) v6c, ?_⟩
        have := (s6.at 1).set 1 (.slice v6a (k + 1) v6c)
        have h3 := this.at 1
        unfold PNewS
        rw [List.range_succ, List.map_append]
        exact h3
      case measure => simp [intOf]; omega
    · obtain rfl : k = n.toNat := by omega
      have hlt' : ¬ (n.toNat : Int) < n := by omega
      go_wp2
      go_ret2
      exact ⟨rfl, _, hS⟩

theorem made_nine (n i : Nat) (h : i < n) : (madeCells tenC.toArray (n * 10)).toList[i * 10 + 9]? = some (.int .i64 0) := by
  have h1 : i * 10 + 9 < n * 10 := by omega
  have h2 : (i * 10 + 9) % 10 = 9 := by omega
  simp [madeCells, h1, tenC, h2]
def poolA (p : Nat) (P : PoolS) : Asn := ⟨fun F w => PoolA F w p P, fun h => h.bd, fun h hf hs => h.fr hf hs⟩
theorem pnew_pool {w wr : World} {n : Int} {fv : Value} (h1 : 1 ≤ n) (h2 : n ≤ 16) (h : PNewS w n fv n.toNat wr) : St w [poolA (w.heap.size + 1 + 1) ⟨n.toNat, []⟩, oldA w] wr := by
  have h' : St w ([slA 3 1 fv n.toNat ((List.range n.toNat).map fun (i : Nat) => Value.int .i64 i), blkA (w.heap.size + 1 + 1) 192 [.slice (some ⟨w.heap.size, 0, none⟩) n.toNat n.toNat, fv, .map (some (w.heap.size + 1))],
    blkA w.heap.size 197 (madeCells tenC.toArray (n.toNat * 10)).toList, mapA (w.heap.size + 1) []] ++ [oldA w]) wr := h
  refine (h'.fold).head fun F hF => ?_
  have bd := Asn.bd _ hF
  obtain ⟨F1, F2, d1, e1, ⟨hS, hSf, b1⟩, F3, F4, d2, e2, ⟨hP, hPf, b2⟩, F5, F6, d3, e3, ⟨hB, hBf, b3⟩, F7, F8, d4, e4, ⟨hM, hMf, b4⟩, -⟩ := hF
  have k1 : ∀ k, F1 k → F k := fun k hk => (e1 k).2 (.inl hk)
  have k3 : ∀ k, F3 k → F k := fun k hk => (e1 k).2 (.inr ((e2 k).2 (.inl hk)))
  have k5 : ∀ k, F5 k → F k := fun k hk => (e1 k).2 (.inr ((e2 k).2 (.inr ((e3 k).2 (.inl hk)))))
  have k7 : ∀ k, F7 k → F k := fun k hk => (e1 k).2 (.inr ((e2 k).2 (.inr ((e3 k).2 (.inr ((e4 k).2 (.inl hk)))))))
  refine ⟨_, _, fv, _, List.replicate n.toNat [], (List.range n.toNat).map Int.ofNat, [], ⟨by simpa using hP, hB, (by simp [madeCells]; omega), fun i l hl => ?_, by simpa [Function.comp_def] using hS, hM, (fun x hx => by cases hx), List.Pairwise.nil, k3 _ hPf, k5 _ hBf, k7 _ hMf, fun g hg => k1 g (hSf g hg), bd⟩,
    ⟨by simp, (by simp; omega), by simp, by simp, (fun x hx => by cases hx), by simp, List.Pairwise.nil, (fun x hx => by cases hx)⟩⟩
  obtain ⟨hi, rfl⟩ := List.getElem?_eq_some_iff.1 hl
  simp only [List.length_replicate] at hi
  refine ⟨by simp, by simpa using made_nine n.toNat i hi, fun j s hj => by simp at hj⟩
def PoolNew (w : World) (n : Int) (e : Ending) (w' : World) : Prop :=
  if 1 ≤ n ∧ n ≤ 16 then e = .returned (.tuple #[.pointer (some ⟨w.heap.size + 1 + 1, 0, none⟩), .int .i64 0]) ∧ St w [poolA (w.heap.size + 1 + 1) ⟨n.toNat, []⟩, oldA w] w'
  else e = .returned (.tuple #[.pointer none, .int .i64 1]) ∧ w' = w
theorem pool_new (w : World) (n : Int) : Calls Tryz.prog 84 #[.int .i64 n] w (PoolNew w n) := by
  have K : Hid (∀ e w', PoolNew w n e w' = if 1 ≤ n ∧ n ≤ 16 then e = .returned (.tuple #[.pointer (some ⟨w.heap.size + 1 + 1, 0, none⟩), .int .i64 0]) ∧ St w [poolA (w.heap.size + 1 + 1) ⟨n.toNat, []⟩, oldA w] w'
    else e = .returned (.tuple #[.pointer none, .int .i64 1]) ∧ w' = w) := fun _ _ => rfl
  by_cases h : 1 ≤ n ∧ n ≤ 16
  · refine (pool_new_main w n h.1 h.2).mono ?_
    rintro e w' ⟨rfl, fv, hS⟩
    rw [K.out, if_pos h]
    exact ⟨rfl, pnew_pool h.1 h.2 hS⟩
  · go_enter Tryz.func84, Tryz.ntmps84
    by_cases h2 : n < 1
    all_goals
      go_wp2
      go_ret2
      rw [K.out, if_neg h]
      exact ⟨rfl, rfl⟩
end Go.Proofs.YtkjggglmemafgaaGreat
