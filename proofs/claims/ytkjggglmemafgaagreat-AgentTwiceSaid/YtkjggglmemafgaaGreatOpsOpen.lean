import Derived.Test.YtkjggglmemafgaaGreatLawOps
import Derived.Test.YtkjggglmemafgaaGreatChecked
import Derived.WalkKit
import Derived.ProofKit
import Derived.OpenShut
import Derived.ShutString
import Derived.ChangeOld
import Derived.Below
import Derived.Lib.SmallJoins
import Derived.Deep.Slices
namespace Go.Proofs.YtkjggglmemafgaaGreat
open Go Go.ChangeShapes Go.WideShapes Go.ChangeAt Go.RowKit Go.Joins Go.Deep
set_option linter.unusedVariables false
set_option linter.unusedSimpArgs false
set_option maxRecDepth 20000

theorem cellsOpT : Tryz.prog.cellsOf 35 = 4 := by kernel_rfl
theorem one_op {H : Type} {enc : TypeId × Value → H} {w : World} {base : Nat} {spare : Nat → Bool} {held : Bool} {n : Nat} {cs : List Value} {x : DataW H × List MemPlace} (h : DataW.trod enc Tryz.prog w base spare held n 35 cs = some x) : ∃ o : OpM, cs = o.cs := by
  obtain ⟨y0, y1, y2, y3, m, -, hl, h0, h1, h2, h3⟩ := trod_struct4 Tryz.underlying35 h
  rw [cellsOpT] at hl
  match cs, hl with
  | [c0, c1, c2, c3], _ =>
    have k1 : Tryz.prog.cellsOf 3 = 1 := by kernel_rfl
    have k2 : Tryz.prog.cellsOf 9 = 1 := by kernel_rfl
    simp only [k1, k2] at h0 h1 h2 h3
    obtain ⟨a0, e0, -, -⟩ := DataW.trod_int Tryz.underlying3 h0
    obtain ⟨a1, e1, -, -⟩ := DataW.trod_int Tryz.underlying3 h1
    obtain ⟨a2, e2, -, -⟩ := DataW.trod_int Tryz.underlying3 h2
    obtain ⟨a3, e3, -⟩ := DataW.trod_string Tryz.underlying9 h3
    simp at e0 e1 e2 e3
    subst e0 e1 e2 e3
    exact ⟨⟨a0, a1, a2, a3⟩, rfl⟩
instance : Inhabited OpM := ⟨⟨0, 0, 0, ByteArray.empty⟩⟩
theorem ops_open {H : Type} {enc : TypeId × Value → H} {W : World} {v : Value} {d : DataW H} {p : List MemPlace} {a0 : Option Addr} {len cap : Nat} (hv : v = .slice a0 len cap) (h : DataW.Trod enc Tryz.prog W 0 (fun _ => true) true 22 v d p) :
    ∃ l : List OpM, OpsR (fun k => k < W.heap.size) W v l ∧ (l.length : Int) ≤ 9223372036854775807 := by
  subst hv
  obtain ⟨fuel, hf⟩ := h
  rcases open_slice Tryz.underlying22 hf with ⟨hcs, -⟩ | ⟨a, len', cap', m, n, D, Pl, hcs, -, hl, hm, hmm, -, hx⟩
  · simp [Value.cells] at hcs
    obtain ⟨rfl, rfl, rfl⟩ := hcs
    exact ⟨[], Rs.nil _ _, by decide⟩
  · simp [Value.cells] at hcs
    obtain ⟨rfl, rfl, rfl⟩ := hcs
    have hmc : m = cap := by simpa using hmm
    obtain ⟨O, hO⟩ := choose_lt (α := OpM) (n := len) (p := fun i o => ∀ j, j < 4 → W.cell? (a.add (i * 4 + j)) = o.cs[j]?) (fun i hi => by
      obtain ⟨cs', h1, h2⟩ := hx i (by omega)
      obtain ⟨o, rfl⟩ := one_op h2
      obtain ⟨-, -, h3⟩ := World.cells?_some h1
      rw [cellsOpT] at h3
      refine ⟨o, fun j hj => ?_⟩
      have := h3 j hj
      rw [← this, Addr.add_add])
    have hlen : ((List.range len).map O).length = len := by simp
    have hL : ∀ (k : Nat), k < len → ((List.range len).map O)[k]? = some (O k) := fun k hk => by simp [hk]
    refine ⟨(List.range len).map O, ⟨⟨some a, cap, by rw [hlen], by rw [hlen]; exact hl, fun h => by cases h⟩, fun hp => ?_, fun {g off l' c'} hv j u hj => ?_⟩, ?_⟩
    · have h0 : 0 < len := by
        rcases Nat.eq_zero_or_pos len with e | e
        · subst e; simp at hp
        · exact e
      have hc : W.cell? (a.add 0) = some (.int .i64 (O 0).kind) := by have := hO 0 h0 0 (by omega); simpa [OpM.cs] using this
      obtain ⟨b, off, spot⟩ := a
      have hs : spot = none := by
        simpa [Addr.add] using World.cell?_spot hc
      subst hs
      refine ⟨b, off, cap, by rw [hlen], ?_, by rw [hlen]; exact hl⟩
      have := World.block_lt_of_cell? _ _ hc
      simpa [Addr.add] using this
    · cases hv
      have hj4 : j < 4 * len := by
        have := (List.getElem?_eq_some_iff.1 hj).1
        have e : (((List.range len).map O).flatMap OpM.cs).length = 4 * ((List.range len).map O).length := by
          generalize (List.range len).map O = L
          induction L with
          | nil => rfl
          | cons a L ih => rw [List.flatMap_cons, List.length_append, ih]; simp [OpM.cs]; omega
        rw [e, hlen] at this; exact this
      have hk : j / 4 < len := by omega
      have e := flatMap_get (n := 4) (f := OpM.cs) (fun _ => rfl) ((List.range len).map O) (j / 4) (O (j / 4)) (j % 4) (hL _ hk) (by omega)
      have ej : j / 4 * 4 + j % 4 = j := by omega
      rw [ej] at e
      rw [e] at hj
      have := hO (j / 4) hk (j % 4) (by omega)
      rw [ej, hj] at this
      simpa [add_lit] using this
    · rw [hlen]; unfold maxLen at hm; omega
end Go.Proofs.YtkjggglmemafgaaGreat
