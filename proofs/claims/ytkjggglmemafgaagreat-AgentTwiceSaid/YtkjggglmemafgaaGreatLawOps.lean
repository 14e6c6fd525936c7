import Derived.Test.YtkjggglmemafgaaGreatLawN
import Derived.Test.YtkjggglmemafgaaGreatMsgP
namespace Go.Proofs.YtkjggglmemafgaaGreat
open Go Go.RowKit
set_option linter.unusedVariables false
set_option linter.unusedSimpArgs false
set_option maxRecDepth 20000

/-! ### the calls that come in -/
def OpsR (F : Nat → Prop) (w : World) (v : Value) (l : List OpM) : Prop := Rs F w v l.length (l.flatMap OpM.cs)
theorem OpsR.at {F : Nat → Prop} {w : World} {v : Value} {l : List OpM} (h : OpsR F w v l) {k : Nat} {o : OpM} (ho : l[k]? = some o) :
    ∃ g off c, v = .slice (some ⟨g, off, none⟩) l.length c ∧ ∀ (i : Nat) (u : Value), (OpM.cs o)[i]? = some u → w.cell? ⟨g, off + (k * 4 + i), none⟩ = some u := by
  obtain ⟨hk, -⟩ := List.getElem?_eq_some_iff.1 ho
  have hlen : (l.flatMap OpM.cs).length = 4 * l.length := by
    clear h ho hk
    induction l with
    | nil => rfl
    | cons a l ih => rw [List.flatMap_cons, List.length_append, ih]; simp [OpM.cs]; omega
  obtain ⟨g, off, c, hv, -, -⟩ := Rs.form h (by rw [hlen]; omega)
  refine ⟨g, off, c, hv, fun i u hu => ?_⟩
  have hi : i < 4 := by have := (List.getElem?_eq_some_iff.1 hu).1; simpa [OpM.cs] using this
  refine Rs.cells h hv _ _ ?_
  rw [flatMap_get (n := 4) (f := OpM.cs) (fun _ => rfl) l k o i ho hi, hu]
def fewS (l : List OpM) : Bool := l.all (fun o => decide (o.s.size ≤ 100)) && decide (l.length ≤ 200)
theorem fewS_no {l : List OpM} {k : Nat} {o : OpM} (ho : l[k]? = some o) (h : ¬ o.s.size ≤ 100) : fewS l = false := by
  have : l.all (fun o => decide (o.s.size ≤ 100)) = false := by
    rw [List.all_eq_false]; exact ⟨o, List.mem_of_getElem? ho, by simpa using h⟩
  rw [fewS, this]; rfl
theorem law_few (F : Nat → Prop) (w : World) (v : Value) (l : List OpM) (h : OpsR F w v l) (hF : Bd F w) (hl : (l.length : Int) ≤ 9223372036854775807) : Calls Tryz.prog 9 #[v] w (RetB (fewS l) w) := by
  obtain ⟨va, vc, rfl, hvc, -⟩ := Rs.shape h
  go_enter Tryz.func9, Tryz.ntmps9
  go_wp2
  go_loopw [7] (fun i wr => ∃ k : Nat, k ≤ l.length ∧ i = .int .i64 k ∧ (∀ o ∈ l.take k, o.s.size ≤ 100) ∧ Fr (fun _ => False) w wr) (fun i _ => l.length - (intOf i).toNat)
  case atStart => exact ⟨0, Nat.zero_le _, rfl, by simp, Fr.refl _ _⟩
  case round =>
    obtain ⟨k, hk, rfl, hx, hW⟩ := hrel
    have hk0 : (0 : Int) ≤ (k : Int) := by omega
    have HX : Hid _ := hx
    clear hx
    by_cases hlt : k < l.length
    · have hlt' : (k : Int) < (l.length : Int) := by omega
      obtain ⟨o, ho⟩ : ∃ o, l[k]? = some o := ⟨l[k], List.getElem?_eq_getElem hlt⟩
      obtain ⟨g, off, c', hv, hcells⟩ := h.at ho
      cases hv
      obtain ⟨ok, ot, on, os⟩ := o
      have c0 : wr.cell? ⟨g, off + k * 4, none⟩ = _ := hW.cell_some (hcells 0 _ rfl) (fun h => h)
      have c1 : wr.cell? ⟨g, off + k * 4 + 1, none⟩ = _ := hW.cell_some (hcells 1 _ rfl) (fun h => h)
      have c2 : wr.cell? ⟨g, off + k * 4 + 2, none⟩ = _ := hW.cell_some (hcells 2 _ rfl) (fun h => h)
      have c3 : wr.cell? ⟨g, off + k * 4 + 3, none⟩ = _ := hW.cell_some (hcells 3 _ rfl) (fun h => h)
      have HO : Hid _ := ho
      clear hcells ho
      by_cases hs : os.size ≤ 100
      · have hs1 : ¬ (100 : Int) < (os.size : Int) := by omega
        have HS : Hid _ := hs
        clear hs
        go_wp2
        go_roundw
        case rel => exact ⟨k + 1, by omega, by go_num, fun y hy => by
            rw [List.take_add_one, HO.out] at hy
            rcases List.mem_append.1 hy with hy | hy
            · exact HX.out y hy
            · simp at hy; subst hy; exact HS.out, by repeat first | exact hW | refine Fr.alloc ?_ _⟩
        case measure => simp [intOf]; omega
      · have hs1 : (100 : Int) < (os.size : Int) := by omega
        have HS : Hid _ := hs
        clear hs
        go_wp2
        go_ret
        exact ⟨by rw [fewS_no HO.out HS.out]; rfl, by repeat first | exact hW | refine Fr.alloc ?_ _⟩
    · obtain rfl : k = l.length := by omega
      have hlt' : ¬ (l.length : Int) < (l.length : Int) := by omega
      have e : fewS l = decide (l.length ≤ 200) := by
        have : l.all (fun o => decide (o.s.size ≤ 100)) = true := List.all_eq_true.2 fun o ho => by
          have := HX.out o (by rw [List.take_of_length_le (Nat.le_refl _)]; exact ho); simpa using this
        rw [fewS, this]; simp
      have HE : Hid _ := e
      clear e
      by_cases h2 : l.length ≤ 200
      · have h3 : (l.length : Int) ≤ 200 := by omega
        have HD : Hid (fewS l = true) := (by rw [HE.out]; simpa using h2 : fewS l = true)
        clear h2
        go_wp2
        go_ret
        exact ⟨by rw [HD.out]; rfl, hW⟩
      · have h3 : ¬ (l.length : Int) ≤ 200 := by omega
        have HD : Hid (fewS l = false) := (by rw [HE.out]; simpa using h2 : fewS l = false)
        clear h2
        go_wp2
        go_ret
        exact ⟨by rw [HD.out]; rfl, hW⟩
/-- the reading of the list in a later world -/
theorem OpsR.cells4 {F : Nat → Prop} {w wr : World} {v : Value} {l : List OpM} (h : OpsR F w v l) (hW : Fr (fun _ => False) w wr) {k : Nat} {ok ot on : Int} {os : ByteArray} (ho : l[k]? = some ⟨ok, ot, on, os⟩) :
    ∃ g off c, v = .slice (some ⟨g, off, none⟩) l.length c ∧ wr.cell? ⟨g, off + k * 4, none⟩ = some (.int .i64 ok) ∧ wr.cell? ⟨g, off + k * 4 + 1, none⟩ = some (.int .i64 ot) ∧ wr.cell? ⟨g, off + k * 4 + 2, none⟩ = some (.int .i64 on) ∧ wr.cell? ⟨g, off + k * 4 + 3, none⟩ = some (.string os) := by
  obtain ⟨g, off, c, hv, hc⟩ := h.at ho
  exact ⟨g, off, c, hv, hW.cell_some (hc 0 _ rfl) (fun h => h), hW.cell_some (hc 1 _ rfl) (fun h => h), hW.cell_some (hc 2 _ rfl) (fun h => h), hW.cell_some (hc 3 _ rfl) (fun h => h)⟩
end Go.Proofs.YtkjggglmemafgaaGreat
