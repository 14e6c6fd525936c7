import Derived.Test.YtkjggglmemafgaaGreatPool
namespace Go.Proofs.YtkjggglmemafgaaGreat
open Go Go.RowKit
set_option maxRecDepth 20000

/-! ### cmp -/
theorem nan_int (x : Int) (w : World) : Calls Tryz.prog 141 #[.int .i64 x] w fun e w' => e = .returned (.bool false) ∧ w = w' := by
  go_enter Tryz.func141, Tryz.ntmps141
  go_wp2
  go_ret
  exact ⟨by simp, rfl⟩
theorem nan_u64 (x : Int) (w : World) : Calls Tryz.prog 165 #[.int .u64 x] w fun e w' => e = .returned (.bool false) ∧ w = w' := by
  go_enter Tryz.func165, Tryz.ntmps165
  go_wp2
  go_ret
  exact ⟨by simp, rfl⟩

def cmpI (x y : Int) : Int := if x < y then -1 else if y < x then 1 else 0

theorem cmp_int (x y : Int) (w : World) : Calls Tryz.prog 153 #[.int .i64 x, .int .i64 y] w fun e w' => e = .returned (.int .i64 (cmpI x y)) ∧ w = w' := by
  go_enter Tryz.func153, Tryz.ntmps153
  go_wp2_with fail
  refine (nan_int x w).mono ?_
  rintro e w1 ⟨rfl, rfl⟩
  go_wp2_with fail
  refine (nan_int y w).mono ?_
  rintro e w1 ⟨rfl, rfl⟩
  by_cases h1 : x < y
  · go_wp2
    go_ret
    exact ⟨by simp [cmpI, h1], rfl⟩
  · by_cases h2 : y < x
    · go_wp2
      go_ret
      exact ⟨by simp [cmpI, h1, h2], rfl⟩
    · go_wp2
      go_ret
      exact ⟨by rw [cmpI, if_neg (by omega), if_neg (by omega)]; rfl, rfl⟩
theorem cmp_u64 (x y : Int) (w : World) : Calls Tryz.prog 151 #[.int .u64 x, .int .u64 y] w fun e w' => e = .returned (.int .i64 (cmpI x y)) ∧ w = w' := by
  go_enter Tryz.func151, Tryz.ntmps151
  go_wp2_with fail
  refine (nan_u64 x w).mono ?_
  rintro e w1 ⟨rfl, rfl⟩
  go_wp2_with fail
  refine (nan_u64 y w).mono ?_
  rintro e w1 ⟨rfl, rfl⟩
  by_cases h1 : x < y
  · go_wp2
    go_ret
    exact ⟨by simp [cmpI, h1], rfl⟩
  · by_cases h2 : y < x
    · go_wp2
      go_ret
      exact ⟨by simp [cmpI, h1, h2], rfl⟩
    · go_wp2
      go_ret
      exact ⟨by rw [cmpI, if_neg (by omega), if_neg (by omega)]; rfl, rfl⟩

/-! ### spoor/hash -/
def fnvS (y b : Int) : Int := IntKind.u64.wrap (bits .xor .u64 y (IntKind.u64.wrap b) * 1099511628211)
theorem fnvS_in (y b : Int) : 0 ≤ fnvS y b ∧ fnvS y b < 18446744073709551616 := by
  unfold fnvS
  exact ⟨by simp [IntKind.wrap, IntKind.signed, IntKind.bits]; omega, by simp [IntKind.wrap, IntKind.signed, IntKind.bits]; omega⟩
theorem hash_more (w : World) (x : Int) (g off n cap : Nat) (bs : List Int) (hl : bs.length = n) (hn : n ≤ 100000)
   (hb : ∀ (j : Nat) (u : Int), bs[j]? = some u → w.cell? ⟨g, off + j, none⟩ = some (.int .u8 u)) :
    Calls Tryz.prog 166 #[.int .u64 x, .slice (some ⟨g, off, none⟩) n cap] w fun e w' => e = .returned (.int .u64 (bs.foldl fnvS x)) ∧ w = w' := by
  have hn' : (n : Int) ≤ 100000 := by omega
  go_enter Tryz.func166, Tryz.ntmps166
  go_wp2
  go_loopw [0, 6, 9] (fun x' _ i wr => ∃ k : Nat, k ≤ n ∧ i = .int .i64 k ∧ x' = .int .u64 ((bs.take k).foldl fnvS x) ∧ wr = w)
    (fun _ _ i _ => n - (intOf i).toNat)
  case atStart => exact ⟨0, Nat.zero_le _, rfl, rfl, rfl⟩
  case round =>
    obtain ⟨k, hk, rfl, rfl, rfl⟩ := hrel
    have hk0 : (0 : Int) ≤ (k : Int) := by omega
    by_cases hlt : k < n
    · obtain ⟨u, hu⟩ : ∃ u, bs[k]? = some u := ⟨_, List.getElem?_eq_getElem (by omega)⟩
      have hc := hb k u hu
      have hlt' : (k : Int) < (n : Int) := by omega
      have HU : Hid (bs[k]? = some u) := hu
      clear hu hb hl
      go_wp2
      refine ⟨⟨k + 1, by omega, by go_num, ?_, trivial⟩, by simp [intOf]; omega⟩
      rw [List.take_add_one, HU.out]
      simp [List.foldl_append, fnvS]
    · obtain rfl : k = n := by omega
      have ht : bs.take k = bs := by rw [← hl, List.take_length]
      rw [ht]
      clear ht hb hl
      go_wp2
      go_ret
      exact ⟨rfl, rfl⟩

def seedS (seed : Int) (k : Nat) : Int := (List.range k).foldl (fun x k => fnvS x (seed / 2 ^ (56 - 8 * k) % 256)) 14695981039346656037
def prioS (seed t : Int) : Int := [t / 16777216 % 256, t / 65536 % 256, t / 256 % 256, t % 256].foldl fnvS (seedS seed 8)
theorem hash_prio (w : World) (seed t : Int) :
    Calls Tryz.prog 152 #[.int .u64 seed, .int .i64 t] w fun e w' => e = .returned (.int .u64 (prioS seed t)) ∧ Fr (fun _ => False) w w' := by
  go_enter Tryz.func152, Tryz.ntmps152
  go_wp2
  go_loopw [5, 6] (fun x' i wr => ∃ k : Nat, k ≤ 8 ∧ i = .int .i64 (56 - 8 * k) ∧ x' = .int .u64 (seedS seed k) ∧ Fr (fun _ => False) w wr)
    (fun _ i _ => (intOf i + 8).toNat)
  case atStart => exact ⟨0, Nat.zero_le _, rfl, rfl, Fr.refl _ _⟩
  case round =>
    obtain ⟨k, hk, rfl, rfl, hF⟩ := hrel
    by_cases hlt : k < 8
    · have h1 : (0 : Int) ≤ 56 - 8 * (k : Int) := by omega
      have h2 : (56 : Int) - 8 * (k : Int) ≤ 56 := by omega
      go_wp2_with fail
      refine (hash_more _ _ _ _ _ _ [seed / 2 ^ (56 - 8 * k) % 256] rfl (by simp) ?_).mono ?_
      · intro j u hu
        match j, hu with
        | 0, hu => cases hu; simp
      · rintro e w1 ⟨rfl, rfl⟩
        go_wp2
        go_roundw
        case rel =>
          refine ⟨k + 1, by omega, by go_num, ?_, hF.alloc _⟩
          simp [seedS, List.range_succ, List.foldl_append]
        case measure => simp [intOf]; omega
    · obtain rfl : k = 8 := by omega
      go_wp2_with fail
      refine (hash_more _ _ _ _ _ _ [t / 16777216 % 256, t / 65536 % 256, t / 256 % 256, t % 256] rfl (by simp) ?_).mono ?_
      · intro j u hu
        match j, hu with
        | 0, hu => cases hu; simp
        | 1, hu => cases hu; simp
        | 2, hu => cases hu; simp
        | 3, hu => cases hu; simp
      · rintro e w1 ⟨rfl, rfl⟩
        go_wp2
        go_ret
        exact ⟨rfl, hF.alloc _⟩

theorem cmp_or (w : World) (g off cap : Nat) (a b : Int) (ha : w.cell? ⟨g, off, none⟩ = some (.int .i64 a)) (hb : w.cell? ⟨g, off + 1, none⟩ = some (.int .i64 b)) :
    Calls Tryz.prog 150 #[.slice (some ⟨g, off, none⟩) 2 cap] w fun e w' => e = .returned (.int .i64 (if a = 0 then b else a)) ∧ w = w' := by
  go_enter Tryz.func150, Tryz.ntmps150
  go_wp2
  go_loopw [5, 8] (fun _ i wr => ∃ k : Nat, k ≤ 2 ∧ i = .int .i64 k ∧ (1 ≤ k → a = 0) ∧ (2 ≤ k → b = 0) ∧ wr = w)
    (fun _ i _ => 2 - (intOf i).toNat)
  case atStart => exact ⟨0, Nat.zero_le _, rfl, by omega, by omega, rfl⟩
  case round =>
    obtain ⟨k, hk, rfl, hka, hkb, rfl⟩ := hrel
    obtain rfl | rfl | rfl : k = 0 ∨ k = 1 ∨ k = 2 := by omega
    · by_cases hz : a = 0
      · subst hz
        go_wp2
        go_roundw
        case rel => exact ⟨1, by omega, by go_num, by simp, by simp, by simp⟩
        case measure => simp [intOf]
      · go_wp2
        go_ret
        exact ⟨rfl, rfl⟩
    · obtain rfl := hka (by omega)
      by_cases hz : b = 0
      · subst hz
        go_wp2
        go_roundw
        case rel => exact ⟨2, by omega, by go_num, by simp, by simp, by simp⟩
        case measure => simp [intOf]
      · go_wp2
        go_ret
        exact ⟨rfl, rfl⟩
    · obtain rfl := hka (by omega)
      obtain rfl := hkb (by omega)
      go_wp2
      go_ret
      exact ⟨by simp, rfl⟩

def cmpS (seed a b : Int) : Int := if cmpI (prioS seed a) (prioS seed b) = 0 then cmpI a b else cmpI (prioS seed a) (prioS seed b)
theorem hash_compare (w : World) (seed a b : Int) :
    Calls Tryz.prog 140 #[.int .u64 seed, .int .i64 a, .int .i64 b] w fun e w' => e = .returned (.int .i64 (cmpS seed a b)) ∧ Fr (fun _ => False) w w' := by
  go_enter Tryz.func140, Tryz.ntmps140
  go_wp2_with fail
  refine (hash_prio w seed a).mono ?_
  rintro e w1 ⟨rfl, hF1⟩
  go_wp2_with fail
  refine (hash_prio w1 seed b).mono ?_
  rintro e w2 ⟨rfl, hF2⟩
  go_wp2_with fail
  refine (cmp_u64 _ _ w2).mono ?_
  rintro e w3 ⟨rfl, rfl⟩
  go_wp2_with fail
  refine (cmp_int _ _ w2).mono ?_
  rintro e w3 ⟨rfl, rfl⟩
  go_wp2_with fail
  refine (cmp_or _ _ 0 _ (cmpI (prioS seed a) (prioS seed b)) (cmpI a b) (by simp) (by simp)).mono ?_
  rintro e w3 ⟨rfl, rfl⟩
  rw [show (if cmpI (prioS seed a) (prioS seed b) = 0 then cmpI a b else cmpI (prioS seed a) (prioS seed b)) = cmpS seed a b from rfl]
  go_wp2
  go_ret
  exact ⟨rfl, (hF1.trans hF2 (fun _ _ h => h)).alloc _⟩

theorem least_fn (w : World) (q : Addr) (seed a b : Int) (hq : w.cell? q = some (.int .u64 seed)) :
    Calls Tryz.prog 139 #[.int .i64 a, .int .i64 b, .pointer (some q)] w fun e w' => e = .returned (.int .i64 (cmpS seed a b)) ∧ Fr (fun _ => False) w w' := by
  go_enter Tryz.func139, Tryz.ntmps139
  go_wp2_with fail
  refine (hash_compare w seed a b).mono ?_
  rintro e w1 ⟨rfl, hF1⟩
  go_wp2
  go_ret
  exact ⟨rfl, hF1⟩

def minS (seed : Int) (m x : Int) : Int := if cmpS seed x m < 0 then x else m
theorem foldl_take {α β : Type} (f : α → β → α) (x : α) {l : List β} {k : Nat} {u : β} (h : l[k]? = some u) : (l.take (k + 1)).foldl f x = f ((l.take k).foldl f x) u := by
  rw [List.take_add_one, h, List.foldl_append]; rfl
theorem minS_lt {seed m x : Int} (h : cmpS seed x m < 0) : minS seed m x = x := if_pos h
theorem minS_ge {seed m x : Int} (h : ¬ cmpS seed x m < 0) : minS seed m x = m := if_neg h
theorem min_func (w : World) (q : Addr) (seed : Int) (v : Value) (x : Int) (xs : List Int) (hv : Sl w 3 1 v (xs.length + 1) ((x :: xs).map (Value.int .i64))) (hx : (xs.length : Int) ≤ 100000) (hq : w.cell? q = some (.int .u64 seed)) :
    Calls Tryz.prog 138 #[v, .func (.func 139) #[] #[.pointer (some q)]] w fun e w' => e = .returned (.int .i64 (xs.foldl (minS seed) x)) ∧ Fr (fun _ => False) w w' := by
  obtain ⟨g, off, cap, rfl, hg, hcap, hmx⟩ := hv.form (by omega)
  have hc := hv.cells rfl
  have hc0 := hc 0 _ rfl
  have hqb := World.block_lt_of_cell? w q hq
  rw [Nat.add_zero] at hc0
  have hx0 : (0 : Int) ≤ (xs.length : Int) := by omega
  unfold maxLen at hmx
  go_enter Tryz.func138, Tryz.ntmps138
  go_wp2
  go_loopw [5, 6] (fun mv i wr => ∃ k : Nat, k ≤ xs.length ∧ i = .int .i64 (k + 1) ∧ mv = .int .i64 ((xs.take k).foldl (minS seed) x) ∧ Fr (fun _ => False) w wr)
    (fun _ i _ => xs.length + 1 - (intOf i).toNat)
  case atStart => exact ⟨0, Nat.zero_le _, rfl, rfl, Fr.refl _ _⟩
  case round =>
    obtain ⟨k, hk, rfl, rfl, hF⟩ := hrel
    have hk0 : (0 : Int) ≤ (k : Int) := by omega
    have hsz := hF.size
    by_cases hlt : k < xs.length
    · have hlt' : (k : Int) < (xs.length : Int) := by omega
      have hck := hF.cell_some (hc (k + 1) (.int .i64 xs[k]) (by simp [hlt])) (fun h => h)
      have hq' := hF.cell_some hq (fun h => h)
      clear hc hc0 hq
      go_wp2_with fail
      refine (least_fn wr q seed _ _ hq').mono ?_
      rintro e w1 ⟨rfl, hF1⟩
      have hck1 := hF1.cell_some hck (fun h => h)
      have HM : Hid ((xs.take (k + 1)).foldl (minS seed) x = minS seed ((xs.take k).foldl (minS seed) x) xs[k]) := foldl_take _ _ (List.getElem?_eq_getElem hlt)
      by_cases hlc : cmpS seed xs[k] ((xs.take k).foldl (minS seed) x) < 0
      · go_wp2
        go_roundw
        case rel => exact ⟨k + 1, by omega, by go_num, by rw [HM.out, minS_lt hlc], hF.trans hF1 (fun _ _ h => h)⟩
        case measure => simp [intOf]; omega
      · go_wp2
        go_roundw
        case rel => exact ⟨k + 1, by omega, by go_num, by rw [HM.out, minS_ge (by omega)], hF.trans hF1 (fun _ _ h => h)⟩
        case measure => simp [intOf]; omega
    · obtain rfl : k = xs.length := by omega
      rw [List.take_length]
      clear hc hc0
      go_wp2
      go_ret
      exact ⟨rfl, hF⟩

def leastS (seed : Int) : List Int → Int
  | [] => -1
  | x :: xs => xs.foldl (minS seed) x
theorem hash_least (w : World) (seed : Int) (v : Value) (l : List Int) (hv : Sl w 3 1 v l.length (l.map (Value.int .i64))) (hx : (l.length : Int) ≤ 100000) :
    Calls Tryz.prog 123 #[.int .u64 seed, v] w fun e w' => e = .returned (.int .i64 (leastS seed l)) ∧ Fr (fun _ => False) w w' := by
  cases l with
  | nil =>
    rw [List.length_nil] at hv hx
    obtain ⟨va, vc, rfl⟩ := hv.lit
    clear hv
    go_enter Tryz.func123, Tryz.ntmps123
    go_wp2
    go_ret
    exact ⟨rfl, (Fr.refl _ _).alloc _⟩
  | cons x xs =>
    rw [List.length_cons] at hv hx
    obtain ⟨g, off, cap, rfl, hg, hcap, hmx⟩ := hv.form (by omega)
    have hx0 : (0 : Int) ≤ (xs.length : Int) := by omega
    have hx1 : (xs.length : Int) ≤ 100000 := by omega
    have HV : Hid _ := hv
    clear hv hx
    go_enter Tryz.func123, Tryz.ntmps123
    go_wp2_with fail
    refine (min_func _ _ seed _ x xs (Sl.alloc HV.out _) (by omega) ?_).mono ?_
    · simp
    · rintro e w1 ⟨rfl, hF⟩
      go_wp2
      go_ret
      exact ⟨rfl, ((Fr.refl _ _).alloc _).trans hF (fun _ _ h => h)⟩
end Go.Proofs.YtkjggglmemafgaaGreat
