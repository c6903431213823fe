/- What was laid is taken; what was split is joined. -/
import Derived.Test.YtffbkmlgmmokiaaPageL
set_option linter.unusedVariables false
set_option linter.unusedSimpArgs false
set_option maxRecDepth 10000
namespace Go.Proofs.Ytffbkmlgmmokiaa
theorem hd_bits (f : Fr) (h : f.kind.toNat ≤ 63) : f.hd &&& 63 = f.kind ∧ (((f.hd &&& 64).toNat : Int) != 0) = f.first ∧ (((f.hd &&& 128).toNat : Int) != 0) = f.last := by
  have key : ∀ (n : Fin 64) (a b : Bool), ((if b = true then (if a = true then UInt8.ofNat n.val ||| 64 else UInt8.ofNat n.val) ||| 128 else (if a = true then UInt8.ofNat n.val ||| 64 else UInt8.ofNat n.val)) &&& 63 = UInt8.ofNat n.val) ∧
    ((((if b = true then (if a = true then UInt8.ofNat n.val ||| 64 else UInt8.ofNat n.val) ||| 128 else (if a = true then UInt8.ofNat n.val ||| 64 else UInt8.ofNat n.val)) &&& 64).toNat : Int) != 0) = a ∧
    ((((if b = true then (if a = true then UInt8.ofNat n.val ||| 64 else UInt8.ofNat n.val) ||| 128 else (if a = true then UInt8.ofNat n.val ||| 64 else UInt8.ofNat n.val)) &&& 128).toNat : Int) != 0) = b := by decide +kernel
  have := key ⟨f.kind.toNat, by omega⟩ f.first f.last
  simp only [UInt8.ofNat_toNat] at this
  exact this
theorem take_pg (f : Fr) (hk : f.kind.toNat ≤ 63) (hl : f.data.length ≤ 125) : takeP (pg f) = some f := by
  have h0 : (pg f).getD 0 0 = f.hd := rfl
  have h1 : (pg f).getD 1 0 = byteOf f.data.length := rfl
  have hb : (byteOf f.data.length).toNat = f.data.length := by have := byteOf_nat f.data.length; omega
  have hd : ((pg f).drop 2).take f.data.length = f.data := List.take_left
  obtain ⟨b1, b2, b3⟩ := hd_bits f hk
  have ht : tkF (pg f) = f := by
    simp only [tkF, h0, h1, hb, hd, b1, b2, b3]
  unfold takeP
  rw [if_pos ⟨pg_length f hl, by rw [h1, hb]; exact hl, by rw [ht]⟩, ht]
theorem frames_all : ∀ (n : Nat) (kind : UInt8) (first : Bool) (b : List UInt8), b.length ≤ n → ∀ f ∈ frames kind first b, f.kind = kind ∧ f.data.length ≤ 125
  | n, kind, first, b, h, f, hf => by
    rw [frames] at hf
    split at hf
    · simp only [List.mem_singleton] at hf
      subst hf
      rename_i hb
      exact ⟨rfl, hb⟩
    · rename_i hb
      match n, h with
      | n + 1, h =>
        rcases List.mem_cons.1 hf with rfl | hf
        · exact ⟨rfl, by simp; omega⟩
        · exact frames_all n kind false (b.drop 125) (by rw [List.length_drop]; omega) f hf
      | 0, h => omega
theorem frames_get : ∀ (n : Nat) (kind : UInt8) (first : Bool) (b : List UInt8), b.length ≤ n → ∀ (i : Nat) (hi : i < (frames kind first b).length),
    (frames kind first b)[i].first = (first && (i == 0)) ∧ (frames kind first b)[i].last = (i + 1 == (frames kind first b).length) ∧ (frames kind first b)[i].data.length = min (b.length - 125 * i) 125
  | n, kind, first, b, h, i, hi => by
    have hfr := frames.eq_def kind first b
    by_cases hb : b.length ≤ 125
    · rw [dif_pos hb] at hfr
      have : i = 0 := by rw [hfr] at hi; simpa using hi
      subst this
      simp only [hfr, List.getElem_cons_zero, List.length_singleton]
      refine ⟨by simp, rfl, by simp; omega⟩
    · rw [dif_neg hb] at hfr
      match n, h with
      | n + 1, h =>
        cases i with
        | zero =>
          have hfl := frames_len n kind false (b.drop 125) (by rw [List.length_drop]; omega)
          simp only [hfr, List.getElem_cons_zero, List.length_cons]
          refine ⟨by simp, ?_, by simp; omega⟩
          have : ¬ (0 + 1 = (frames kind false (b.drop 125)).length + 1) := by omega
          exact (beq_eq_false_iff_ne.2 this).symm
        | succ i =>
          have hi2 : i < (frames kind false (b.drop 125)).length := by rw [hfr] at hi; simpa using hi
          obtain ⟨h1, h2, h3⟩ := frames_get n kind false (b.drop 125) (by rw [List.length_drop]; omega) i hi2
          simp only [hfr, List.getElem_cons_succ, List.length_cons]
          refine ⟨by rw [h1]; simp, ?_, by rw [h3, List.length_drop]; omega⟩
          rw [h2, Bool.eq_iff_iff]
          simp
      | 0, h => omega
/-- A frame of many, taken. -/
theorem joinG_step {f : Fr} {l : List (List UInt8)} {i : Nat} {k0 : UInt8} {all : List UInt8} (hk : f.kind.toNat ≤ 63) (hl : f.data.length ≤ 125) (h1 : f.first = (i == 0)) (h2 : i ≠ 0 → k0 = f.kind) :
    joinG (pg f :: l) i k0 all = if f.last = true then (f.kind, all ++ f.data, i + 1, 0) else if f.data.length ≠ 125 then (0, [], 0, 90) else joinG l (i + 1) f.kind (all ++ f.data) := by
  rw [joinG, take_pg f hk hl]
  simp only
  rw [if_neg (by rw [h1]; simp), if_neg (fun h => h.2 (h2 h.1).symm)]
theorem joinG_frames : ∀ (n : Nat) (kind : UInt8) (first : Bool) (b : List UInt8), b.length ≤ n → ∀ (i : Nat) (k0 : UInt8) (all : List UInt8) (rest : List (List UInt8)), kind.toNat ≤ 63 → first = (i == 0) → (i ≠ 0 → k0 = kind) →
    joinG ((frames kind first b).map pg ++ rest) i k0 all = (kind, all ++ b, i + (frames kind first b).length, 0)
  | n, kind, first, b, h, i, k0, all, rest, hk, h1, h2 => by
    rw [frames]
    split
    · rename_i hb
      rw [List.map_cons, List.map_nil, List.cons_append, joinG_step hk hb h1 h2, if_pos rfl]
      rfl
    · rename_i hb
      match n, h with
      | n + 1, h =>
        rw [List.map_cons, List.cons_append, joinG_step hk (by simp; omega) h1 h2, if_neg (by simp), if_neg (by simp; omega), joinG_frames n kind false (b.drop 125) (by rw [List.length_drop]; omega) (i + 1) kind _ rest hk (by simp) (fun _ => rfl)]
        rw [List.append_assoc, List.take_append_drop, List.length_cons]
        congr 3
        omega
      | 0, h => omega
theorem joinG_part : ∀ (n : Nat) (kind : UInt8) (first : Bool) (b : List UInt8), b.length ≤ n → ∀ (i : Nat) (k0 : UInt8) (all : List UInt8) (j : Nat), kind.toNat ≤ 63 → first = (i == 0) → (i ≠ 0 → k0 = kind) → j < (frames kind first b).length →
    joinG (((frames kind first b).map pg).take j) i k0 all = (0, [], 0, 90)
  | n, kind, first, b, h, i, k0, all, j, hk, h1, h2, hj => by
    cases j with
    | zero => rfl
    | succ j =>
      rw [frames] at hj ⊢
      split at hj
      · simp at hj
      · rename_i hb
        rw [dif_neg hb]
        match n, h with
        | n + 1, h =>
          rw [List.map_cons, List.take_succ_cons, joinG_step hk (by simp; omega) h1 h2, if_neg (by simp), if_neg (by simp; omega)]
          exact joinG_part n kind false (b.drop 125) (by rw [List.length_drop]; omega) (i + 1) kind _ j hk (by simp) (fun _ => rfl) (by simpa using hj)
        | 0, h => omega
theorem joinG_late {kind : UInt8} {b : List UInt8} (hk : kind.toNat ≤ 63) : joinR (((frames kind true b).map pg).drop 1) = (0, [], 0, 90) := by
  rw [joinR, frames]
  split
  · rfl
  · rename_i hb
    rw [List.map_cons, List.drop_succ_cons, List.drop_zero, frames]
    have hbad : ∀ (f : Fr) (l : List (List UInt8)), f.kind.toNat ≤ 63 → f.data.length ≤ 125 → f.first = false → joinG ((pg f :: l).take 64) 0 0 [] = (0, [], 0, 90) := fun f l h1 h2 h3 => by
      rw [List.take_succ_cons, joinG, take_pg f h1 h2]
      simp only
      rw [if_pos (by rw [h3]; rfl)]
    split
    · rename_i hb2
      rw [List.map_cons, List.map_nil]
      exact hbad _ _ hk hb2 rfl
    · rw [List.map_cons]
      exact hbad _ _ hk (by simp; omega) rfl
theorem joinR_whole {kind : UInt8} {b : List UInt8} {rest : List (List UInt8)} (hk : kind.toNat ≤ 63) (hb : b.length ≤ 8000) : joinR ((frames kind true b).map pg ++ rest) = (kind, b, (frames kind true b).length, 0) := by
  have hl := frames_len _ kind true b (Nat.le_refl _)
  rw [joinR, List.take_append, List.take_of_length_le (by rw [List.length_map]; omega), joinG_frames _ kind true b (Nat.le_refl _) 0 0 [] _ hk rfl (fun h => absurd rfl h)]
  simp
theorem joinR_part {kind : UInt8} {b : List UInt8} {j : Nat} (hk : kind.toNat ≤ 63) (hb : b.length ≤ 8000) (hj : j < (frames kind true b).length) : joinR (((frames kind true b).map pg).take j) = (0, [], 0, 90) := by
  have hl := frames_len _ kind true b (Nat.le_refl _)
  rw [joinR, List.take_take, Nat.min_eq_right (by omega)]
  exact joinG_part _ _ _ _ (Nat.le_refl _) 0 0 [] j hk rfl (fun h => absurd rfl h) hj
theorem take_torn {f : Fr} {k : Nat} (hk : k < 128) : takeP ((pg f).take k ++ (List.replicate 128 255).drop k) = none := by
  cases h : takeP ((pg f).take k ++ (List.replicate 128 255).drop k) with
  | none => rfl
  | some g =>
    exfalso
    obtain ⟨h1, h2, h3, h4⟩ := takeP_some h
    have hlen : ((pg f).take k).length ≤ k := by rw [List.length_take]; omega
    have e1 : (pg g)[127]? = some 90 := by
      have : pg g = (g.hd :: byteOf g.data.length :: (g.data ++ List.replicate (125 - g.data.length) 0)) ++ [90] := by simp [pg]
      have hL : (g.hd :: byteOf g.data.length :: (g.data ++ List.replicate (125 - g.data.length) 0)).length = 127 := by simp; omega
      rw [this, List.getElem?_append_right (by omega), hL]
      rfl
    rw [h2] at e1
    have hl2 : ((pg f).take k).length = k := by
      rw [List.length_append, List.length_drop, List.length_replicate] at h1
      omega
    rw [List.getElem?_append_right (by omega), hl2, List.drop_replicate, List.getElem?_replicate] at e1
    rw [if_pos (by omega)] at e1
    exact absurd e1 (by decide)
theorem mod64 (q : UInt8) : (q &&& 63).toNat ≤ 63 := by rw [UInt8.toNat_and]; exact Nat.and_le_right
end Go.Proofs.Ytffbkmlgmmokiaa
