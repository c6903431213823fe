/- What is taken was laid, and what is laid is taken: notes, in plain terms. -/
import Derived.Test.YtkbegghcphokmaaRecT
set_option linter.unusedVariables false
set_option linter.unusedSimpArgs false
set_option maxRecDepth 10000
namespace Go.Proofs.Ytkbegghcphokmaa
theorem bnum_le : ∀ (k : Nat) (n : Int), 0 ≤ n → (bnum (le n k) : Int) = n % 256 ^ k
  | 0, n, h => by simp [le, bnum, Int.emod_one]
  | k + 1, n, h => by
    have hp : (0 : Int) < 256 ^ k := Int.pow_pos (by omega)
    rw [le, bnum, Int.natCast_add, Int.natCast_mul, bnum_le k (n / 256) (by omega), byteOf_nat, Int.pow_succ]
    have h1 := Int.emod_add_mul_ediv n 256
    have h2 := Int.emod_add_mul_ediv (n / 256) (256 ^ k)
    have h3 : 0 ≤ n / 256 % 256 ^ k := Int.emod_nonneg _ (by omega)
    have h4 : n / 256 % 256 ^ k < 256 ^ k := Int.emod_lt_of_pos _ hp
    have h5 : n = (n % 256 + 256 * (n / 256 % 256 ^ k)) + (n / 256 / 256 ^ k) * (256 ^ k * 256) := by
      rw [← Int.mul_assoc, Int.mul_comm (n / 256 / 256 ^ k) (256 ^ k), Int.mul_comm _ 256, Int.add_assoc, ← Int.mul_add, h2]
      omega
    simp only [lit_cast]
    generalize n / 256 / 256 ^ k = q at h5
    have h6 : n % 256 + 256 * (n / 256 % 256 ^ k) < 256 ^ k * 256 := by omega
    have h7 : 0 ≤ n % 256 + 256 * (n / 256 % 256 ^ k) := by omega
    generalize n % 256 + 256 * (n / 256 % 256 ^ k) = a at *
    rw [h5, Int.add_mul_emod_self_right, Int.emod_eq_of_lt h7 h6]
theorem le_bnum : ∀ l : List UInt8, le (bnum l : Int) l.length = l
  | [] => rfl
  | b :: l => by
    have hb := b.toNat_lt
    rw [List.length_cons, le, bnum]
    congr 1
    · apply UInt8.toNat.inj
      have := byteOf_nat ((b.toNat + 256 * bnum l : Nat) : Int)
      omega
    · rw [show (((b.toNat + 256 * bnum l : Nat) : Int) / 256) = (bnum l : Int) from by omega]
      exact le_bnum l
section
variable {st : RS} {k : Int} {l q r : List UInt8} {n : Nt}
theorem RS.num_go (h0 : 0 ≤ k) (hk : k ≤ 8) (h : k ≤ l.length) : (⟨l, 0⟩ : RS).num k = (bnum (l.take k.toNat), ⟨l.drop k.toNat, 0⟩) := by
  have e : (⟨l, 0⟩ : RS).many k = ⟨l, 0⟩ := by rw [RS.many, if_neg (by omega)]
  have f : (⟨l, 0⟩ : RS).thereB k = true := by simp [RS.thereB]; omega
  simp only [RS.num, e, f, if_true]
theorem RS.raw_go (h0 : 0 ≤ k) (h : k ≤ l.length) : (⟨l, 0⟩ : RS).raw k = (l.take k.toNat, ⟨l.drop k.toNat, 0⟩) := by
  have f : (⟨l, 0⟩ : RS).thereB k = true := by simp [RS.thereB]; omega
  simp only [RS.raw, f, if_true]
theorem RS.blob_go (h2 : 2 ≤ l.length) (hb : bnum (l.take 2) ≤ 300) (h : bnum (l.take 2) + 2 ≤ l.length) : (⟨l, 0⟩ : RS).blob 300 = ((l.drop 2).take (bnum (l.take 2)), ⟨(l.drop 2).drop (bnum (l.take 2)), 0⟩) := by
  have f : (⟨l, 0⟩ : RS).thereB 2 = true := by simp [RS.thereB]; omega
  have f2 : (⟨l, 0⟩ : RS).thereB ((bnum (l.take 2) : Int) + 2) = true := by simp [RS.thereB]; omega
  simp only [RS.blob, f, f2, if_true, if_neg (show ¬ (300 : Int) < 0 by decide)]
  rw [if_neg (by omega), RS.raw_go (by omega) (by rw [List.length_drop]; omega), Int.toNat_natCast]
theorem RS.eta (h : st.fault = 0) : st = ⟨st.rest, 0⟩ := by obtain ⟨r, f⟩ := st; cases h; rfl
theorem RS.raw_inv (h0 : 0 ≤ k) (h : (st.raw k).2.fault = 0) : st.fault = 0 ∧ k ≤ st.rest.length := by
  by_cases hf : st.fault = 0
  · refine ⟨hf, ?_⟩
    by_cases hl : k ≤ st.rest.length
    · exact hl
    · rw [RS.raw, if_neg (by simp [RS.thereB]; omega), RS.there, if_pos hf, if_neg (by omega), if_pos (by omega)] at h
      cases h
  · rw [RS.raw_bad k hf] at h
    exact absurd h hf
theorem RS.num_inv (h0 : 0 ≤ k) (hk : k ≤ 8) (h : (st.num k).2.fault = 0) : st.fault = 0 ∧ k ≤ st.rest.length := by
  rw [RS.num_raw] at h
  have e : st.many k = st := by rw [RS.many, if_neg (by omega)]
  rw [e] at h
  exact RS.raw_inv h0 h
theorem RS.blob_inv (h : (st.blob 300).2.fault = 0) : st.fault = 0 ∧ 2 ≤ st.rest.length ∧ bnum (st.rest.take 2) ≤ 300 ∧ bnum (st.rest.take 2) + 2 ≤ st.rest.length := by
  have key : ∀ a : Int, st.thereB a = false → (st.there a).fault = 0 → 0 ≤ a → False := fun a h1 h2 h3 => by
    unfold RS.there at h2
    by_cases hf : st.fault = 0
    · rw [if_pos hf, if_neg (by omega), if_pos (by simp [RS.thereB, hf] at h1; omega)] at h2
      cases h2
    · rw [if_neg hf] at h2; exact hf h2
  rw [RS.blob] at h
  cases ht : st.thereB 2 with
  | false => rw [ht] at h; exact absurd (key 2 ht h (by decide)) id
  | true =>
    rw [ht, if_pos rfl] at h
    obtain ⟨-, -, a3, a4⟩ := RS.there_of ht
    refine ⟨a4, by omega, ?_⟩
    simp only [if_neg (show ¬ (300 : Int) < 0 by decide)] at h
    by_cases hb : (300 : Int) < bnum (st.rest.take 2)
    · rw [if_pos hb] at h; cases h
    · rw [if_neg hb] at h
      refine ⟨by omega, ?_⟩
      cases ht2 : st.thereB ((bnum (st.rest.take 2) : Int) + 2) with
      | false => rw [ht2] at h; exact absurd (key _ ht2 h (by omega)) id
      | true =>
        have := (RS.there_of ht2).2.2.1
        omega
theorem RS.num_ext (h0 : 0 ≤ k) (hk : k ≤ 8) (h : (st.num k).2.fault = 0) (q : List UInt8) : (⟨st.rest ++ q, 0⟩ : RS).num k = ((st.num k).1, ⟨(st.num k).2.rest ++ q, 0⟩) := by
  obtain ⟨hf, hl⟩ := RS.num_inv h0 hk h
  obtain ⟨l, f⟩ := st
  simp only at hf hl ⊢
  subst hf
  rw [RS.num_go h0 hk hl, RS.num_go h0 hk (by rw [List.length_append]; omega), List.take_append_of_le_length (by omega), List.drop_append_of_le_length (by omega)]
theorem RS.raw_ext (h0 : 0 ≤ k) (h : (st.raw k).2.fault = 0) (q : List UInt8) : (⟨st.rest ++ q, 0⟩ : RS).raw k = ((st.raw k).1, ⟨(st.raw k).2.rest ++ q, 0⟩) := by
  obtain ⟨hf, hl⟩ := RS.raw_inv h0 h
  obtain ⟨l, f⟩ := st
  simp only at hf hl ⊢
  subst hf
  rw [RS.raw_go h0 hl, RS.raw_go h0 (by rw [List.length_append]; omega), List.take_append_of_le_length (by omega), List.drop_append_of_le_length (by omega)]
theorem RS.blob_ext (h : (st.blob 300).2.fault = 0) (q : List UInt8) : (⟨st.rest ++ q, 0⟩ : RS).blob 300 = ((st.blob 300).1, ⟨(st.blob 300).2.rest ++ q, 0⟩) := by
  obtain ⟨hf, hl, hb, hbl⟩ := RS.blob_inv h
  obtain ⟨l, f⟩ := st
  simp only at hf hl hb hbl ⊢
  subst hf
  have ht : (l ++ q).take 2 = l.take 2 := List.take_append_of_le_length hl
  rw [RS.blob_go hl hb hbl, RS.blob_go (by rw [List.length_append]; omega) (by rw [ht]; exact hb) (by rw [ht, List.length_append]; omega), ht, List.drop_append_of_le_length hl, List.take_append_of_le_length (by rw [List.length_drop]; omega), List.drop_append_of_le_length (by rw [List.length_drop]; omega)]
theorem kdN_ext (h : (kdN n st).2.fault = 0) (q : List UInt8) : st.fault = 0 ∧ kdN n ⟨st.rest ++ q, 0⟩ = ((kdN n st).1, ⟨(kdN n st).2.rest ++ q, 0⟩) := by
  have h3 : ((((st.raw 32).2.num 4).2).blob 300).2.fault = 0 := h
  have h2 := (RS.blob_inv h3).1
  have h1 := (RS.num_inv (by decide) (by decide) h2).1
  have hf := (RS.raw_inv (by decide) h1).1
  refine ⟨hf, ?_⟩
  simp only [kdN, RS.raw_ext (k := 32) (by decide) h1 q, RS.num_ext (k := 4) (by decide) (by decide) h2 q, RS.blob_ext h3 q]
theorem takeS_ext {k : UInt8} (h : (takeS k st).2.fault = 0) (q : List UInt8) : st.fault = 0 ∧ takeS k ⟨st.rest ++ q, 0⟩ = ((takeS k st).1, ⟨(takeS k st).2.rest ++ q, 0⟩) := by
  unfold takeS at h ⊢
  by_cases h1 : k = 1
  · simp only [if_pos h1] at h ⊢
    obtain ⟨h8, -⟩ := kdN_ext h q
    have h4 := (RS.num_inv (by decide) (by decide) h8).1
    have hf := (RS.num_inv (by decide) (by decide) h4).1
    refine ⟨hf, ?_⟩
    rw [RS.num_ext (k := 4) (by decide) (by decide) h4 q, RS.num_ext (k := 8) (by decide) (by decide) h8 q]
    exact (kdN_ext h q).2
  simp only [if_neg h1] at h ⊢
  by_cases h2 : k = 2
  · simp only [if_pos h2] at h ⊢
    have h4 := (RS.num_inv (by decide) (by decide) h).1
    have hf := (RS.num_inv (by decide) (by decide) h4).1
    refine ⟨hf, ?_⟩
    rw [RS.num_ext (k := 4) (by decide) (by decide) h4 q, RS.num_ext (k := 8) (by decide) (by decide) h q]
  simp only [if_neg h2] at h ⊢
  by_cases h3 : k = 3
  · simp only [if_pos h3] at h ⊢
    have hf := (RS.num_inv (by decide) (by decide) h).1
    refine ⟨hf, ?_⟩
    rw [RS.num_ext (k := 8) (by decide) (by decide) h q]
  simp only [if_neg h3] at h ⊢
  by_cases h4 : k = 4
  · simp only [if_pos h4] at h ⊢
    exact kdN_ext h q
  simp only [if_neg h4] at h ⊢
  exact ⟨h, trivial⟩
theorem RS.done_inv (h : st.done = 0) : st.fault = 0 ∧ st.rest = [] := by
  unfold RS.done at h
  split at h
  · cases h
  · rename_i hh
    refine ⟨h, ?_⟩
    rw [← List.length_eq_zero_iff]
    omega
theorem takeN_inv (h : (takeN l).2 = 0) : (takeS (kN l).1 (kN l).2).2.fault = 0 ∧ (takeS (kN l).1 (kN l).2).2.rest = [] ∧ rightN (takeS (kN l).1 (kN l).2).1 = true ∧ takeN l = ((takeS (kN l).1 (kN l).2).1, 0) := by
  unfold takeN fin at h ⊢
  split at h
  · rename_i hh
    obtain ⟨h1, h2⟩ := RS.done_inv hh.1
    rw [if_pos hh]
    exact ⟨h1, h2, hh.2, rfl⟩
  · cases h
theorem takeN_none (h : (takeN l).2 ≠ 0) : takeN l = (nz, 100) := by
  unfold takeN fin at h ⊢
  split at h
  · exact absurd rfl h
  · rename_i hh
    rw [if_neg hh]
/-- With something behind it, nothing is taken. -/
theorem takeN_more (h : (takeN l).2 = 0) (hq : q ≠ []) : takeN (l ++ q) = (nz, 100) := by
  obtain ⟨h1, h2, h3, h4⟩ := takeN_inv h
  obtain ⟨hf, he⟩ := takeS_ext h1 q
  have hk : kN (l ++ q) = ((kN l).1, ⟨(kN l).2.rest ++ q, 0⟩) := by
    have := RS.num_ext (st := ⟨l, 0⟩) (k := 1) (by decide) (by decide) hf q
    simp only [kN, this]
  unfold takeN
  rw [hk, he, fin, if_neg]
  intro ⟨hd, _⟩
  have := (RS.done_inv hd).2
  rw [h2] at this
  exact hq (by simpa using this)
theorem kN_go {k : UInt8} : kN (k :: l) = (k, ⟨l, 0⟩) := by
  unfold kN
  rw [RS.num_go (by decide) (by decide) (by simp; omega)]
  show (byteOf ((bnum [k] : Nat) : Int), (⟨l, 0⟩ : RS)) = _
  rw [bnum, bnum]
  congr 1
  have := k.toNat_lt
  apply UInt8.toNat.inj
  have := byteOf_nat ((k.toNat + 256 * 0 : Nat) : Int)
  omega
theorem num_app {a : Int} {k : Nat} {i : Int} (hi : i = (k : Int)) (hk : k ≤ 8) (ha : 0 ≤ a ∧ a < 256 ^ k) : (⟨le a k ++ r, 0⟩ : RS).num i = (a.toNat, ⟨r, 0⟩) := by
  subst hi
  rw [RS.num_go (by omega) (by omega) (by simp [le_length]; omega), Int.toNat_natCast, List.take_left' (le_length a k), List.drop_left' (le_length a k)]
  congr 1
  have := bnum_le k a ha.1
  rw [Int.emod_eq_of_lt ha.1 ha.2] at this
  omega
theorem raw_app {s : List UInt8} {i : Int} (hi : i = (s.length : Int)) : (⟨s ++ r, 0⟩ : RS).raw i = (s, ⟨r, 0⟩) := by
  subst hi
  rw [RS.raw_go (by omega) (by simp; omega), Int.toNat_natCast, List.take_left, List.drop_left]
theorem blob_app {d : List UInt8} (hd : d.length ≤ 300) : (⟨le d.length 2 ++ d, 0⟩ : RS).blob 300 = (d, ⟨[], 0⟩) := by
  have hb : bnum ((le (d.length : Int) 2 ++ d).take 2) = d.length := by
    rw [List.take_left' (le_length _ _)]
    have := bnum_le 2 (d.length : Int) (by omega)
    rw [Int.emod_eq_of_lt (by omega) (by omega)] at this
    omega
  rw [RS.blob_go (by simp [le_length]) (by omega) (by rw [hb, List.length_append, le_length]; omega), hb, List.drop_left' (le_length _ _), List.take_length, List.drop_length]
theorem kdN_app {k : UInt8} {a b c : Int} {s d z : List UInt8} (hs : s.length = 32) (hz : z.length = 32) (hc : 0 ≤ c ∧ c < 4294967296) (hd : d.length ≤ 300) :
    kdN ⟨k, a, b, z, 0, []⟩ ⟨s ++ (le c 4 ++ (le d.length 2 ++ d)), 0⟩ = (⟨k, a, b, s, c, d⟩, ⟨[], 0⟩) := by
  simp only [kdN, raw_app (s := s) (i := 32) (by omega), num_app (k := 4) (i := 4) (r := le d.length 2 ++ d) (a := c) rfl (by decide) (by omega), blob_app hd, hs]
  rw [List.drop_eq_nil_of_le (by omega), List.append_nil, Int.toNat_of_nonneg hc.1]
theorem kz_of (h : kz n = true) : n.sum = nz.sum ∧ n.kn = 0 := by
  simp only [kz, Bool.and_eq_true, beq_iff_eq] at h
  exact h
/-- What was laid is taken. -/
theorem takeN_lay (hn : n.Ok) (h : rightN n = true) : takeN (layB n) = (n, 0) := by
  have hd := rightN_len h
  obtain ⟨kind, addr, seq, sum, kn, data⟩ := n
  obtain ⟨ha, hs, hsum, hkn⟩ := hn
  simp only at ha hs hsum hkn hd
  have key : ∀ st : RS, (∃ r, layB ⟨kind, addr, seq, sum, kn, data⟩ = kind :: r ∧ takeS kind ⟨r, 0⟩ = (⟨kind, addr, seq, sum, kn, data⟩, ⟨[], 0⟩)) → takeN (layB ⟨kind, addr, seq, sum, kn, data⟩) = (⟨kind, addr, seq, sum, kn, data⟩, 0) := fun _ ⟨r, h1, h2⟩ => by
    unfold takeN
    rw [h1, kN_go, h2, fin, if_pos ⟨by simp [RS.done], h⟩]
  unfold rightN at h
  rw [if_neg (by show ¬ 300 < data.length; omega)] at h
  simp only at h
  by_cases h1 : kind = 1
  · subst h1
    refine key ⟨[], 0⟩ ⟨le addr 4 ++ (le seq 8 ++ (sum ++ (le kn 4 ++ (le data.length 2 ++ data)))), by simp [layB], ?_⟩
    simp only [takeS, if_true]
    rw [num_app (k := 4) (i := 4) (a := addr) rfl (by decide) (by omega), num_app (k := 8) (i := 8) (a := seq) rfl (by decide) (by omega)]
    simp only
    rw [kdN_app hsum nz_ok.sum hkn hd, Int.toNat_of_nonneg ha.1, Int.toNat_of_nonneg hs.1]
  rw [if_neg h1] at h
  by_cases h2 : kind = 2
  · subst h2
    simp only [if_true, Bool.and_eq_true, decide_eq_true_eq] at h
    obtain ⟨e1, e2⟩ := kz_of h.1
    simp only at e1 e2
    have e3 : data = [] := List.length_eq_zero_iff.1 h.2
    subst e1 e2 e3
    refine key ⟨[], 0⟩ ⟨le addr 4 ++ (le seq 8 ++ []), by simp [layB], ?_⟩
    simp only [takeS, if_true, if_false, show ¬ (2 : UInt8) = 1 from by decide]
    rw [num_app (k := 4) (i := 4) (a := addr) rfl (by decide) (by omega), num_app (k := 8) (i := 8) (a := seq) rfl (by decide) (by omega), Int.toNat_of_nonneg ha.1, Int.toNat_of_nonneg hs.1]
  rw [if_neg h2] at h
  by_cases h3 : kind = 3
  · subst h3
    simp only [if_true, Bool.and_eq_true, decide_eq_true_eq] at h
    obtain ⟨e0, e4, e5⟩ := h
    obtain ⟨e1, e2⟩ := kz_of e4
    simp only at e1 e2
    have e3 : data = [] := List.length_eq_zero_iff.1 e5
    subst e0 e1 e2 e3
    refine key ⟨[], 0⟩ ⟨le seq 8 ++ [], by simp [layB], ?_⟩
    simp only [takeS, if_true, if_false, show ¬ (3 : UInt8) = 1 from by decide, show ¬ (3 : UInt8) = 2 from by decide]
    rw [num_app (k := 8) (i := 8) (a := seq) rfl (by decide) (by omega), Int.toNat_of_nonneg hs.1]
  rw [if_neg h3] at h
  by_cases h4 : kind = 4
  · subst h4
    simp only [if_true, Bool.and_eq_true, decide_eq_true_eq] at h
    obtain ⟨e0, e1, e2⟩ := h
    subst e0 e1
    refine key ⟨[], 0⟩ ⟨sum ++ (le kn 4 ++ (le data.length 2 ++ data)), by simp [layB], ?_⟩
    simp only [takeS, if_true, if_false, show ¬ (4 : UInt8) = 1 from by decide, show ¬ (4 : UInt8) = 2 from by decide, show ¬ (4 : UInt8) = 3 from by decide]
    rw [kdN_app hsum nz_ok.sum hkn hd]
  · rw [if_neg h4] at h; cases h
theorem le_take {k : Nat} (h : k ≤ l.length) : le (bnum (l.take k) : Int) k = l.take k := by
  have := le_bnum (l.take k)
  rwa [List.length_take, Nat.min_eq_left h] at this
/-- The bytes of a key and data that were taken. -/
theorem kdN_lay (h : (kdN n st).2.fault = 0) (hr : (kdN n st).2.rest = []) (hz : n.sum.length = 32) : st.fault = 0 ∧ (kdN n st).1.sum ++ (le (kdN n st).1.kn 4 ++ (le (kdN n st).1.data.length 2 ++ (kdN n st).1.data)) = st.rest := by
  have h3 : ((((st.raw 32).2.num 4).2).blob 300).2.fault = 0 := h
  obtain ⟨h2, b1, b2, b3⟩ := RS.blob_inv h3
  obtain ⟨h1, n1⟩ := RS.num_inv (by decide) (by decide) h2
  obtain ⟨hf, r1⟩ := RS.raw_inv (by decide) h1
  refine ⟨hf, ?_⟩
  obtain ⟨l, f⟩ := st
  simp only at hf r1
  subst hf
  unfold kdN at hr ⊢
  simp only [RS.raw_go (l := l) (k := 32) (by decide) r1] at n1 b1 b2 b3 hr ⊢
  rw [show (32 : Int).toNat = 32 from rfl] at *
  simp only [RS.num_go (l := l.drop 32) (k := 4) (by decide) (by decide) n1] at b1 b2 b3 hr ⊢
  rw [show (4 : Int).toNat = 4 from rfl] at *
  simp only [RS.blob_go b1 b2 b3] at hr ⊢
  have hl32 : 32 ≤ l.length := by omega
  have hl4 : 4 ≤ (l.drop 32).length := by omega
  generalize hd : (l.drop 32).drop 4 = d at *
  have hdt : (d.drop 2).take (bnum (d.take 2)) = d.drop 2 := by
    rw [List.drop_eq_nil_iff] at hr
    exact List.take_of_length_le hr
  have hdl : (d.drop 2).length = bnum (d.take 2) := by
    have := congrArg List.length hdt
    rw [List.length_take] at this
    have := List.length_drop (i := 2) (l := d)
    omega
  rw [hdt, hdl, le_take b1, List.take_append_drop, le_take hl4, ← hd, List.take_append_drop, List.length_take, Nat.min_eq_left hl32, List.drop_eq_nil_of_le (by omega), List.append_nil, List.take_append_drop]
theorem layB_1 (h : n.kind = 1) : layB n = 1 :: (le n.addr 4 ++ (le n.seq 8 ++ (n.sum ++ (le n.kn 4 ++ (le n.data.length 2 ++ n.data))))) := by simp [layB, h]
theorem layB_4 (h : n.kind = 4) : layB n = 4 :: (n.sum ++ (le n.kn 4 ++ (le n.data.length 2 ++ n.data))) := by simp [layB, h]
theorem num_lay {i : Int} {k : Nat} (hi : i = (k : Int)) (hk : k ≤ 8) (h : (st.num i).2.fault = 0) : st.fault = 0 ∧ le ((st.num i).1 : Int) k ++ (st.num i).2.rest = st.rest := by
  subst hi
  obtain ⟨hf, hl⟩ := RS.num_inv (by omega) (by omega) h
  refine ⟨hf, ?_⟩
  obtain ⟨l, f⟩ := st
  simp only at hf hl
  subst hf
  rw [RS.num_go (by omega) (by omega) hl, Int.toNat_natCast]
  show le (bnum (l.take k) : Int) k ++ l.drop k = l
  rw [le_take (by omega), List.take_append_drop]
/-- What was taken is laid so. -/
theorem layB_take (h : (takeN l).2 = 0) : rightN (takeN l).1 = true ∧ layB (takeN l).1 = l := by
  obtain ⟨h1, h2, h3, h4⟩ := takeN_inv h
  rw [h4]
  refine ⟨h3, ?_⟩
  have hk := takeS_ext h1 []
  have hl : 1 ≤ l.length ∧ l = (kN l).1 :: (kN l).2.rest := by
    have := RS.num_inv (st := ⟨l, 0⟩) (k := 1) (by decide) (by decide) hk.1
    match l, this with
    | [], h => exact absurd h.2 (by decide)
    | a :: l, h => exact ⟨by simp, by rw [kN_go]⟩
  have hf := hk.1
  rw [show layB (takeS (kN l).1 (kN l).2).1 = l ↔ layB (takeS (kN l).1 (kN l).2).1 = (kN l).1 :: (kN l).2.rest from by rw [← hl.2]]
  generalize (kN l).1 = k at *
  generalize (kN l).2 = st at *
  clear h h4 hl hk hf
  unfold takeS at h1 h2 h3 ⊢
  by_cases e1 : k = 1
  · subst e1
    simp only [if_true] at h1 h2 h3 ⊢
    obtain ⟨h8, hkd⟩ := kdN_lay h1 h2 nz_ok.sum
    obtain ⟨h4, l8⟩ := num_lay (k := 8) (i := 8) rfl (by decide) h8
    obtain ⟨-, l4⟩ := num_lay (k := 4) (i := 4) rfl (by decide) h4
    rw [layB_1 rfl, hkd]
    show 1 :: (le ((st.num 4).1 : Int) 4 ++ (le (((st.num 4).2.num 8).1 : Int) 8 ++ _)) = _
    rw [l8, l4]
  simp only [if_neg e1] at h1 h2 h3 ⊢
  by_cases e2 : k = 2
  · subst e2
    simp only [if_true] at h1 h2 h3 ⊢
    obtain ⟨h4, l8⟩ := num_lay (k := 8) (i := 8) rfl (by decide) h1
    obtain ⟨-, l4⟩ := num_lay (k := 4) (i := 4) rfl (by decide) h4
    rw [h2, List.append_nil] at l8
    rw [← l4, ← l8]
    simp [layB]
  simp only [if_neg e2] at h1 h2 h3 ⊢
  by_cases e3 : k = 3
  · subst e3
    simp only [if_true] at h1 h2 h3 ⊢
    obtain ⟨-, l8⟩ := num_lay (k := 8) (i := 8) rfl (by decide) h1
    rw [h2, List.append_nil] at l8
    rw [← l8]
    simp [layB]
  simp only [if_neg e3] at h1 h2 h3 ⊢
  by_cases e4 : k = 4
  · subst e4
    simp only [if_true] at h1 h2 h3 ⊢
    obtain ⟨-, hkd⟩ := kdN_lay h1 h2 nz_ok.sum
    rw [layB_4 rfl, hkd]
  simp only [if_neg e4] at h1 h2 h3 ⊢
  rcases rightN_kind h3 with e | e | e | e
  · exact absurd e e1
  · exact absurd e e2
  · exact absurd e e3
  · exact absurd e e4
theorem takeN_cut {c : Nat} (hn : n.Ok) (h : rightN n = true) (hc : c < (layB n).length) : takeN ((layB n).take c) = (nz, 100) := by
  by_cases h0 : (takeN ((layB n).take c)).2 = 0
  · have := takeN_more h0 (q := (layB n).drop c) (by intro e; rw [List.drop_eq_nil_iff] at e; omega)
    rw [List.take_append_drop, takeN_lay hn h] at this
    cases this
  · exact takeN_none h0
theorem takeN_behind (hn : n.Ok) (h : rightN n = true) : takeN (layB n ++ q) = if q = [] then (n, 0) else (nz, 100) := by
  have hl := takeN_lay hn h
  split
  · rename_i e
    rw [e, List.append_nil, hl]
  · rename_i e
    exact takeN_more (by rw [hl]) e
end
end Go.Proofs.Ytkbegghcphokmaa
