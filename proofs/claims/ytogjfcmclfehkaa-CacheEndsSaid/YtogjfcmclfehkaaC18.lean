import Derived.Test.YtogjfcmclfehkaaCA
import Derived.Test.YtogjfcmclfehkaaPPd
import Derived.Laws.Bits64
namespace Go.Proofs.Ytogjfcmclfehkaa
open Go Go.RowKit Go.Proofs.MapL PPM Go.Proofs.YtogjfcmclfehkaaW.PrintWords Go.Proofs.YtogjfcmclfehkaaW.PrintMore

/-! The document's hash is the program's. -/
theorem wrap_u32 (n : Int) : IntKind.u32.wrap n = n % 4294967296 := by simp [IntKind.wrap, IntKind.bits, IntKind.signed]
theorem bits_xor_u32_nat (a b : Nat) (ha : a < 4294967296) (hb : b < 4294967296) : Go.bits .xor .u32 (a : Int) (b : Int) = ((a ^^^ b : Nat) : Int) := by
  have hx : a ^^^ b < 2 ^ 32 := Nat.xor_lt_two_pow (by omega) (by omega)
  have h1 : (BitVec.ofInt 32 (a : Int)).toNat = a := by
    rw [BitVec.ofInt_natCast, BitVec.toNat_ofNat]; exact Nat.mod_eq_of_lt (by omega)
  have h2 : (BitVec.ofInt 32 (b : Int)).toNat = b := by
    rw [BitVec.ofInt_natCast, BitVec.toNat_ofNat]; exact Nat.mod_eq_of_lt (by omega)
  show IntKind.u32.wrap ((BitVec.ofInt 32 (a : Int) ^^^ BitVec.ofInt 32 (b : Int)).toNat : Int) = _
  rw [BitVec.toNat_xor, h1, h2, wrap_u32]
  omega
theorem put16_eq (k : Nat) (hk : 3 ≤ k) (a : Int) (h0 : 0 ≤ a) (h1 : a < 65536) : octet_Put16.f k a = derrickref01_Put16.f a := by
  obtain ⟨k, rfl⟩ : ∃ m, k = m + 3 := ⟨k - 3, by omega⟩
  have a1 : wrap64 (0 + 1) = 1 := by unfold wrap64; omega
  have a2 : wrap64 (1 + 1) = 2 := by unfold wrap64; omega
  have a3 : wrap64 (8 * 0) = 0 := by unfold wrap64; omega
  have a4 : wrap64 (8 * 1) = 8 := by unfold wrap64; omega
  have a5 : wrap64 (2 - 1) = 1 := by unfold wrap64; omega
  have a6 : wrap64 (1 - 0) = 1 := by unfold wrap64; omega
  have a7 : wrap64 (1 - 1) = 0 := by unfold wrap64; omega
  have m1 : a % 4294967296 = a := by omega
  have s8 : shr .u32 a 8 = a / 256 := by unfold shr; rfl
  have s0 : shr .u32 a 0 = a := by
    unfold shr
    show a / 1 = a
    omega
  have d1 : Int.tdiv a 256 = a / 256 := Int.tdiv_eq_ediv_of_nonneg h0
  have d2 : Int.tmod a 256 = a % 256 := Int.tmod_eq_emod_of_nonneg h0
  have d3 : IntKind.u16.wrap (a / 256) = a / 256 := by
    have : IntKind.u16.wrap (a / 256) = (a / 256) % 65536 := by simp [IntKind.wrap, IntKind.bits, IntKind.signed]
    rw [this]; omega
  have d4 : a % 256 % 256 = a % 256 := by omega
  unfold octet_Put16.f octet_bytes.f derrickref01_Put16.f
  simp only [octet_bytes.l0, a1, a2, a3, a4, a5, a6, a7, m1, s8, s0, d1, d2, d3, d4]
  simp [List.replicate]
theorem of_eq (s : ByteArray) : ∀ (k i x r : Nat), x < 4294967296 → i ≤ s.size → s.size < 9223372036854775807 → hash_Of.l0 k s (x : Int) (s.size : Int) (i : Int) = some (r : Int) → derrickref09_Of.l0 k s (x : Int) (i : Int) = some (r : Int) := by
  intro k
  induction k with
  | zero => intro i x r _ _ _ h; simp [hash_Of.l0] at h
  | succ k ih =>
    intro i x r hx hi hs h
    simp only [hash_Of.l0] at h
    simp only [derrickref09_Of.l0]
    by_cases hil : (i : Int) < (s.size : Int)
    · rw [if_pos hil, if_pos (by omega), if_pos hil, w64n (by omega)] at h
      rw [if_pos hil, if_pos (by omega), w64n (by omega)]
      obtain ⟨b, hb⟩ : ∃ b : Nat, bt s i = b := Int.eq_ofNat_of_zero_le (bt_range s i).1
      have hb255 := (bt_range s i).2
      rw [hb] at h hb255 ⊢
      have e1 : (b : Int) % 4294967296 = b := by omega
      have e2 : IntKind.u64.wrap (b : Int) = b := by rw [IntKind.wrap_u64]; omega
      rw [e1, bits_xor_u32_nat x b hx (by omega)] at h
      rw [e2, bits_xor_u64_nat x b (by omega) (by omega)]
      have hv : x ^^^ b < 2 ^ 32 := Nat.xor_lt_two_pow (by omega) (by omega)
      generalize x ^^^ b = v at h hv ⊢
      have e3 : ((v : Int) * 16777619) % 4294967296 = ((v * 16777619 % 4294967296 : Nat) : Int) := by omega
      have e4 : Int.tmod (IntKind.u64.wrap ((v : Int) * 16777619)) 4294967296 = ((v * 16777619 % 4294967296 : Nat) : Int) := by
        rw [IntKind.wrap_u64, Int.tmod_eq_emod_of_nonneg (by omega)]
        omega
      rw [e3] at h
      rw [e4]
      exact ih (i + 1) _ r (Nat.mod_lt _ (by omega)) (by omega) hs h
    · rw [if_neg hil] at h ⊢
      rw [← h]
      congr 1
      omega
theorem of_lt (s : ByteArray) : ∀ (k i x r : Nat), x < 4294967296 → derrickref09_Of.l0 k s (x : Int) (i : Int) = some (r : Int) → r < 4294967296 := by
  intro k
  induction k with
  | zero => intro i x r _ h; simp [derrickref09_Of.l0] at h
  | succ k ih =>
    intro i x r hx h
    simp only [derrickref09_Of.l0] at h
    split at h
    · split at h
      · obtain ⟨v, hv⟩ : ∃ v : Nat, Int.tmod (IntKind.u64.wrap ((Go.bits .xor .u64 (x : Int) (IntKind.u64.wrap (bt s i))) * 16777619)) 4294967296 = v := Int.eq_ofNat_of_zero_le (Int.tmod_nonneg _ (by rw [IntKind.wrap_u64]; omega))
        have hv2 : v < 4294967296 := by
          have := Int.tmod_lt_of_pos (IntKind.u64.wrap ((Go.bits .xor .u64 (x : Int) (IntKind.u64.wrap (bt s i))) * 16777619)) (show (0 : Int) < 4294967296 by omega)
          omega
        rw [hv] at h
        by_cases hi : 0 ≤ wrap64 ((i : Int) + 1)
        · obtain ⟨j, hj⟩ := Int.eq_ofNat_of_zero_le hi
          rw [hj] at h
          exact ih j v r hv2 h
        · cases k with
          | zero => simp [derrickref09_Of.l0] at h
          | succ k =>
            simp only [derrickref09_Of.l0] at h
            split at h
            · first | (rw [if_neg hi] at h; cases h) | cases h
            · simp only [Option.some.injEq] at h; omega
      · cases h
    · simp only [Option.some.injEq] at h
      omega
theorem ref_shard (q : Qn) (hq : q.name.size ≤ 1000000000000000) (n : Nat) (h1 : 1 ≤ n) (h2 : n ≤ 16) : derrickref09_Shard.f (q.name.size + 101) q.name q.ty q.cl n = some (hashK q n : Int) := by
  obtain ⟨b1, e1, z1⟩ := put16_some (q.name.size + 100) (by omega) q.ty
  obtain ⟨b2, e2, z2⟩ := put16_some (q.name.size + 100) (by omega) q.cl
  have e1' : derrickref01_Put16.f q.ty = some b1 := by rw [← put16_eq (q.name.size + 100) (by omega) q.ty q.ok.2.1.1 q.ok.2.1.2]; exact e1
  have e2' : derrickref01_Put16.f q.cl = some b2 := by rw [← put16_eq (q.name.size + 100) (by omega) q.cl q.ok.2.2.1 q.ok.2.2.2]; exact e2
  have hk : hash_Key.f (q.name.size + 100) q.name q.ty q.cl = some (q.name ++ b1 ++ b2) := by
    unfold hash_Key.f
    rw [e1, e2]
    simp only [Option.bind_some]
    rw [if_pos (by omega), if_pos (by rw [ByteArray.size_append]; omega)]
  have hk' : derrickref09_Key.f q.name q.ty q.cl = some (q.name ++ b1 ++ b2) := by
    unfold derrickref09_Key.f
    rw [e1', e2']
    simp only [Option.bind_some]
    rw [if_pos (by omega), if_pos (by rw [ByteArray.size_append]; omega)]
  have hz : (q.name ++ b1 ++ b2).size = q.name.size + 4 := by rw [ByteArray.size_append, ByteArray.size_append]; omega
  obtain ⟨r, hr, h0⟩ := of_l (q.name ++ b1 ++ b2) (by omega) (q.name.size + 4) 0 (q.name.size + 100) 2166136261 (by omega) (by omega) (by omega) (by decide)
  obtain ⟨r, rfl⟩ := Int.eq_ofNat_of_zero_le h0
  have ho : hash_Of.f (q.name.size + 100) (q.name ++ b1 ++ b2) = some (r : Int) := hr
  have hr' : derrickref09_Of.l0 (q.name.size + 100) (q.name ++ b1 ++ b2) ((2166136261 : Nat) : Int) ((0 : Nat) : Int) = some (r : Int) := of_eq _ _ 0 2166136261 r (by omega) (by omega) (by omega) hr
  have ho' : derrickref09_Of.f (q.name.size + 100) (q.name ++ b1 ++ b2) = some (r : Int) := hr'
  have hlt : r < 4294967296 := of_lt _ _ 0 2166136261 r (by omega) hr'
  have hs : hash_shards.f (n : Int) = some true := by unfold hash_shards.f; rw [if_pos (by omega), decide_eq_true (by omega)]
  have hm : (n : Int) % 4294967296 = n := by omega
  have h5 := Int.tmod_nonneg (n : Int) h0
  have h6 := Int.tmod_lt_of_pos (r : Int) (show (0 : Int) < n by omega)
  have h7 : wrap64 ((r : Int).tmod n) = (((r : Int).tmod n).toNat : Int) := by unfold wrap64; omega
  have hS : hash_Shard.f (q.name.size + 100) q.name q.ty q.cl n = some ((((r : Int).tmod n).toNat : Nat) : Int) := by
    unfold hash_Shard.f
    rw [hs]
    simp only [Option.bind_some, if_true, hk, ho, hm]
    rw [if_neg (by omega), h7]
  have hK : hashK q n = ((r : Int).tmod n).toNat := by unfold hashK; rw [hS, Option.getD_some, Int.toNat_natCast]
  have w1 : IntKind.u64.wrap (n : Int) = n := by rw [IntKind.wrap_u64]; omega
  have w2 : IntKind.u64.wrap (r : Int) = r := by rw [IntKind.wrap_u64]; omega
  rw [hK]
  unfold derrickref09_Shard.f
  rw [if_neg (by omega), decide_eq_false (by omega)]
  simp only [derrickref09_Shard.j0, Bool.false_eq_true, if_false, hk', ho', Option.bind_some, w1, w2]
  rw [if_neg (by omega), h7]
theorem ref_calls (q : Qn) (hq : q.name.size ≤ 1000000000000000) (n : Nat) (h1 : 1 ≤ n) (h2 : n ≤ 16) (w : World) :
    Calls Try.prog 16 #[q.v, .int .i64 n] w fun r w' => r = .returned (.int .i64 (hashK q n)) ∧ Fr [] w w' :=
  (derrickref09_Shard.calls _ q.name q.ty q.cl n _ w (ref_shard q hq n h1 h2)).mono fun _ _ h => ⟨h.1, fr_below h.2⟩
end Go.Proofs.Ytogjfcmclfehkaa
