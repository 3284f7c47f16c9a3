/- Part of the proof. -/
import Derived.Test.YtdgfgadmcahnlaaDoorTO
set_option linter.unusedSimpArgs false
set_option linter.unusedVariables false
set_option maxHeartbeats 4000000
namespace Go.Ab
open Go Go.Ab Go.Proofs

/-! ### characters there and back: plain -/
theorem bt_app {X Z : ByteArray} {j : Nat} (h : j < Z.size) : bt (X ++ Z) (X.size + j) = bt Z j := by
  have h1 : X.size + j < (X ++ Z).size := by rw [ByteArray.size_append]; omega
  have e1 := bt_get h1
  have e2 := bt_get h
  rw [getElem?_pos (X ++ Z) _ h1] at e1
  rw [getElem?_pos Z _ h] at e2
  injection e1 with e1; injection e2 with e2
  unfold bt
  rw [← e1, ← e2, ByteArray.getElem_append_right (by omega)]
  congr 2; omega
theorem bt_appL {X Z : ByteArray} {j : Nat} (h : j < X.size) : bt (X ++ Z) j = bt X j := by
  have h1 : j < (X ++ Z).size := by rw [ByteArray.size_append]; omega
  have e1 := bt_get h1
  have e2 := bt_get h
  rw [getElem?_pos (X ++ Z) _ h1] at e1
  rw [getElem?_pos X _ h] at e2
  injection e1 with e1; injection e2 with e2
  unfold bt
  rw [← e1, ← e2, ByteArray.getElem_append_left h]
theorem bt_in {X E Y : ByteArray} {j : Nat} (h : j < E.size) : bt (X ++ E ++ Y) (X.size + j) = bt E j := by
  rw [bt_appL (by rw [ByteArray.size_append]; omega), bt_app h]
theorem u8n {n : Nat} (h : n < 256) : (UInt8.ofNat n).toNat = n := by
  rw [UInt8.toNat_ofNat']; exact Nat.mod_eq_of_lt h
theorem enc_e {c : Nat} (hv : Utf8.valid c = true) : Utf8.encode c = if c < 0x80 then ⟨#[UInt8.ofNat c]⟩
  else if c < 0x800 then ⟨#[UInt8.ofNat (0xC0 + c / 64), UInt8.ofNat (0x80 + c % 64)]⟩
  else if c < 0x10000 then ⟨#[UInt8.ofNat (0xE0 + c / 4096), UInt8.ofNat (0x80 + c / 64 % 64), UInt8.ofNat (0x80 + c % 64)]⟩
  else ⟨#[UInt8.ofNat (0xF0 + c / 262144), UInt8.ofNat (0x80 + c / 4096 % 64), UInt8.ofNat (0x80 + c / 64 % 64), UInt8.ofNat (0x80 + c % 64)]⟩ := by
  unfold Utf8.encode
  rw [if_pos hv]
  rfl
theorem enc_at {c : Nat} (hv : Utf8.valid c = true) (X Y : ByteArray) : wd (X ++ Utf8.encode c ++ Y) X.size = (Utf8.encode c).size ∧ Utf8.decode (X ++ Utf8.encode c ++ Y) X.size = (c, (Utf8.encode c).size) ∧ 0 < (Utf8.encode c).size := by
  have hv' := (val_iff c).1 hv
  have key : ∀ E : ByteArray, E = Utf8.encode c → wd (X ++ E ++ Y) X.size = E.size ∧ Utf8.decode (X ++ E ++ Y) X.size = (c, E.size) ∧ 0 < E.size := by
    intro E hE
    have hz : (X ++ E ++ Y).size = X.size + E.size + Y.size := by rw [ByteArray.size_append, ByteArray.size_append]
    have hd : ∀ w, wd (X ++ E ++ Y) X.size = w → 0 < w → cd (X ++ E ++ Y) X.size w = c → E.size = w → wd (X ++ E ++ Y) X.size = E.size ∧ Utf8.decode (X ++ E ++ Y) X.size = (c, E.size) ∧ 0 < E.size := by
      intro w h1 h2 h3 h4
      refine ⟨by omega, ?_, by omega⟩
      rcases wd_dec (s := X ++ E ++ Y) (i := X.size) (by omega) with ⟨e, _⟩ | ⟨_, e, _⟩
      · omega
      · rw [e, h1, h3, h4]
    rw [enc_e hv] at hE
    have g := fun j (h : j < E.size) => bt_in (X := X) (Y := Y) h
    by_cases c1 : c < 0x80
    · rw [if_pos c1] at hE
      have hs : E.size = 1 := by rw [hE]; rfl
      have b0 : bt (X ++ E ++ Y) X.size = c := by rw [show X.size = X.size + 0 from rfl, g 0 (by omega), hE]; exact u8n (by omega)
      refine hd 1 ?_ (by decide) b0 hs
      unfold wd
      rw [if_neg (by omega), if_pos (by omega)]
    rw [if_neg c1] at hE
    by_cases c2 : c < 0x800
    · rw [if_pos c2] at hE
      have hs : E.size = 2 := by rw [hE]; rfl
      have b0 : bt (X ++ E ++ Y) X.size = 0xC0 + c / 64 := by rw [show X.size = X.size + 0 from rfl, g 0 (by omega), hE]; exact u8n (by omega)
      have b1 : bt (X ++ E ++ Y) (X.size + 1) = 0x80 + c % 64 := by rw [g 1 (by omega), hE]; exact u8n (by omega)
      refine hd 2 ?_ (by decide) (by simp only [cd, b0, b1]; omega) hs
      unfold wd
      rw [if_neg (by omega), if_neg (by omega), if_pos (by omega), if_neg (by omega)]
    rw [if_neg c2] at hE
    by_cases c3 : c < 0x10000
    · rw [if_pos c3] at hE
      have hs : E.size = 3 := by rw [hE]; rfl
      have b0 : bt (X ++ E ++ Y) X.size = 0xE0 + c / 4096 := by rw [show X.size = X.size + 0 from rfl, g 0 (by omega), hE]; exact u8n (by omega)
      have b1 : bt (X ++ E ++ Y) (X.size + 1) = 0x80 + c / 64 % 64 := by rw [g 1 (by omega), hE]; exact u8n (by omega)
      have b2 : bt (X ++ E ++ Y) (X.size + 2) = 0x80 + c % 64 := by rw [g 2 (by omega), hE]; exact u8n (by omega)
      refine hd 3 ?_ (by decide) (by simp only [cd, b0, b1, b2]; omega) hs
      unfold wd
      rw [if_neg (by omega), if_neg (by omega), if_neg (by omega), if_pos (by omega), if_neg]
      generalize hlo : (if bt (X ++ E ++ Y) X.size = 0xE0 then 0xA0 else 0x80) = lo
      generalize hhi : (if bt (X ++ E ++ Y) X.size = 0xED then 0x9F else 0xBF) = hi
      split at hlo <;> split at hhi <;> omega
    rw [if_neg c3] at hE
    have hs : E.size = 4 := by rw [hE]; rfl
    have b0 : bt (X ++ E ++ Y) X.size = 0xF0 + c / 262144 := by rw [show X.size = X.size + 0 from rfl, g 0 (by omega), hE]; exact u8n (by omega)
    have b1 : bt (X ++ E ++ Y) (X.size + 1) = 0x80 + c / 4096 % 64 := by rw [g 1 (by omega), hE]; exact u8n (by omega)
    have b2 : bt (X ++ E ++ Y) (X.size + 2) = 0x80 + c / 64 % 64 := by rw [g 2 (by omega), hE]; exact u8n (by omega)
    have b3 : bt (X ++ E ++ Y) (X.size + 3) = 0x80 + c % 64 := by rw [g 3 (by omega), hE]; exact u8n (by omega)
    refine hd 4 ?_ (by decide) (by simp only [cd, b0, b1, b2, b3]; omega) hs
    unfold wd
    rw [if_neg (by omega), if_neg (by omega), if_neg (by omega), if_neg (by omega), if_pos (by omega), if_neg]
    generalize hlo : (if bt (X ++ E ++ Y) X.size = 0xF0 then 0x90 else 0x80) = lo
    generalize hhi : (if bt (X ++ E ++ Y) X.size = 0xF4 then 0x8F else 0xBF) = hi
    split at hlo <;> split at hhi <;> omega
  exact key _ rfl
theorem encS_cons (l : List Int) : ∀ X : ByteArray, l.foldl (fun s c => s ++ Utf8.encode c) X = X ++ encS l := by
  induction l with
  | nil => intro X; simp [encS]
  | cons a r ih =>
    intro X
    simp only [encS, List.foldl_cons]
    rw [ih, ih (_ ++ _)]
    simp [ByteArray.append_assoc]
theorem encS_app (a b : List Int) : encS (a ++ b) = encS a ++ encS b := by
  unfold encS
  rw [List.foldl_append]
  exact encS_cons b _
theorem encS_one (c : Int) : encS [c] = Utf8.encode c := by simp [encS]
theorem encS_split (l : List Int) (k : Nat) (h : k < l.length) : encS l = encS (l.take k) ++ Utf8.encode l[k] ++ encS (l.drop (k + 1)) := by
  have : l = l.take k ++ [l[k]] ++ l.drop (k + 1) := by simp
  conv => lhs; rw [this, encS_app, encS_app, encS_one]
theorem encS_pz {l : List Int} (hv : ∀ c ∈ l, Utf8.valid c = true) : ∀ k, k ≤ l.length → pz (encS l) k = (encS (l.take k)).size
  | 0, _ => by simp [pz, encS]
  | k + 1, h => by
    have ih := encS_pz hv k (by omega)
    have hk : k < l.length := by omega
    have hvk := hv l[k] (List.getElem_mem hk)
    obtain ⟨n, hn⟩ : ∃ n : Nat, l[k] = n := ⟨l[k].toNat, by simp [Utf8.valid] at hvk; omega⟩
    rw [hn] at hvk
    obtain ⟨h1, h2, h3⟩ := enc_at hvk (encS (l.take k)) (encS (l.drop (k + 1)))
    rw [← hn, ← encS_split l k hk] at h1 h2
    rw [← hn] at h3
    have hsz : (encS l).size = (encS (l.take k)).size + (Utf8.encode l[k]).size + (encS (l.drop (k + 1))).size := by
      conv => lhs; rw [encS_split l k hk, ByteArray.size_append, ByteArray.size_append]
    rw [pz, ih, if_pos (by omega), h2, encS_s l k hk, ByteArray.size_append]
theorem encS_rd {l : List Int} (hv : ∀ c ∈ l, Utf8.valid c = true) {k : Nat} (hk : k < l.length) : pz (encS l) k < (encS l).size ∧ rnA (encS l) k = l[k] ∧ wd (encS l) (pz (encS l) k) = (Utf8.encode l[k]).size ∧ 0 < (Utf8.encode l[k]).size := by
  have hvk := hv l[k] (List.getElem_mem hk)
  obtain ⟨n, hn⟩ : ∃ n : Nat, l[k] = n := ⟨l[k].toNat, by simp [Utf8.valid] at hvk; omega⟩
  rw [hn] at hvk
  obtain ⟨h1, h2, h3⟩ := enc_at hvk (encS (l.take k)) (encS (l.drop (k + 1)))
  rw [← hn, ← encS_split l k hk] at h1 h2
  rw [← hn] at h3
  have hsz : (encS l).size = (encS (l.take k)).size + (Utf8.encode l[k]).size + (encS (l.drop (k + 1))).size := by
    conv => lhs; rw [encS_split l k hk, ByteArray.size_append, ByteArray.size_append]
  have hp := encS_pz hv k (by omega)
  refine ⟨by omega, by rw [rnA, hp, h2, hn], by rw [hp, h1], h3⟩
theorem encS_nch {l : List Int} (hv : ∀ c ∈ l, Utf8.valid c = true) : nch (encS l) = l.length :=
  nch_eq (fun j hj => (encS_rd hv hj).1) (by rw [encS_pz hv _ (Nat.le_refl _), List.take_length]; exact Nat.le_refl _)
theorem encS_riL {l : List Int} (hv : ∀ c ∈ l, Utf8.valid c = true) : riL (encS l) (nch (encS l)) = l := by
  rw [encS_nch hv]
  apply List.ext_getElem
  · simp [riL]
  · intro i h1 h2
    simp only [riL, List.getElem_map, List.getElem_range]
    exact (encS_rd hv h2).2.1
theorem encS_vd {l : List Int} (hv : ∀ c ∈ l, Utf8.valid c = true) : Vd (encS l) 0 := by
  have key : ∀ d k, k + d = l.length → Vd (encS l) (pz (encS l) k) := by
    intro d
    induction d with
    | zero =>
      intro k hk
      obtain rfl : k = l.length := by omega
      exact .fin _ (by rw [encS_pz hv _ (Nat.le_refl _), List.take_length]; exact Nat.le_refl _)
    | succ d ih =>
      intro k hk
      obtain ⟨h1, h2, h3, h4⟩ := encS_rd hv (k := k) (by omega)
      have h5 := encS_pz hv (k + 1) (by omega)
      rw [encS_s l k (by omega), ByteArray.size_append, ← encS_pz hv k (by omega)] at h5
      refine .step _ h1 (by omega) ?_
      rw [h3, ← h5]
      exact ih (k + 1) (by omega)
  exact key l.length 0 (by omega)
theorem enc_cd {s : ByteArray} {i : Nat} (h : 0 < wd s i) : Utf8.encode (cd s i (wd s i) : Nat) = s.extract i (i + wd s i) := by
  have hw := wd_le s i
  have hx : ∀ j, i + j < s.size → s[i + j]? = some (UInt8.ofNat (bt s (i + j))) := fun j hj => by
    rw [bt_get hj]; congr 1; simp [bt]
  have hz : (s.extract i (i + wd s i)).size = wd s i := by rw [ByteArray.size_extract]; omega
  have fin : ∀ l : List UInt8, l.length = wd s i → (∀ j, (hj : j < l.length) → l[j] = UInt8.ofNat (bt s (i + j))) → (⟨l.toArray⟩ : ByteArray) = s.extract i (i + wd s i) := by
    intro l hl hg
    apply ByteArray.ext
    apply Array.ext
    · have : (s.extract i (i + wd s i)).data.size = wd s i := hz
      rw [this]; simpa using hl
    · intro j h1 h2
      have hj : j < l.length := by simpa using h1
      have e1 := hg j hj
      have e2 := hx j (by omega)
      rw [getElem?_pos s (i + j) (by omega)] at e2
      injection e2 with e2
      have h3 : j < (s.extract i (i + wd s i)).size := by omega
      have e3 : (s.extract i (i + wd s i))[j]'h3 = s[i + j]'(by omega) := ByteArray.getElem_extract h3
      show l.toArray[j] = (s.extract i (i + wd s i))[j]'h3
      rw [e3, e2, ← e1]; simp
  have b0 := bt_lt s i
  have b1 := bt_lt s (i + 1)
  have b2 := bt_lt s (i + 2)
  have b3 := bt_lt s (i + 3)
  have hval : Utf8.valid ((cd s i (wd s i) : Nat) : Int) = true := by
    rcases wd_dec (s := s) (i := i) (by omega) with ⟨e, _⟩ | ⟨_, e, _⟩
    · omega
    · have := dec_valid s i
      rw [e] at this; exact this
  rw [enc_e hval]
  have hwd : wd s i = wd s i := rfl
  conv at hwd => rhs; unfold wd
  rw [if_neg (by omega)] at hwd
  by_cases c1 : bt s i < 0x80
  · rw [if_pos c1] at hwd
    rw [hwd] at fin hval h ⊢
    rw [if_pos (by simp only [cd]; omega)]
    exact fin [UInt8.ofNat (bt s i)] rfl fun j hj => by
      obtain rfl : j = 0 := by simp at hj; omega
      rfl
  rw [if_neg c1] at hwd
  by_cases c2 : 0xC2 ≤ bt s i ∧ bt s i ≤ 0xDF
  · rw [if_pos c2] at hwd
    split at hwd
    · omega
    · rw [hwd] at fin hval h ⊢
      have e : cd s i 2 = bt s i % 32 * 64 + bt s (i + 1) % 64 := rfl
      generalize cd s i 2 = c at *
      rw [if_neg (by omega), if_pos (by omega)]
      exact fin [UInt8.ofNat (0xC0 + c / 64), UInt8.ofNat (0x80 + c % 64)] rfl fun j hj => by
        rcases j with _ | _ | j
        · show UInt8.ofNat (0xC0 + c / 64) = _; refine congrArg UInt8.ofNat ?_; show _ = bt s i; omega
        · show UInt8.ofNat (0x80 + c % 64) = _; refine congrArg UInt8.ofNat ?_; show _ = bt s (i + 1); omega
        · simp at hj; omega
  rw [if_neg c2] at hwd
  by_cases c3 : 0xE0 ≤ bt s i ∧ bt s i ≤ 0xEF
  · rw [if_pos c3] at hwd
    generalize hlo : (if bt s i = 0xE0 then 0xA0 else 0x80) = lo at hwd
    generalize hhi : (if bt s i = 0xED then 0x9F else 0xBF) = hi at hwd
    split at hwd
    · omega
    · rw [hwd] at fin hval h ⊢
      have e : cd s i 3 = bt s i % 16 * 4096 + bt s (i + 1) % 64 * 64 + bt s (i + 2) % 64 := rfl
      generalize cd s i 3 = c at *
      have l1 : bt s i = 0xE0 → lo = 0xA0 := fun q => by rw [if_pos q] at hlo; omega
      have l2 : 0x80 ≤ lo ∧ hi ≤ 0xBF := by split at hlo <;> split at hhi <;> omega
      rw [if_neg (by omega), if_neg (by omega), if_pos (by omega)]
      exact fin [UInt8.ofNat (0xE0 + c / 4096), UInt8.ofNat (0x80 + c / 64 % 64), UInt8.ofNat (0x80 + c % 64)] rfl fun j hj => by
        rcases j with _ | _ | _ | j
        · show UInt8.ofNat (0xE0 + c / 4096) = _; refine congrArg UInt8.ofNat ?_; show _ = bt s i; omega
        · show UInt8.ofNat (0x80 + c / 64 % 64) = _; refine congrArg UInt8.ofNat ?_; show _ = bt s (i + 1); omega
        · show UInt8.ofNat (0x80 + c % 64) = _; refine congrArg UInt8.ofNat ?_; show _ = bt s (i + 2); omega
        · simp at hj; omega
  rw [if_neg c3] at hwd
  by_cases c4 : 0xF0 ≤ bt s i ∧ bt s i ≤ 0xF4
  · rw [if_pos c4] at hwd
    generalize hlo : (if bt s i = 0xF0 then 0x90 else 0x80) = lo at hwd
    generalize hhi : (if bt s i = 0xF4 then 0x8F else 0xBF) = hi at hwd
    split at hwd
    · omega
    · rw [hwd] at fin hval h ⊢
      have e : cd s i 4 = bt s i % 8 * 262144 + bt s (i + 1) % 64 * 4096 + bt s (i + 2) % 64 * 64 + bt s (i + 3) % 64 := rfl
      generalize cd s i 4 = c at *
      have l1 : bt s i = 0xF0 → lo = 0x90 := fun q => by rw [if_pos q] at hlo; omega
      have l2 : 0x80 ≤ lo ∧ hi ≤ 0xBF := by split at hlo <;> split at hhi <;> omega
      rw [if_neg (by omega), if_neg (by omega), if_neg (by omega)]
      exact fin [UInt8.ofNat (0xF0 + c / 262144), UInt8.ofNat (0x80 + c / 4096 % 64), UInt8.ofNat (0x80 + c / 64 % 64), UInt8.ofNat (0x80 + c % 64)] rfl fun j hj => by
        rcases j with _ | _ | _ | _ | j
        · show UInt8.ofNat (0xF0 + c / 262144) = _; refine congrArg UInt8.ofNat ?_; show _ = bt s i; omega
        · show UInt8.ofNat (0x80 + c / 4096 % 64) = _; refine congrArg UInt8.ofNat ?_; show _ = bt s (i + 1); omega
        · show UInt8.ofNat (0x80 + c / 64 % 64) = _; refine congrArg UInt8.ofNat ?_; show _ = bt s (i + 2); omega
        · show UInt8.ofNat (0x80 + c % 64) = _; refine congrArg UInt8.ofNat ?_; show _ = bt s (i + 3); omega
        · simp at hj; omega
  · rw [if_neg c4] at hwd; omega
theorem ext_app (s : ByteArray) {a b c : Nat} (h1 : a ≤ b) (h2 : b ≤ c) (h3 : c ≤ s.size) : s.extract a b ++ s.extract b c = s.extract a c := by
  apply ByteArray.ext
  apply Array.ext
  · have e1 : (s.extract a b ++ s.extract b c).size = c - a := by rw [ByteArray.size_append, ByteArray.size_extract, ByteArray.size_extract]; omega
    have e2 : (s.extract a c).size = c - a := by rw [ByteArray.size_extract]; omega
    exact e1.trans e2.symm
  · intro j q1 q2
    have q1 : j < (s.extract a b ++ s.extract b c).size := q1
    have q2 : j < (s.extract a c).size := q2
    have hb : (s.extract a b).size = b - a := by rw [ByteArray.size_extract]; omega
    show (s.extract a b ++ s.extract b c)[j] = (s.extract a c)[j]
    rw [ByteArray.getElem_extract]
    by_cases h : j < b - a
    · rw [ByteArray.getElem_append_left (by omega), ByteArray.getElem_extract]
    · rw [ByteArray.getElem_append_right (by omega), ByteArray.getElem_extract]
      congr 1; omega
theorem enc_rn {s : ByteArray} (hv : Vd s 0) {k : Nat} (hk : k < nch s) : Utf8.encode (rnA s k) = s.extract (pz s k) (pz s (k + 1)) := by
  obtain ⟨d1, d2, d3, d4, d5⟩ := Vd.dec hv (nch_iff.1 hk)
  rw [d5, enc_cd (by omega), d3]
theorem riL_s2 (s : ByteArray) (k : Nat) : riL s (k + 1) = riL s k ++ [rnA s k] := by simp [riL, List.range_succ]
theorem enc_riL {s : ByteArray} (hv : Vd s 0) : ∀ k, k ≤ nch s → encS (riL s k) = s.extract 0 (pz s k)
  | 0, _ => by simp [riL, encS, pz]
  | k + 1, h => by
    rw [riL_s2, encS_app, encS_one, enc_riL hv k (by omega), enc_rn hv (by omega)]
    exact ext_app s (Nat.zero_le _) (pz_mono s (by omega)) (pz_le s _)
theorem enc_all {s : ByteArray} (hv : Vd s 0) : encS (riL s (nch s)) = s := by
  rw [enc_riL hv _ (Nat.le_refl _), nch_at]
  simp
theorem riL_valid (s : ByteArray) (k : Nat) : ∀ c ∈ riL s k, Utf8.valid c = true := by
  intro c hc
  obtain ⟨j, _, rfl⟩ := List.mem_map.1 hc
  exact rnA_valid s j
end Go.Ab
