/-
  The plain laws: what Decode reads of what Encode writes. No condition but what the message is.
-/
import Derived.Test.YtfnhaddgdfkmcaaDoorDec0
import Derived.Test.YtfnhaddgdfkmcaaDoorPlain
import Derived.Test.YtfnhaddgdfkmcaaDoorCrc
namespace Go.Proofs.YtfnhaddgdfkmcaaDoor
open Go.RowKit
set_option linter.unusedVariables false

/-! ### hexadecimal -/
theorem hexV_hexK : ∀ (k n m : Nat), n < 16 ^ k → hexV (m : Int) (hexK k n) = ((m * 16 ^ k + n : Nat) : Int) := by
  intro k
  induction k with
  | zero => intro n m h; simp [hexK, hexV]; omega
  | succ k ih =>
    intro n m h
    have hs : ∀ (a b : List UInt8) (v : Int), hexV v (a ++ b) = hexV (hexV v a) b := by
      intro a
      induction a with
      | nil => intro b v; rfl
      | cons c a iha => intro b v; rw [List.cons_append, hexV, iha]; rfl
    rw [hexK, hs, ih (n / 16) m (by rw [Nat.pow_succ] at h; omega)]
    have hd : hv (hdg (n % 16)) = ((n % 16 : Nat) : Int) := by
      have key : ∀ d : Fin 16, hv (hdg d.val) = ((d.val : Nat) : Int) := by decide +kernel
      exact key ⟨n % 16, by omega⟩
    rw [hexV, hd, hexV, Nat.pow_succ]
    have e : m * (16 ^ k * 16) = (m * 16 ^ k) * 16 := (Nat.mul_assoc _ _ _).symm
    rw [e]
    generalize m * 16 ^ k = q at *
    omega
theorem hexK_len : ∀ (k n : Nat), (hexK k n).length = k
  | 0, _ => rfl
  | k + 1, n => by rw [hexK, List.length_append, hexK_len k]; rfl
theorem hexK_all : ∀ (k n : Nat), (hexK k n).all isHexB = true
  | 0, _ => rfl
  | k + 1, n => by
    rw [hexK, List.all_append, hexK_all k]
    have key : ∀ d : Fin 16, isHexB (hdg d.val) = true := by decide +kernel
    have := key ⟨n % 16, by omega⟩
    simpa using this
theorem hex8_eq {n : Nat} (h : n < 4294967296) : hex8 n = hexK 8 n := (hexK_eq 8 n (by omega) (by omega)).symm
theorem hex8_len8 {n : Nat} (h : n < 4294967296) : (hex8 n).length = 8 := by rw [hex8_eq h, hexK_len]
theorem hex8_back {n : Nat} (h : n < 4294967296) (r : List UInt8) : thE (hex8 n ++ r) = 0 ∧ thV (hex8 n ++ r) = (n : Int) := by
  have e := hex8_eq h
  have hl := hexK_len 8 n
  have ht : (hexK 8 n ++ r).take 8 = hexK 8 n := by rw [List.take_append_of_le_length (by omega), List.take_of_length_le (by omega)]
  have hn : ¬ (hexK 8 n ++ r).length < 8 := by rw [List.length_append]; omega
  rw [e]
  unfold thE thV
  rw [if_neg hn, if_neg hn, ht, hexK_all, if_pos rfl, if_pos rfl]
  refine ⟨rfl, ?_⟩
  have := hexV_hexK 8 n 0 (by omega)
  simpa using this
/-! ### tokens -/
theorem take_split (b r : List UInt8) (c : Nat) : (c < b.length ∧ (b ++ r).take c = b.take c) ∨ (b.length ≤ c ∧ (b ++ r).take c = b ++ r.take (c - b.length)) := by
  rcases Nat.lt_or_ge c b.length with h | h
  · exact .inl ⟨h, by rw [List.take_append_of_le_length (by omega)]⟩
  · exact .inr ⟨h, by rw [List.take_append, List.take_of_length_le h]⟩
theorem fixS_back : ∀ (k r : List UInt8), fixS k (.ok (k ++ r)) = .ok r
  | [], r => rfl
  | c :: k, r => by show (if c = c then fixS k (.ok (k ++ r)) else .bad 30) = _; rw [if_pos rfl, fixS_back k r]
theorem fixS_torn : ∀ (k : List UInt8) (c : Nat), c < k.length → fixS k (.ok (k.take c)) = .bad 32
  | [], c, h => by simp at h
  | x :: k, 0, _ => rfl
  | x :: k, c + 1, h => by show (if x = x then fixS k (.ok (k.take c)) else .bad 30) = _; rw [if_pos rfl, fixS_torn k c (by simpa using h)]
/-- a step of the reader takes the bytes b and answers v -/
structure Tok {α : Type} (V : St → α) (T : St → St) (b : List UInt8) (v : α) : Prop where
  back : ∀ r, T (.ok (b ++ r)) = .ok r
  val : ∀ r, V (.ok (b ++ r)) = v
  torn : ∀ c, c < b.length → T (.ok (b.take c)) = .bad 32
theorem tok_num {n : Int} (k : List UInt8) (h : numE n = 0) : Tok (numV k) (numS k) (k ++ numB n) n := by
  refine ⟨fun r => ?_, fun r => ?_, fun c hc => ?_⟩
  · unfold numS
    rw [List.append_assoc, fixS_back]
    have hb := number_back (n := n) (rest := r) h
    simp only
    rw [show tkN (numB n ++ r) = (n, ((numB n).length : Int), 0) from hb]
    rw [wentS_0 _ _ rfl]
    simp
  · unfold numV
    rw [List.append_assoc, fixS_back]
    have hb := number_back (n := n) (rest := r) h
    simp only
    rw [show tkN (numB n ++ r) = (n, ((numB n).length : Int), 0) from hb]
  · unfold numS
    rcases take_split k (numB n) c with ⟨h1, h2⟩ | ⟨h1, h2⟩
    · rw [h2, fixS_torn k c h1]
    · rw [h2, fixS_back]
      simp only
      rw [List.length_append] at hc
      rw [show tkN ((numB n).take (c - k.length)) = (0, 0, 20) from number_torn h (by omega), wentS_20 _ _ rfl]
theorem tok_text {s : List UInt8} (k : List UInt8) (h : textE s = 0) : Tok (textV k) (textS k) (k ++ textB s) s := by
  refine ⟨fun r => ?_, fun r => ?_, fun c hc => ?_⟩
  · unfold textS
    rw [List.append_assoc, fixS_back]
    obtain ⟨h1, h2, h3⟩ := text_back (rest := r) h
    simp only
    rw [h1, h2, wentS_0 _ _ rfl]
    simp
  · unfold textV
    rw [List.append_assoc, fixS_back]
    exact (text_back (rest := r) h).2.2
  · unfold textS
    rcases take_split k (textB s) c with ⟨h1, h2⟩ | ⟨h1, h2⟩
    · rw [h2, fixS_torn k c h1]
    · rw [h2, fixS_back]
      simp only
      rw [List.length_append] at hc
      rw [wentS_20 _ _ (text_torn h (by omega))]
theorem Tok.need {α : Type} {V : St → α} {T : St → St} {b : List UInt8} {v : α} (h : Tok V T b v) (f : α → Bool) (hf : f v = true) : Tok V (fun S => needS (f (V S)) (T S)) b v := by
  refine ⟨fun r => ?_, h.val, fun c hc => ?_⟩
  · simp only [h.val, h.back, hf]; rfl
  · simp only [h.torn c hc]; rfl
theorem tok_mark {mk : UInt8} (h : markOk (mk.toNat : Int) = true) : Tok mrkV mrkS [114, mk] (mk.toNat : Int) := by
  have hb : ∀ r, fixS [114] (.ok ([114, mk] ++ r)) = .ok (mk :: r) := fun r => fixS_back [114] (mk :: r)
  refine ⟨fun r => ?_, fun r => ?_, fun c hc => ?_⟩
  · unfold mrkS; rw [hb]; simp only; rw [if_pos h]
  · unfold mrkV; rw [hb]
  · have : c = 0 ∨ c = 1 := by simp at hc; omega
    rcases this with rfl | rfl <;> rfl
/-- the reader, standing at S, answers F, and tells what is torn or has more behind it -/
structure Good (D : St → Res) (r : List UInt8) (F : Res) : Prop where
  back : D (.ok r) = F
  torn : ∀ c, c < r.length → D (.ok (r.take c)) = .bad 32
  more : ∀ x, D (.ok (r ++ [x])) = .bad 30
theorem Good.step {α : Type} {V : St → α} {T : St → St} {b r : List UInt8} {v : α} (h : Tok V T b v) {D : α → St → Res} {F : Res} (hD : Good (D v) r F) (hbad : ∀ x e, D x (.bad e) = .bad e) :
    Good (fun S => D (V S) (T S)) (b ++ r) F := by
  refine ⟨?_, fun c hc => ?_, fun x => ?_⟩
  · simp only [h.val, h.back]; exact hD.back
  · rcases take_split b r c with ⟨h1, h2⟩ | ⟨h1, h2⟩
    · simp only [h2, h.torn c h1]; exact hbad _ _
    · simp only [h2, h.val, h.back]
      rw [List.length_append] at hc
      exact hD.torn _ (by omega)
  · simp only [List.append_assoc, h.val, h.back]; exact hD.more x
theorem tok_rec {r : Rc} (hm : markOk (r.mark.toNat : Int) = true) (ha : addrOk r.to.data.toList = true) (ht : textE r.to.data.toList = 0) : Tok recV recS ([114, r.mark] ++ textB r.to.data.toList) r := by
  have M := tok_mark hm
  have X := tok_text [] ht
  have hb : ∀ q, mrkS (.ok ([114, r.mark] ++ textB r.to.data.toList ++ q)) = .ok (textB r.to.data.toList ++ q) := fun q => by rw [List.append_assoc]; exact M.back _
  have hv : ∀ q, mrkV (.ok ([114, r.mark] ++ textB r.to.data.toList ++ q)) = (r.mark.toNat : Int) := fun q => by rw [List.append_assoc]; exact M.val _
  have xb : ∀ q, textS [] (.ok (textB r.to.data.toList ++ q)) = .ok q := fun q => X.back q
  have xv : ∀ q, textV [] (.ok (textB r.to.data.toList ++ q)) = r.to.data.toList := fun q => X.val q
  refine ⟨fun q => ?_, fun q => ?_, fun c hc => ?_⟩
  · unfold recS
    rw [hb, xb, xv, ha]; rfl
  · unfold recV
    rw [hb, hv, xv, ← str_eq rfl]
    have : UInt8.ofNat ((r.mark.toNat : Int)).toNat = r.mark := by rw [Int.toNat_natCast]; exact UInt8.ofNat_toNat
    rw [this]
  · unfold recS
    rcases take_split [114, r.mark] (textB r.to.data.toList) c with ⟨h1, h2⟩ | ⟨h1, h2⟩
    · rw [h2, M.torn c h1, textS_bad, needS_bad]
    · rw [h2, M.back]
      have := X.torn (c - [114, r.mark].length) (by rw [List.nil_append]; rw [List.length_append] at hc; have e : ([114, r.mark] : List UInt8).length = 2 := rfl; omega)
      rw [List.nil_append] at this
      rw [this, needS_bad]
theorem tok_hex {n : Nat} (h : n < 4294967296) : Tok (fun | .ok l => thV l | .bad _ => 0) (fun | .ok l => fixS [10] (wentS 8 (thE l) (.ok l)) | .bad e => .bad e) (hex8 n ++ [10]) (n : Int) := by
  have hl := hex8_len8 h
  refine ⟨fun r => ?_, fun r => ?_, fun c hc => ?_⟩
  · simp only
    rw [List.append_assoc, (hex8_back h _).1, wentS_0 _ _ rfl]
    rw [show (8 : Int).toNat = (hex8 n).length by rw [hl]; rfl, List.drop_left]
    exact fixS_back [10] r
  · simp only
    rw [List.append_assoc]
    exact (hex8_back h _).2
  · simp only
    rw [List.length_append, hl] at hc
    simp only [List.length_cons, List.length_nil] at hc
    rcases take_split (hex8 n) [10] c with ⟨h1, h2⟩ | ⟨h1, h2⟩
    · rw [h2]
      have : thE ((hex8 n).take c) = 20 := by unfold thE; rw [if_pos (by rw [List.length_take]; omega)]
      rw [wentS_20 _ _ this, fixS_bad]
    · rw [h2, (hex8_back h _).1, wentS_0 _ _ rfl]
      rw [show (8 : Int).toNat = (hex8 n).length by rw [hl]; rfl, List.drop_left]
      exact fixS_torn [10] _ (by simp; omega)
theorem decSum_bad (m : Msg) (x e : Int) : decSum m x (.bad e) = .bad e := rfl
/-- what stands behind the sum's kind -/
theorem good_hex (m : Msg) {n : Nat} (h : n < 4294967296) : Good (decHex m) (hex8 n ++ [10]) (if (n : Int) = (crc (layB m) : Int) then .ok m else .bad 33) := by
  have G : Good (decSum m (n : Int)) [] (if (n : Int) = (crc (layB m) : Int) then .ok m else .bad 33) := ⟨rfl, fun c hc => by simp at hc, fun x => rfl⟩
  have := Good.step (tok_hex h) (D := decSum m) G (decSum_bad m)
  rw [List.append_nil] at this
  refine ⟨?_, fun c hc => ?_, fun x => ?_⟩
  · exact this.back
  · exact this.torn c hc
  · exact this.more x
theorem tok_fix (k : List UInt8) : Tok (fun _ => ()) (fixS k) k () := ⟨fixS_back k, fun _ => rfl, fixS_torn k⟩
theorem good_data (t : Int) (f : List UInt8) (L : List Rc) {d : List UInt8} (hd : textE d = 0) {n : Nat} (h : n < 4294967296) :
    Good (decData t f L) (([100] ++ textB d) ++ ([101] ++ (hex8 n ++ [10]))) (if (n : Int) = (crc (layB ⟨t, ⟨f.toArray⟩, L, d⟩) : Int) then .ok ⟨t, ⟨f.toArray⟩, L, d⟩ else .bad 33) := by
  have G2 := Good.step (tok_fix [101]) (D := fun _ S => decHex ⟨t, ⟨f.toArray⟩, L, d⟩ S) (good_hex ⟨t, ⟨f.toArray⟩, L, d⟩ h) (fun _ e => decHex_bad _ e)
  exact Good.step (tok_text [100] hd) (D := fun d S => decHex ⟨t, ⟨f.toArray⟩, L, d⟩ (fixS [101] S)) G2 (fun x e => by rw [fixS_bad]; rfl)
theorem good_rec (t : Int) (f : List UInt8) {R : List UInt8} {F : Res} : ∀ (M L : List Rc), (∀ r ∈ M, markOk (r.mark.toNat : Int) = true ∧ addrOk r.to.data.toList = true ∧ textE r.to.data.toList = 0) →
    Good (decData t f (L ++ M)) R F → Good (decRec t f M.length L) (recM M ++ R) F
  | [], L, _, h => by
    rw [List.append_nil] at h
    exact ⟨h.back, h.torn, h.more⟩
  | r :: M, L, hr, h => by
    have ih := good_rec t f M (L ++ [r]) (fun x hx => hr x (List.mem_cons_of_mem _ hx)) (by rw [List.append_assoc]; exact h)
    obtain ⟨h1, h2, h3⟩ := hr r (List.mem_cons_self ..)
    have := Good.step (tok_rec h1 h2 h3) (D := fun v S => decRec t f M.length (L ++ [v]) S) ih (fun _ e => decRec_bad _ _ _ _ e)
    rw [show recM (r :: M) = ([114, r.mark] ++ textB r.to.data.toList) ++ recM M from rfl, List.append_assoc]
    exact ⟨this.back, this.torn, this.more⟩
theorem good_many (t : Int) (f : List UInt8) {R : List UInt8} {F : Res} {M : List Rc} (h0 : 0 < M.length) (h1 : M.length ≤ 200) (hr : ∀ r ∈ M, markOk (r.mark.toNat : Int) = true ∧ addrOk r.to.data.toList = true ∧ textE r.to.data.toList = 0)
    (h : Good (decData t f M) R F) : Good (decN t f) (([110] ++ numB (M.length : Int)) ++ (recM M ++ R)) F := by
  have hn : numE (M.length : Int) = 0 := by unfold numE; rw [if_neg (by omega)]
  have ih := good_rec t f M [] hr (by rw [List.nil_append]; exact h)
  have T := (tok_num [110] hn).need manyOk (decide_eq_true ⟨by omega, by omega⟩)
  exact Good.step T (D := fun n S => decRec t f n.toNat [] S) (by rw [Int.toNat_natCast]; exact ih) (fun _ e => decRec_bad _ _ _ _ e)
theorem good_from (t : Int) {f : List UInt8} {R : List UInt8} {F : Res} (hf : fromOk f = true) (ht : textE f = 0) (h : Good (decN t f) R F) : Good (decF t) (([102] ++ textB f) ++ R) F :=
  Good.step ((tok_text [102] ht).need fromOk hf) (D := fun f S => decN t f S) h (fun _ e => decN_bad _ _ e)
theorem good_all {t : Int} {R : List UInt8} {F : Res} (ht : numE t = 0) (h : Good (decF t) R F) : Good (fun S => decF (numV [87, 49, 59, 116] S) (numS [87, 49, 59, 116] S)) (([87, 49, 59, 116] ++ numB t) ++ R) F :=
  Good.step (tok_num [87, 49, 59, 116] ht) (D := decF) h decF_bad
theorem textE_ok {l : List UInt8} (h : l.length ≤ 1048576) : textE l = 0 := if_neg (by omega)
/-- THE LAW: a message that may be is read from its bytes, whatever the sum; a wrong sum is told; what is torn is short; what has more behind it is none -/
theorem good_msg {m : Msg} (h : MayBe m) {n : Nat} (hn : n < 4294967296) : Good (fun S => decF (numV [87, 49, 59, 116] S) (numS [87, 49, 59, 116] S)) (hdB m ++ recM m.rcpts ++ endB m ++ ([101] ++ hex8 n ++ [10])) (if n = crc (layB m) then .ok m else .bad 33) := by
  have hf : fromOk m.frm.data.toList = true := by
    unfold fromOk
    rcases h.fa with h1 | h1
    · rw [h1]; rfl
    · rw [h1, Bool.or_true]
  have hfl : m.frm.data.toList.length ≤ 320 := by have := h.f; rw [size_len] at this; exact this
  have hrs : ∀ r ∈ m.rcpts, markOk (r.mark.toNat : Int) = true ∧ addrOk r.to.data.toList = true ∧ textE r.to.data.toList = 0 := fun r hr => by
    obtain ⟨h1, h2, h3⟩ := h.rs r hr
    rw [size_len] at h1
    exact ⟨h3, h2, textE_ok (by omega)⟩
  have G := good_data m.time m.frm.data.toList m.rcpts (d := m.data) (textE_ok h.d) hn
  have em : (⟨m.time, ⟨m.frm.data.toList.toArray⟩, m.rcpts, m.data⟩ : Msg) = m := by rw [← str_eq rfl]
  rw [em] at G
  have G2 := good_all (by unfold numE; rw [if_neg (by have := h.t0; have := h.t1; omega)]) (good_from m.time hf (textE_ok (by omega)) (good_many m.time m.frm.data.toList h.n0 h.n1 hrs G))
  have e : hdB m ++ recM m.rcpts ++ endB m ++ ([101] ++ hex8 n ++ [10]) = ([87, 49, 59, 116] ++ numB m.time) ++ (([102] ++ textB m.frm.data.toList) ++ (([110] ++ numB (m.rcpts.length : Int)) ++ (recM m.rcpts ++ (([100] ++ textB m.data) ++ ([101] ++ (hex8 n ++ [10])))))) := by
    unfold hdB endB; simp only [List.append_assoc, List.nil_append]
  rw [e]
  have e2 : ((n : Int) = (crc (layB m) : Int)) = (n = crc (layB m)) := propext ⟨fun h => by omega, fun h => by omega⟩
  simp only [e2] at G2
  exact G2
theorem dec_back {m : Msg} (h : MayBe m) : decR (encB m) = .ok m := by
  have := (good_msg h (crc_lt (layB m))).back
  rw [if_pos rfl] at this
  exact this
theorem dec_torn {m : Msg} (h : MayBe m) {c : Nat} (hc : c < (encB m).length) : decR ((encB m).take c) = .bad 32 := (good_msg h (crc_lt (layB m))).torn c hc
theorem dec_more {m : Msg} (h : MayBe m) (x : UInt8) : decR (encB m ++ [x]) = .bad 30 := (good_msg h (crc_lt (layB m))).more x
/-! ### one byte of the data turned -/
theorem encB_len11 (m : Msg) : (encB m).length = (hdB m ++ recM m.rcpts ++ [100]).length + (textB m.data).length + 10 := by
  unfold encB endB sumB
  simp only [List.length_append, hex8_len8 (crc_lt (layB m)), List.length_cons, List.length_nil]
  omega
theorem textB_form {d : List UInt8} (h : d.length ≤ 1048576) : textB d = (Lib.decDigits d.length ++ [58]) ++ d ++ [44] := by unfold textB; rw [if_neg (by omega)]
theorem set_mid (A d B : List UInt8) {k : Nat} (hk : k < d.length) (y : UInt8) : (A ++ d ++ B).set (A.length + k) y = A ++ d.set k y ++ B := by
  rw [List.append_assoc, List.set_append_right _ _ (by omega), List.set_append_left _ _ (by omega), show A.length + k - A.length = k by omega, ← List.append_assoc]
theorem dec_turn {m : Msg} (h : MayBe m) {k : Nat} (hk : k < m.data.length) {y : UInt8} (hy : y ≠ m.data[k]) :
    (encB m).length - 11 - m.data.length + k < (encB m).length ∧ (encB m)[(encB m).length - 11 - m.data.length + k]? = some m.data[k] ∧ decR ((encB m).set ((encB m).length - 11 - m.data.length + k) y) = .bad 33 := by
  have hl := encB_len11 m
  have hd := h.d
  have hT := textB_form hd
  have hm2 : MayBe ⟨m.time, m.frm, m.rcpts, m.data.set k y⟩ := ⟨h.n0, h.n1, by simpa using hd, h.f, h.t0, h.t1, h.fa, h.rs⟩
  have hT2 : textB (m.data.set k y) = (Lib.decDigits m.data.length ++ [58]) ++ m.data.set k y ++ [44] := by
    rw [textB_form (by simpa using hd), List.length_set]
  have e0 : encB m = (hdB m ++ recM m.rcpts ++ [100] ++ (Lib.decDigits m.data.length ++ [58])) ++ m.data ++ ([44] ++ sumB m) := by
    unfold encB endB
    rw [hT]; simp only [List.append_assoc]
  have hp : (encB m).length - 11 - m.data.length + k = (hdB m ++ recM m.rcpts ++ [100] ++ (Lib.decDigits m.data.length ++ [58])).length + k := by
    rw [hl, hT]
    simp only [List.length_append, List.length_cons, List.length_nil]
    omega
  rw [hp]
  refine ⟨by rw [e0]; simp only [List.length_append]; omega, ?_, ?_⟩
  · rw [e0, List.append_assoc, List.getElem?_append_right (by omega), List.getElem?_append_left (by omega)]
    rw [show ∀ a : Nat, a + k - a = k by intro a; omega]
    exact List.getElem?_eq_getElem hk
  · rw [e0, set_mid _ _ _ hk]
    have e1 : (hdB m ++ recM m.rcpts ++ [100] ++ (Lib.decDigits m.data.length ++ [58])) ++ m.data.set k y ++ ([44] ++ sumB m) = hdB ⟨m.time, m.frm, m.rcpts, m.data.set k y⟩ ++ recM m.rcpts ++ endB ⟨m.time, m.frm, m.rcpts, m.data.set k y⟩ ++ ([101] ++ hex8 (crc (layB m)) ++ [10]) := by
      unfold endB sumB
      rw [show (⟨m.time, m.frm, m.rcpts, m.data.set k y⟩ : Msg).data = m.data.set k y from rfl, hT2]
      simp only [List.append_assoc]; rfl
    rw [e1]
    have hb := (good_msg hm2 (crc_lt (layB m))).back
    have hne : crc (layB m) ≠ crc (layB ⟨m.time, m.frm, m.rcpts, m.data.set k y⟩) := by
      have l0 : layB m = (hdB m ++ recB m.rcpts ++ [100] ++ (Lib.decDigits m.data.length ++ [58])) ++ m.data ++ [44] := by
        unfold layB; rw [hT]; simp only [List.append_assoc]
      have l1 : layB ⟨m.time, m.frm, m.rcpts, m.data.set k y⟩ = (layB m).set ((hdB m ++ recB m.rcpts ++ [100] ++ (Lib.decDigits m.data.length ++ [58])).length + k) y := by
        rw [l0, set_mid _ _ _ hk]
        unfold layB
        rw [show (⟨m.time, m.frm, m.rcpts, m.data.set k y⟩ : Msg).data = m.data.set k y from rfl, hT2]
        simp only [List.append_assoc]; rfl
      rw [l1]
      have hlt : (hdB m ++ recB m.rcpts ++ [100] ++ (Lib.decDigits m.data.length ++ [58])).length + k < (layB m).length := by
        rw [l0]; simp only [List.length_append]; omega
      refine crc_turned hlt ?_
      have : (layB m)[(hdB m ++ recB m.rcpts ++ [100] ++ (Lib.decDigits m.data.length ++ [58])).length + k]? = some m.data[k] := by
        rw [l0, List.append_assoc, List.getElem?_append_right (by omega), List.getElem?_append_left (by omega)]
        rw [show ∀ a : Nat, a + k - a = k by intro a; omega]
        exact List.getElem?_eq_getElem hk
      rw [List.getElem?_eq_getElem hlt] at this
      injection this with this
      rw [this]; exact hy
    rw [if_neg hne] at hb
    exact hb
/-! ### another mark -/
def setMk (m : Msg) (d : Nat) (mk : UInt8) : Msg := ⟨m.time, m.frm, m.rcpts.modify d (fun r => ⟨r.to, mk⟩), m.data⟩
theorem recB_mod (mk : UInt8) : ∀ (L : List Rc) (d : Nat), recB (L.modify d (fun r => ⟨r.to, mk⟩)) = recB L
  | [], d => by cases d <;> rfl
  | r :: L, 0 => rfl
  | r :: L, d + 1 => by
    rw [List.modify_succ_cons, recB, recB_mod mk L d]; rfl
theorem recM_mod (mk : UInt8) : ∀ (L : List Rc) (d : Nat), d < L.length → recM (L.modify d (fun r => ⟨r.to, mk⟩)) = (recM L).set ((recM (L.take d)).length + 1) mk
  | [], d, h => by simp at h
  | r :: L, 0, h => rfl
  | r :: L, d + 1, h => by
    rw [List.modify_succ_cons, recM, recM_mod mk L d (by simpa using h), List.take_succ_cons, recM]
    rw [show recM (r :: List.take d L) = ([114, r.mark] ++ textB r.to.data.toList) ++ recM (List.take d L) from rfl]
    generalize [114, r.mark] ++ textB r.to.data.toList = A
    rw [List.set_append_right _ _ (by rw [List.length_append]; omega)]
    congr 2
    rw [List.length_append]; omega
theorem setMk_may {m : Msg} (h : MayBe m) (d : Nat) {mk : UInt8} (hk : markOk (mk.toNat : Int) = true) : MayBe (setMk m d mk) := by
  refine ⟨by simpa [setMk] using h.n0, by simpa [setMk] using h.n1, h.d, h.f, h.t0, h.t1, h.fa, fun r hr => ?_⟩
  obtain ⟨i, hi, rfl⟩ := List.mem_iff_getElem.1 hr
  simp only [setMk, List.length_modify] at hi
  have h0 := h.rs _ (List.getElem_mem hi)
  simp only [setMk, List.getElem_modify]
  split
  · exact ⟨h0.1, h0.2.1, hk⟩
  · exact h0
theorem setMk_hd (m : Msg) (d : Nat) (mk : UInt8) : hdB (setMk m d mk) = hdB m := by unfold hdB setMk; simp
theorem setMk_lay (m : Msg) (d : Nat) (mk : UInt8) : layB (setMk m d mk) = layB m := by
  have h := setMk_hd m d mk
  unfold layB
  rw [h]
  unfold setMk
  rw [recB_mod]
theorem enc_mark (m : Msg) {d : Nat} (hd : d < m.rcpts.length) (mk : UInt8) : encB (setMk m d mk) = (encB m).set ((hdB m).length + (recM (m.rcpts.take d)).length + 1) mk ∧ (hdB m).length + (recM (m.rcpts.take d)).length + 1 < (encB m).length := by
  have hlt : (recM (m.rcpts.take d)).length + 1 < (recM m.rcpts).length := by
    have e : m.rcpts = m.rcpts.take d ++ m.rcpts[d] :: m.rcpts.drop (d + 1) := by rw [List.getElem_cons_drop, List.take_append_drop]
    have ra : ∀ A B : List Rc, recM (A ++ B) = recM A ++ recM B := fun A B => by
      induction A with
      | nil => rfl
      | cons a A ih => rw [List.cons_append, recM, recM, ih]; simp
    have : recM m.rcpts = recM (m.rcpts.take d) ++ recM (m.rcpts[d] :: m.rcpts.drop (d + 1)) := by rw [← ra, ← e]
    rw [this, List.length_append, recM]
    simp only [List.length_append, List.length_cons]
    omega
  constructor
  · unfold encB sumB
    rw [setMk_hd, setMk_lay]
    rw [show (setMk m d mk).rcpts = m.rcpts.modify d (fun r => ⟨r.to, mk⟩) from rfl, recM_mod mk _ _ hd, show endB (setMk m d mk) = endB m from rfl]
    rw [List.append_assoc (hdB m ++ recM m.rcpts), List.append_assoc (hdB m), List.append_assoc (hdB m), List.append_assoc (hdB m)]
    rw [List.set_append_right _ _ (by omega), List.set_append_left _ _ (by omega)]
    rw [show (hdB m).length + (recM (List.take d m.rcpts)).length + 1 - (hdB m).length = (recM (List.take d m.rcpts)).length + 1 by omega]
    simp only [List.append_assoc]
  · unfold encB
    simp only [List.length_append]
    omega
theorem mksI_at : ∀ (L : List Rc) (d n : Nat), d < L.length → (mksI n L)[d]? = some ((n : Int) + ((recM (L.take d)).length + 1 : Nat))
  | [], _, _, h => by simp at h
  | r :: L, 0, n, h => rfl
  | r :: L, d + 1, n, h => by
    rw [mksI, List.getElem?_cons_succ, mksI_at L d _ (by simpa using h), List.take_succ_cons, recM]
    simp only [List.length_append, List.length_cons, List.length_nil]
    congr 1; omega
end Go.Proofs.YtfnhaddgdfkmcaaDoor
