/- Walks of wire (layer 5): tests of bytes, of texts; small letters; headers. -/
import Derived.Test.YtaomhkgdbobpkaaGreatDoorWiB
import Derived.Test.YtaomhkgdbobpkaaGreatDoorShelf
import Derived.Laws.IdiomStrings
import Derived.Deep.DeepCutAuto
namespace Go.Proofs.YtaomhkgdbobpkaaGreatDoor
open Go.RowKit Wi

/-- A test of a byte. -/
def MayK (k : FuncId) (p : UInt8 → Bool) : Prop := ∀ (c : UInt8) (W : World), Calls Tryz.prog k #[.int .u8 c.toNat] W fun e w' => e = .returned (.bool (p c)) ∧ Kept (fun _ => True) W w'
theorem le_u8 (a c : UInt8) (x : Int) (hx : x = a.toNat) : decide ((c.toNat : Int) ≤ x) = decide (c ≤ a) := by
  subst hx
  by_cases h : c ≤ a
  · rw [decide_eq_true h]; exact decide_eq_true (by have := UInt8.le_iff_toNat_le.1 h; omega)
  · rw [decide_eq_false h]; exact decide_eq_false (fun e => h (UInt8.le_iff_toNat_le.2 (by omega)))
theorem ge_u8 (a c : UInt8) (x : Int) (hx : x = a.toNat) : decide (x ≤ (c.toNat : Int)) = decide (a ≤ c) := by
  subst hx
  by_cases h : a ≤ c
  · rw [decide_eq_true h]; exact decide_eq_true (by have := UInt8.le_iff_toNat_le.1 h; omega)
  · rw [decide_eq_false h]; exact decide_eq_false (fun e => h (UInt8.le_iff_toNat_le.2 (by omega)))
set_option maxHeartbeats 1000000 in
theorem capital_is : MayK 79 capitalP := by
  intro c W
  have h1 := ge_u8 65 c 65 rfl
  have h2 := le_u8 90 c 90 rfl
  obtain ⟨p, hp⟩ : ∃ p, decide ((65 : UInt8) ≤ c) = p := ⟨_, rfl⟩
  obtain ⟨q, hq⟩ : ∃ p, decide (c ≤ (90 : UInt8)) = p := ⟨_, rfl⟩
  have hR : capitalP c = (p && q) := by unfold capitalP; rw [hp, hq]
  rw [hp] at h1
  rw [hq] at h2
  rw [hR]
  clear hp hq hR
  cases p <;> cases q
  all_goals
    go_enter Tryz.func79, Tryz.ntmps79
    go_wp2
    go_ret
    exact ⟨rfl, Kept.refl _ _⟩
set_option maxHeartbeats 1000000 in
theorem shown_is : MayK 80 shownP := by
  intro c W
  have h1 := ge_u8 33 c 33 rfl
  have h2 := le_u8 126 c 126 rfl
  obtain ⟨p, hp⟩ : ∃ p, decide ((33 : UInt8) ≤ c) = p := ⟨_, rfl⟩
  obtain ⟨q, hq⟩ : ∃ p, decide (c ≤ (126 : UInt8)) = p := ⟨_, rfl⟩
  have hR : shownP c = (p && q) := by unfold shownP; rw [hp, hq]
  rw [hp] at h1
  rw [hq] at h2
  rw [hR]
  clear hp hq hR
  cases p <;> cases q
  all_goals
    go_enter Tryz.func80, Tryz.ntmps80
    go_wp2
    go_ret
    exact ⟨rfl, Kept.refl _ _⟩
set_option maxHeartbeats 1000000 in
theorem printed_is : MayK 91 printedP := by
  intro c W
  have h1 := ge_u8 32 c 32 rfl
  have h2 := le_u8 126 c 126 rfl
  obtain ⟨p, hp⟩ : ∃ p, decide ((32 : UInt8) ≤ c) = p := ⟨_, rfl⟩
  obtain ⟨q, hq⟩ : ∃ p, decide (c ≤ (126 : UInt8)) = p := ⟨_, rfl⟩
  have hR : printedP c = (p && q) := by unfold printedP; rw [hp, hq]
  rw [hp] at h1
  rw [hq] at h2
  rw [hR]
  clear hp hq hR
  cases p <;> cases q
  all_goals
    go_enter Tryz.func91, Tryz.ntmps91
    go_wp2
    go_ret
    exact ⟨rfl, Kept.refl _ _⟩
set_option maxHeartbeats 1000000 in
theorem digit_is : MayK 115 digitP := by
  intro c W
  have h1 := ge_u8 48 c 48 rfl
  have h2 := le_u8 57 c 57 rfl
  obtain ⟨p, hp⟩ : ∃ p, decide ((48 : UInt8) ≤ c) = p := ⟨_, rfl⟩
  obtain ⟨q, hq⟩ : ∃ p, decide (c ≤ (57 : UInt8)) = p := ⟨_, rfl⟩
  have hR : digitP c = (p && q) := by unfold digitP; rw [hp, hq]
  rw [hp] at h1
  rw [hq] at h2
  rw [hR]
  clear hp hq hR
  cases p <;> cases q
  all_goals
    go_enter Tryz.func115, Tryz.ntmps115
    go_wp2
    go_ret
    exact ⟨rfl, Kept.refl _ _⟩
theorem sign_fin : ∀ c : Fin 256, decide (0 ≤ Lib.indexByte signsL (UInt8.ofNat c.val)) = signsL.contains (UInt8.ofNat c.val) := by decide +kernel
theorem sign_is (c : UInt8) : decide (0 ≤ Lib.indexByte signsL c) = signsL.contains c := by
  have := sign_fin ⟨c.toNat, c.toNat_lt⟩
  simpa only [UInt8.ofNat_toNat] using this
set_option maxHeartbeats 2000000 in
theorem ofName_is : MayK 104 ofNameP := by
  intro c W
  have h1 := ge_u8 97 c 97 rfl
  have h2 := le_u8 122 c 122 rfl
  obtain ⟨p, hp⟩ : ∃ p, decide ((97 : UInt8) ≤ c) = p := ⟨_, rfl⟩
  obtain ⟨q, hq⟩ : ∃ p, decide (c ≤ (122 : UInt8)) = p := ⟨_, rfl⟩
  have CP := capital_is c
  have DG := digit_is c
  obtain ⟨a, ha⟩ : ∃ a, capitalP c = a := ⟨_, rfl⟩
  obtain ⟨b, hb⟩ : ∃ b, digitP c = b := ⟨_, rfl⟩
  obtain ⟨z, hz⟩ : ∃ z, Lib.indexByte signsL c = z := ⟨_, rfl⟩
  obtain ⟨d, hd⟩ : ∃ d, decide (0 ≤ z) = d := ⟨_, rfl⟩
  have hs : signsL.contains c = d := by rw [← sign_is, hz, hd]
  have IX : ∀ W, Calls Tryz.prog 121 #[.string ⟨#[33, 35, 36, 37, 38, 39, 42, 43, 45, 46, 94, 95, 124, 126, 96]⟩, .int .u8 c.toNat] W fun e w' => e = .returned (.int .i64 z) ∧ w' = W := fun W => by
    have := Tryz.strings_IndexByte ⟨#[33, 35, 36, 37, 38, 39, 42, 43, 45, 46, 94, 95, 124, 126, 96]⟩ c.toNat W
    rw [show (c.toNat : Int).toNat.toUInt8 = c by simp] at this
    rw [← hz]
    exact this
  have hR : ofNameP c = (a || (p && q) || b || d) := by unfold ofNameP; rw [hp, hq, ha, hb, hs]
  rw [ha] at CP
  rw [hb] at DG
  rw [hp] at h1
  rw [hq] at h2
  rw [hR]
  have CP' := Lib.hid CP
  have DG' := Lib.hid DG
  have IX' := Lib.hid IX
  clear hp hq hR ha hb hz hs CP DG IX
  cases a <;> cases p <;> cases q <;> cases b <;> cases d
  all_goals
    go_enter Tryz.func104, Tryz.ntmps104
    go_wp2_with (first
      | (go_at_call 79; refine (CP'.out _).mono ?_; rintro e w1 ⟨rfl, hk1⟩)
      | (go_at_call 115; refine (DG'.out _).mono ?_; rintro e w2 ⟨rfl, hk2⟩)
      | (go_at_call 121; refine (IX'.out _).mono ?_; rintro e w3 ⟨rfl, rfl⟩))
    go_ret
    refine ⟨rfl, ?_⟩
    first
      | exact hk1.tr hk2
      | exact hk1
/-- .. as a function value. -/
structure MayC (k : FuncId) (p : UInt8 → Bool) : Prop where
  enters : ∀ args w, (callFunc k args).run Tryz.prog w = .ok (.enter k args) w
  is : MayK k p
theorem capital_may : MayC 79 capitalP := ⟨enters_of Tryz.func79 (by kernel_rfl) rfl, capital_is⟩
theorem shown_may : MayC 80 shownP := ⟨enters_of Tryz.func80 (by kernel_rfl) rfl, shown_is⟩
theorem printed_may : MayC 91 printedP := ⟨enters_of Tryz.func91 (by kernel_rfl) rfl, printed_is⟩
theorem digit_may : MayC 115 digitP := ⟨enters_of Tryz.func115 (by kernel_rfl) rfl, digit_is⟩
theorem ofName_may : MayC 104 ofNameP := ⟨enters_of Tryz.func104 (by kernel_rfl) rfl, ofName_is⟩
end Go.Proofs.YtaomhkgdbobpkaaGreatDoor

namespace Go.Proofs.YtaomhkgdbobpkaaGreatDoor
open Go.RowKit Wi

/-- A byte of a text. -/
theorem run_at (s : List UInt8) (i : Nat) (c : UInt8) (hc : s[i]? = some c) (w : World) : (Instr.index 9 (S s) (.int .i64 (i : Int))).run Tryz.prog w = .ok (.int .u8 c.toNat) w := by
  obtain ⟨h, he⟩ := List.getElem?_eq_some_iff.1 hc
  exact run_index_str (P := Tryz.prog) Tryz.underlying9 ⟨s.toArray⟩ i i rfl (by rw [size_mk]; exact h) c he w
theorem all_take (p : UInt8 → Bool) {s : List UInt8} {i : Nat} {c : UInt8} (hc : s[i]? = some c) (h : (s.take i).all p = true) : (s.take (i + 1)).all p = p c := by
  rw [List.take_add_one, hc, List.all_append, h]
  simp
set_option maxHeartbeats 2000000 in
set_option maxRecDepth 100000 in
theorem only_any (s : List UInt8) (least most : Nat) (k : FuncId) (p : UInt8 → Bool) (w : World) (hm : MayC k p) (hs : s.length ≤ 4611686018427387904) (_hl : least ≤ 1000000) (_hb : most ≤ 1000000) :
    Calls Tryz.prog 78 #[S s, .int .i64 least, .int .i64 most, .func (.func k) #[] #[]] w fun e w' => e = .returned (.bool (onlyP s least most p)) ∧ Kept (fun _ => True) w w' := by
  have hsz : (⟨s.toArray⟩ : ByteArray).size = s.length := size_mk s
  have HM := Lib.hid hm.is
  have eg := hm.enters
  clear hm
  go_enter Tryz.func78, Tryz.ntmps78
  go_wp2_with fail
  go_loopg [9, 12] s.length (fun q _ n wr => ∃ i : Nat, n = .int .i64 i ∧ q = s.length - i ∧ i ≤ s.length ∧ Hid ((s.take i).all p = true) ∧ Hid (Kept (fun _ => True) w wr))
  case atStart => exact ⟨0, rfl, rfl, Nat.zero_le _, Lib.hid (by simp), Lib.hid (Kept.refl _ _)⟩
  case round =>
    obtain ⟨i, rfl, rfl, hi, HA, HK⟩ := hrel
    by_cases hlt : i < s.length
    · obtain ⟨c, hc⟩ : ∃ c, s[i]? = some c := ⟨s[i], List.getElem?_eq_getElem hlt⟩
      have hi0 : (0 : Int) ≤ (i : Int) := by omega
      have hI := run_at s i c hc
      have HC := Lib.hid (HM.out c wr)
      have HT := Lib.hid (all_take p hc HA.out)
      have HO : Hid (p c = false → onlyP s least most p = false) := Lib.hid (fun h => by
        have : s.all p = false := by
          rw [List.all_eq_false]
          exact ⟨c, List.mem_of_getElem? hc, by rw [h]; simp⟩
        unfold onlyP
        rw [this]
        simp)
      obtain ⟨b, hb⟩ : ∃ b, p c = b := ⟨_, rfl⟩
      rw [hb] at HC HT HO
      clear hc hb
      cases b
      · go_wp2_with (refine HC.out.mono ?_; rintro e w1 ⟨rfl, hk1⟩)
        go_ret
        exact ⟨ret_bool (HO.out trivial).symm, HK.out.tr hk1⟩
      · go_wp2_with (refine HC.out.mono ?_; rintro e w1 ⟨rfl, hk1⟩)
        go_roundg (s.length - (i + 1))
        case rel => exact ⟨i + 1, by go_num, rfl, by omega, HT, Lib.hid (HK.out.tr hk1)⟩
        case measure => omega
    · obtain rfl : i = s.length := by omega
      have HO : Hid (onlyP s least most p = (decide (least ≤ s.length) && decide (s.length ≤ most))) := Lib.hid (by
        have := HA.out
        rw [List.take_length] at this
        unfold onlyP
        rw [this]
        simp)
      by_cases h1 : least ≤ s.length
      · by_cases h2 : s.length ≤ most
        · go_wp2
          go_ret
          exact ⟨ret_bool (by rw [HO.out]; simp [h1, h2]), HK.out⟩
        · go_wp2
          go_ret
          exact ⟨ret_bool (by rw [HO.out]; simp [h2]), HK.out⟩
      · go_wp2
        go_ret
        exact ⟨ret_bool (by rw [HO.out]; simp [h1]), HK.out⟩
set_option maxHeartbeats 1000000 in
theorem isMethod_any (s : List UInt8) (w : World) (hs : s.length ≤ 4611686018427387904) : Calls Tryz.prog 50 #[S s] w fun e w' => e = .returned (.bool (isMethodP s)) ∧ Kept (fun _ => True) w w' := by
  have O := Lib.hid (only_any s 1 16 _ capitalP w capital_may hs (by omega) (by omega))
  go_enter Tryz.func50, Tryz.ntmps50
  go_wp2_with (refine O.out.mono ?_; rintro e w1 ⟨rfl, hk1⟩)
  go_ret
  exact ⟨rfl, hk1⟩
set_option maxHeartbeats 1000000 in
theorem isName_any (s : List UInt8) (w : World) (hs : s.length ≤ 4611686018427387904) : Calls Tryz.prog 90 #[S s] w fun e w' => e = .returned (.bool (isNameP s)) ∧ Kept (fun _ => True) w w' := by
  have O := Lib.hid (only_any s 1 40 _ ofNameP w ofName_may hs (by omega) (by omega))
  go_enter Tryz.func90, Tryz.ntmps90
  go_wp2_with (refine O.out.mono ?_; rintro e w1 ⟨rfl, hk1⟩)
  go_ret
  exact ⟨rfl, hk1⟩
set_option maxHeartbeats 1000000 in
theorem isPath_any (s : List UInt8) (w : World) (hs : s.length ≤ 4611686018427387904) : Calls Tryz.prog 51 #[S s] w fun e w' => e = .returned (.bool (isPathP s)) ∧ Kept (fun _ => True) w w' := by
  have O := Lib.hid (only_any s 1 200 _ shownP w shown_may hs (by omega) (by omega))
  cases s with
  | nil =>
    have hR : onlyP [] 1 200 shownP = false := by decide
    rw [hR] at O
    go_enter Tryz.func51, Tryz.ntmps51
    go_wp2_with (refine O.out.mono ?_; rintro e w1 ⟨rfl, hk1⟩)
    go_ret
    exact ⟨rfl, hk1⟩
  | cons c r =>
    have hR : isPathP (c :: r) = (onlyP (c :: r) 1 200 shownP && decide (c = 47)) := by
      unfold isPathP
      congr 1
    have hI := run_at (c :: r) 0 c rfl
    have hb := byte_is c 47 47 rfl
    have hsz : (⟨(c :: r).toArray⟩ : ByteArray).size = r.length + 1 := size_mk (c :: r)
    obtain ⟨x, hx⟩ : ∃ x, onlyP (c :: r) 1 200 shownP = x := ⟨_, rfl⟩
    obtain ⟨y, hy⟩ : ∃ y, decide (c = 47) = y := ⟨_, rfl⟩
    rw [hx, hy] at hR
    rw [hx] at O
    rw [hy] at hb
    rw [hR]
    simp only [List.length_cons] at hs
    clear hx hy hR
    cases x <;> cases y
    all_goals
      go_enter Tryz.func51, Tryz.ntmps51
      go_wp2_with (refine O.out.mono ?_; rintro e w1 ⟨rfl, hk1⟩)
      go_ret
      first
        | exact ⟨rfl, hk1⟩
        | exact ⟨ret_bool hb, hk1⟩
end Go.Proofs.YtaomhkgdbobpkaaGreatDoor

namespace Go.Proofs.YtaomhkgdbobpkaaGreatDoor
open Go.RowKit Wi

/-- The block B holds the bytes of s, the first i of which are small letters. -/
def LowAt (B : Nat) (s : List UInt8) (i : Nat) (w : World) : Prop := ∃ (cs : Array Value) (fz : Nat × Nat), w.heap[B]? = some (.cells cs 5 fz) ∧ s.length ≤ fz.1 ∧ ∀ (j : Nat) c, s[j]? = some c → cs[j]? = some (.int .u8 (if j < i then lowC c else c).toNat)
theorem LowAt.new (w : World) (s : List UInt8) (cap : Nat) : LowAt w.heap.size s 0 (w.drew.alloc (.cells (bytesRow ⟨s.toArray⟩ cap) 5 ((bytesRow ⟨s.toArray⟩ cap).size, (bytesRow ⟨s.toArray⟩ cap).size + 1))) := by
  refine ⟨_, _, heap_alloc_new _ _, ?_, fun j c hj => ?_⟩
  · simp [bytesRow]
  · have hl : j < s.length := (List.getElem?_eq_some_iff.1 hj).1
    rw [bytesRow_at ⟨s.toArray⟩ cap j (by simpa using hl)]
    simp only [Nat.not_lt_zero, if_false]
    rw [List.getElem?_eq_getElem hl] at hj
    simp at hj ⊢
    rw [hj]
theorem LowAt.facts {B i : Nat} {s : List UInt8} {w : World} (h : LowAt B s i w) {c : UInt8} (hc : s[i]? = some c) : w.cell? ⟨B, i, none⟩ = some (.int .u8 c.toNat) ∧ w.frozen? ⟨B, i, none⟩ = false := by
  obtain ⟨cs, fz, hb, hl, hcs⟩ := h
  have hi : i < s.length := (List.getElem?_eq_some_iff.1 hc).1
  have := hcs i c hc
  rw [if_neg (Nat.lt_irrefl i)] at this
  refine ⟨?_, ?_⟩
  · unfold World.cell?; rw [hb]; exact this
  · unfold World.frozen?; rw [hb]; simp; omega
theorem LowAt.same {B i : Nat} {s : List UInt8} {w : World} (h : LowAt B s i w) {c : UInt8} (hc : s[i]? = some c) (hl : lowC c = c) : LowAt B s (i + 1) w := by
  obtain ⟨cs, fz, hb, hf, hcs⟩ := h
  refine ⟨cs, fz, hb, hf, fun j d hj => ?_⟩
  rw [hcs j d hj]
  by_cases e : j = i
  · subst e
    obtain rfl : c = d := Option.some.inj (hc.symm.trans hj)
    rw [if_neg (Nat.lt_irrefl j), if_pos (Nat.lt_succ_self j), hl]
  · by_cases h2 : j < i
    · rw [if_pos h2, if_pos (by omega)]
    · rw [if_neg h2, if_neg (by omega)]
theorem LowAt.put {B i : Nat} {s : List UInt8} {w : World} (h : LowAt B s i w) {c : UInt8} (hc : s[i]? = some c) (v : Value) (hv : v = .int .u8 (lowC c).toNat) : LowAt B s (i + 1) (w.setCell ⟨B, i, none⟩ v) := by
  subst hv
  obtain ⟨cs, fz, hb, hf, hcs⟩ := h
  refine ⟨_, fz, setCell_heap hb _, hf, fun j d hj => ?_⟩
  by_cases e : j = i
  · subst e
    obtain rfl : c = d := Option.some.inj (hc.symm.trans hj)
    have := (Array.getElem?_eq_some_iff.1 (hcs j c hj)).1
    rw [Array.getElem?_setIfInBounds_self_of_lt this, if_pos (Nat.lt_succ_self j)]
  · rw [Array.getElem?_setIfInBounds_ne (fun e' => e e'.symm), hcs j d hj]
    by_cases h2 : j < i
    · rw [if_pos h2, if_pos (by omega)]
    · rw [if_neg h2, if_neg (by omega)]
theorem LowAt.back {B : Nat} {s : List UInt8} {w : World} (h : LowAt B s s.length w) (cap : Nat) : (convert 81 9 (.slice (some ⟨B, 0, none⟩) s.length cap)).run Tryz.prog w = .ok (S (low s)) w := by
  obtain ⟨cs, fz, hb, hf, hcs⟩ := h
  have := run_convert_bytes_back (P := Tryz.prog) w 81 9 5 ⟨B, 0, none⟩ cap (low s) Tryz.underlying81 Tryz.underlying5 Tryz.underlying9 (fun j hj => by
    have hj2 : j < s.length := by simpa [low] using hj
    have h1 := hcs j s[j] (List.getElem?_eq_getElem hj2)
    rw [if_pos hj2] at h1
    have ha : (⟨B, 0, none⟩ : Addr).add j = ⟨B, j, none⟩ := by unfold Addr.add; split <;> simp_all
    rw [ha]
    unfold World.cell?
    rw [hb]
    simp only [low, List.getElem_map]
    exact h1)
  rw [show (low s).length = s.length by simp [low]] at this
  exact this
theorem lowC_no {c : UInt8} (h : ¬ (65 ≤ c ∧ c ≤ 90)) : lowC c = c := by unfold lowC; rw [if_neg h]
theorem low_fin : ∀ c : Fin 256, 65 ≤ UInt8.ofNat c.val ∧ UInt8.ofNat c.val ≤ 90 → ((UInt8.ofNat c.val).toNat : Int) + 97 - 65 = ((lowC (UInt8.ofNat c.val)).toNat : Int) := by decide +kernel
theorem low_is (c : UInt8) (h : 65 ≤ c ∧ c ≤ 90) : (c.toNat : Int) + 97 - 65 = ((lowC c).toNat : Int) := by
  have := low_fin ⟨c.toNat, c.toNat_lt⟩
  simp only [UInt8.ofNat_toNat] at this
  exact this h
set_option maxHeartbeats 2000000 in
set_option maxRecDepth 100000 in
theorem lower_any (s : List UInt8) (w : World) (hs : s.length ≤ 4611686018427387904) :
    Calls Tryz.prog 55 #[S s] w fun e w' => e = .returned (S (low s)) ∧ Kept (fun _ => True) w w' := by
  have hsz : (⟨s.toArray⟩ : ByteArray).size = s.length := size_mk s
  obtain ⟨cap, hcap⟩ : ∃ cap, grownCap w (⟨s.toArray⟩ : ByteArray).size 0 5 = cap := ⟨_, rfl⟩
  have hcv := run_bytes_of_string (P := Tryz.prog) w 9 81 5 ⟨s.toArray⟩ Tryz.underlying9 Tryz.underlying81 Tryz.underlying5
  rw [hcap] at hcv
  have HL := Lib.hid (LowAt.new w s cap)
  obtain ⟨W1, hW1⟩ : ∃ W1, w.drew.alloc (.cells (bytesRow ⟨s.toArray⟩ cap) 5 ((bytesRow ⟨s.toArray⟩ cap).size, (bytesRow ⟨s.toArray⟩ cap).size + 1)) = W1 := ⟨_, rfl⟩
  have hk1 : Kept (fun _ => True) w W1 := by rw [← hW1]; exact ((Kept.refl _ w).drew).alloc _
  rw [hW1] at hcv HL
  rw [hsz] at hcv
  have HK1 := Lib.hid hk1
  clear hk1 hW1 hcap
  go_enter Tryz.func55, Tryz.ntmps55
  go_wp2_with fail
  go_loopg [4, 5, 10] s.length (fun q _ _ n wr => ∃ i : Nat, n = .int .i64 i ∧ q = s.length - i ∧ i ≤ s.length ∧ Hid (LowAt w.heap.size s i wr) ∧ Hid (Kept (fun _ => True) w wr))
  case atStart => exact ⟨0, rfl, rfl, Nat.zero_le _, HL, HK1⟩
  case round =>
    clear HL HK1 hcv
    obtain ⟨i, rfl, rfl, hi, HL, HK⟩ := hrel
    by_cases hlt : i < s.length
    · obtain ⟨c, hc⟩ : ∃ c, s[i]? = some c := ⟨s[i], List.getElem?_eq_getElem hlt⟩
      obtain ⟨f0, f1⟩ := HL.out.facts hc
      by_cases hu : 65 ≤ c ∧ c ≤ 90
      · have hw := low_is c hu
        have h1 : (65 : Int) ≤ (c.toNat : Int) := by have := UInt8.le_iff_toNat_le.1 hu.1; have e : (65 : UInt8).toNat = 65 := rfl; omega
        have h2 : (c.toNat : Int) ≤ 90 := by have := UInt8.le_iff_toNat_le.1 hu.2; have e : (90 : UInt8).toNat = 90 := rfl; omega
        have HP := Lib.hid (HL.out.put hc (.int .u8 ((c.toNat : Int) + 97 - 65)) (by rw [hw]))
        have HK2 := Lib.hid (HK.out.setCell (p := ⟨w.heap.size, i, none⟩) (.inl (Nat.le_refl _)) (.int .u8 ((c.toNat : Int) + 97 - 65)))
        clear hw
        clear hc hu
        go_wp2
        go_roundg (s.length - (i + 1))
        case rel => exact ⟨i + 1, by go_num, rfl, by omega, HP, HK2⟩
        case measure => omega
      · have HP := Lib.hid (HL.out.same hc (lowC_no hu))
        have h1 : ¬ (65 : Int) ≤ (c.toNat : Int) ∨ ¬ (c.toNat : Int) ≤ 90 := by
          by_cases h : 65 ≤ c
          · right; intro h2; exact hu ⟨h, UInt8.le_iff_toNat_le.2 (by have e : (90 : UInt8).toNat = 90 := rfl; omega)⟩
          · left; intro h2; exact h (UInt8.le_iff_toNat_le.2 (by have e : (65 : UInt8).toNat = 65 := rfl; omega))
        clear hc hu
        rcases h1 with h1 | h1
        · go_wp2
          go_roundg (s.length - (i + 1))
          case rel => exact ⟨i + 1, by go_num, rfl, by omega, HP, HK⟩
          case measure => omega
        · by_cases h2 : (65 : Int) ≤ (c.toNat : Int)
          · go_wp2
            go_roundg (s.length - (i + 1))
            case rel => exact ⟨i + 1, by go_num, rfl, by omega, HP, HK⟩
            case measure => omega
          · go_wp2
            go_roundg (s.length - (i + 1))
            case rel => exact ⟨i + 1, by go_num, rfl, by omega, HP, HK⟩
            case measure => omega
    · obtain rfl : i = s.length := by omega
      have hb := HL.out.back cap
      go_wp2
      go_ret
      exact ⟨rfl, HK.out⟩
end Go.Proofs.YtaomhkgdbobpkaaGreatDoor

namespace Go.Proofs.YtaomhkgdbobpkaaGreatDoor
open Go.RowKit Wi

/-- A field's two texts at block g. -/
def FAt (g : Nat) (f : Fl) (w : World) : Prop := w.heap[g]? = some (.cells #[S f.1, S f.2] 61 (0, 0))
theorem FAt.lt {g : Nat} {f : Fl} {w : World} (h : FAt g f w) : g < w.heap.size := (Array.getElem?_eq_some_iff.1 h).1
theorem FAt.facts {g : Nat} {f : Fl} {w : World} (h : FAt g f w) : w.cell? ⟨g, 0, none⟩ = some (S f.1) ∧ w.cell? ⟨g, 1, none⟩ = some (S f.2) := by
  unfold FAt at h
  refine ⟨?_, ?_⟩ <;> rw [cell_of_row w g _ _ _ (0, 0) h] <;> rfl
theorem FAt.kept {g : Nat} {f : Fl} {w w' : World} {ok : Nat → Prop} (h : FAt g f w) (hk : Kept ok w w') (ho : ok g) : FAt g f w' := (hk.block g h.lt ho).trans h
set_option maxHeartbeats 4000000 in
set_option maxRecDepth 100000 in
theorem isHeader_any (f : Fl) (w : World) (h1 : f.1.length ≤ 1099511627776) (h2 : f.2.length ≤ 1099511627776) :
    Calls Tryz.prog 75 #[.agg #[S f.1, S f.2]] w fun e w' => e = .returned (.bool (isHeaderP f)) ∧ Kept (fun _ => True) w w' := by
  obtain ⟨n, v⟩ := f
  simp only at h1 h2
  obtain ⟨W0, hW0⟩ : ∃ W0, w.alloc (.cells #[S n, S v] 61) = W0 := ⟨_, rfl⟩
  have hk0 : Kept (fun _ => True) w W0 := by rw [← hW0]; exact (Kept.refl _ w).alloc _
  have hbox : FAt w.heap.size (n, v) W0 := by rw [← hW0]; exact heap_alloc_new w _
  have HB := Lib.hid hbox
  have HK0 := Lib.hid hk0
  have NM := Lib.hid (fun W => isName_any n W (by omega))
  have LW := Lib.hid (fun W => lower_any n W (by omega))
  have OV := Lib.hid (fun W => only_any v 0 1000 _ printedP W printed_may (by omega) (by omega) (by omega))
  obtain ⟨B, hB⟩ : ∃ B, bareP v = B := ⟨_, rfl⟩
  obtain ⟨a, ha⟩ : ∃ a, isNameP n = a := ⟨_, rfl⟩
  obtain ⟨b, hb⟩ : ∃ b, onlyP v 0 1000 printedP = b := ⟨_, rfl⟩
  obtain ⟨l, hl⟩ : ∃ l, low n = l := ⟨_, rfl⟩
  have HR : Hid (isHeaderP (n, v) = (a && b && B && decide (n.length + 2 + v.length ≤ 1000) && (l != lengthN) && (l != codingN))) := Lib.hid (by unfold isHeaderP; rw [ha, hb, hB, hl])
  rw [ha] at NM
  rw [hb] at OV
  rw [hl] at LW
  have HBB := Lib.hid hB
  have hnz : (⟨n.toArray⟩ : ByteArray).size = n.length := size_mk n
  have hvz : (⟨v.toArray⟩ : ByteArray).size = v.length := size_mk v
  obtain ⟨o0, o1⟩ := hbox.facts
  clear hbox hk0 hB ha hb hl
  simp only at o0 o1
  go_enter Tryz.func75, Tryz.ntmps75
  go_upto_region 2 with fail
  go_cut [4] (fun y wx => y = .bool B ∧ wx = W0)
  case first =>
    cases v with
    | nil =>
      obtain rfl : true = B := by rw [← HBB.out]; rfl
      go_wp2
      go_meet
      exact ⟨rfl, rfl⟩
    | cons x r =>
      obtain ⟨y, hyi⟩ : ∃ y, (x :: r)[r.length]? = some y := ⟨_, List.getElem?_eq_getElem (by simp)⟩
      have hy : (x :: r).getLast? = some y := by rw [List.getLast?_eq_getElem?]; exact hyi
      have hz0 : (((r.length : Int) + 1) == 0) = false := by rw [beq_eq_false_iff_ne]; omega
      have hx2 := run_at (x :: r) r.length y hyi
      have e1 := byte_is x 32 32 rfl
      have e2 := byte_is y 32 32 rfl
      have hBe : B = (!decide (x = 32) && !decide (y = 32)) := by
        rw [← HBB.out]
        unfold bareP
        rw [hy]
        by_cases k1 : x = 32 <;> by_cases k2 : y = 32 <;> simp [k1, k2]
      simp only [List.length_cons] at hvz h2
      have hsub : ((r.length + 1 : Nat) : Int) - 1 = (r.length : Int) := by omega
      obtain ⟨p, hp⟩ : ∃ p, decide (x = 32) = p := ⟨_, rfl⟩
      obtain ⟨q, hq⟩ : ∃ q, decide (y = 32) = q := ⟨_, rfl⟩
      rw [hp, hq] at hBe
      rw [hp] at e1
      rw [hq] at e2
      have h0s : 0 < (⟨(x :: r).toArray⟩ : ByteArray).size := by rw [hvz]; omega
      have e3 : ((((⟨(x :: r).toArray⟩ : ByteArray)[0]'h0s).toNat : Int) == 32) = p := e1
      have e4 : ((((⟨(x :: r).toArray⟩ : ByteArray)[0]'h0s).toNat : Int) != 32) = !p := by rw [bne, e3]
      have e5 : ((y.toNat : Int) != 32) = !q := by rw [bne, e2]
      clear hp hq hyi hy
      subst hBe
      cases p <;> cases q
      all_goals
        simp only [Bool.not_true, Bool.not_false] at e4 e5
        go_wp2
        all_goals
          go_meet
          first
            | exact ⟨rfl, rfl⟩
            | (exfalso; simp_all; done)
  case rest =>
  obtain ⟨rfl, rfl⟩ := hcut
  have hkc : Kept (fun _ => True) w wc := HK0.out
  clear hW0
  go_wp2_with fail
  refine (LW.out _).mono ?_
  rintro e w1 ⟨rfl, hk1⟩
  obtain ⟨o2, o3⟩ := (HB.out.kept hk1 trivial).facts
  simp only at o2 o3
  have hka := hkc.tr hk1
  clear hkc o0 o1
  go_wp2_with fail
  refine (NM.out _).mono ?_
  rintro e w2 ⟨rfl, hk2⟩
  obtain ⟨o4, o5⟩ := (HB.out.kept (hk1.tr hk2) trivial).facts
  simp only at o4 o5
  have hkb := hka.tr hk2
  clear o2 o3
  cases a with
  | false =>
    go_wp2
    go_ret
    exact ⟨ret_bool (by rw [HR.out]; rfl), hkb⟩
  | true =>
    go_wp2_with fail
    refine (OV.out _).mono ?_
    rintro e w3 ⟨rfl, hk3⟩
    obtain ⟨o2, o3⟩ := (HB.out.kept ((hk1.tr hk2).tr hk3) trivial).facts
    simp only at o2 o3
    have hkd := hkb.tr hk3
    clear o4 o5
    by_cases hlen : n.length + 2 + v.length ≤ 1000
    · have hl2 : (n.length : Int) + 2 + (v.length : Int) ≤ 1000 := by omega
      by_cases e1 : l = lengthN
      · have HF : Hid (isHeaderP (n, v) = false) := Lib.hid (by rw [HR.out, e1]; simp)
        have q1 : (l == [99, 111, 110, 116, 101, 110, 116, 45, 108, 101, 110, 103, 116, 104]) = true := by rw [e1]; rfl
        clear e1
        cases b <;> cases B
        all_goals
          go_wp2
          go_ret
          exact ⟨ret_bool HF.out.symm, hkd⟩
      · have q1 : (l == [99, 111, 110, 116, 101, 110, 116, 45, 108, 101, 110, 103, 116, 104]) = false := beq_eq_false_iff_ne.2 e1
        by_cases e2 : l = codingN
        · have HF : Hid (isHeaderP (n, v) = false) := Lib.hid (by rw [HR.out, e2]; simp)
          have q2 : (l == [116, 114, 97, 110, 115, 102, 101, 114, 45, 101, 110, 99, 111, 100, 105, 110, 103]) = true := by rw [e2]; rfl
          clear e1 e2
          cases b <;> cases B
          all_goals
            go_wp2
            go_ret
            exact ⟨ret_bool HF.out.symm, hkd⟩
        · have q2 : (l == [116, 114, 97, 110, 115, 102, 101, 114, 45, 101, 110, 99, 111, 100, 105, 110, 103]) = false := beq_eq_false_iff_ne.2 e2
          have HF : Hid (isHeaderP (n, v) = (b && B)) := Lib.hid (by rw [HR.out, bne_iff_ne.2 e1, bne_iff_ne.2 e2, decide_eq_true hlen]; simp)
          clear e1 e2
          cases b <;> cases B
          all_goals
            go_wp2
            go_ret
            exact ⟨ret_bool HF.out.symm, hkd⟩
    · have hl2 : ¬ ((n.length : Int) + 2 + (v.length : Int) ≤ 1000) := by omega
      have HF : Hid (isHeaderP (n, v) = false) := Lib.hid (by rw [HR.out]; simp [hlen])
      cases b <;> cases B
      all_goals
        go_wp2
        go_ret
        exact ⟨ret_bool HF.out.symm, hkd⟩
end Go.Proofs.YtaomhkgdbobpkaaGreatDoor
