/- Walks of the reference's reader (layer 4), third part: four digits, the bytes of a letter, what stands behind a backslash. -/
import Derived.Test.YtmajpambfblhnaaGreatDoorJoU1
import Derived.Test.YtmajpambfblhnaaGreatDoorJoPlainC
namespace Go.Proofs.YtmajpambfblhnaaGreatDoor
open Go.RowKit Jo

/-- A conversion of a row that has just been made: its bytes as a text. -/
theorem run_row_string {P : Program} {src dst e : TypeId} (hs : P.underlying src = some (.slice e)) (he : P.underlying e = some (.int .u8)) (hd : P.underlying dst = some .string) (wr : World) (bs : List UInt8) (vs : Array Value) (hvs : vs = (Lib.byteCells bs).toArray) (g n c : Nat) (hg : g = wr.heap.size) (hn : n = bs.length) :
    (convert src dst (.slice (some ⟨g, 0, none⟩) n c)).run P (wr.alloc (.cells vs e)) = .ok (S bs) (wr.alloc (.cells vs e)) := by
  subst hn hvs hg
  refine run_convert_bytes_back (P := P) _ src dst e ⟨wr.heap.size, 0, none⟩ c bs hs he hd (fun j hj => ?_)
  have hadd : (⟨wr.heap.size, 0, none⟩ : Addr).add j = ⟨wr.heap.size, j, none⟩ := by unfold Addr.add; split <;> simp_all
  rw [hadd, cell_of_row _ wr.heap.size j _ e (0, 0) (heap_alloc_new wr _)]
  simp [Lib.byteCells, hj]
theorem rbad {α : Type} {g : Nat} {s : List UInt8} {d : Nat} {w w' : World} {R : PR α} {Q : α → Ending → World → Prop} {F : Ending → Prop} {x : Int} {i : Nat} {e : Ending} (hR : R = .bad x i) (hF : F e) (hr : RA g s i x d w') (hi : i ≤ s.length) (hk : Kept (· ≠ g) w w') : RRd g s d w R Q F e w' := by
  rw [hR]; exact ⟨hF, ⟨d, hr⟩, hi, hk⟩

theorem four_cls (s : List UInt8) (lower : Bool) (i j : Nat) (n z : Int) (R : PR Int) (hlt : j < 4) (hz : -1 ≤ z ∧ z ≤ 15)
    (HQ : R = if z < 0 ∨ (lower = true ∧ 3 - j = 3 ∧ z ≠ 13) ∨ (3 - j = 2 ∧ n = 13 ∧ lower ≠ decide (12 ≤ z)) then .bad 40 (i + j) else fourL s lower (3 - j) (16 * n + z) (i + j + 1)) :
    (Hid (R = .bad 40 (i + j)) ∧ (z < 0 ∨ (0 ≤ z ∧ lower = true ∧ j = 0 ∧ z < 13) ∨ (0 ≤ z ∧ lower = true ∧ j = 0 ∧ 13 < z) ∨ (0 ≤ z ∧ lower = true ∧ j = 1 ∧ n = 13 ∧ z < 12) ∨ (0 ≤ z ∧ lower = false ∧ j = 1 ∧ n = 13 ∧ 12 ≤ z))) ∨
    (Hid (fourL s lower (4 - (j + 1)) (16 * n + z) (i + (j + 1)) = R) ∧ 0 ≤ z ∧ ((lower = true ∧ j ≤ 0 ∧ 13 ≤ z ∧ z ≤ 13) ∨ (lower = true ∧ (1 ≤ j ∧ j ≤ 1) ∧ n ≠ 13) ∨ (lower = true ∧ (1 ≤ j ∧ j ≤ 1) ∧ (13 ≤ n ∧ n ≤ 13) ∧ 12 ≤ z) ∨ (lower = true ∧ 2 ≤ j) ∨ (lower = false ∧ (1 ≤ j ∧ j ≤ 1) ∧ n ≠ 13) ∨ (lower = false ∧ (1 ≤ j ∧ j ≤ 1) ∧ (13 ≤ n ∧ n ≤ 13) ∧ z < 12) ∨ (lower = false ∧ j ≠ 1))) := by
  have e1 : i + (j + 1) = i + j + 1 := by omega
  have e2 : 4 - (j + 1) = 3 - j := by omega
  rw [e1, e2]
  by_cases hc : z < 0 ∨ (lower = true ∧ 3 - j = 3 ∧ z ≠ 13) ∨ (3 - j = 2 ∧ n = 13 ∧ lower ≠ decide (12 ≤ z))
  · rw [if_pos hc] at HQ
    refine .inl ⟨Lib.hid HQ, ?_⟩
    rcases hc with h | ⟨rfl, h1, h2⟩ | ⟨h1, rfl, h3⟩
    · exact .inl h
    · by_cases h0 : z < 0
      · exact .inl h0
      · by_cases h13 : z < 13
        · exact .inr (.inl ⟨by omega, rfl, by omega, h13⟩)
        · exact .inr (.inr (.inl ⟨by omega, rfl, by omega, by omega⟩))
    · by_cases h0 : z < 0
      · exact .inl h0
      · cases lower with
        | true =>
          refine .inr (.inr (.inr (.inl ⟨by omega, rfl, by omega, rfl, ?_⟩)))
          by_cases h12 : 12 ≤ z
          · exact absurd (decide_eq_true h12).symm h3
          · omega
        | false =>
          refine .inr (.inr (.inr (.inr ⟨by omega, rfl, by omega, rfl, ?_⟩)))
          by_cases h12 : 12 ≤ z
          · exact h12
          · exact absurd (decide_eq_false h12).symm h3
  · rw [if_neg hc] at HQ
    have h0 : ¬ z < 0 := fun h => hc (.inl h)
    have h1 : ¬ (lower = true ∧ 3 - j = 3 ∧ z ≠ 13) := fun h => hc (.inr (.inl h))
    have h2 : ¬ (3 - j = 2 ∧ n = 13 ∧ lower ≠ decide (12 ≤ z)) := fun h => hc (.inr (.inr h))
    refine .inr ⟨Lib.hid HQ.symm, by omega, ?_⟩
    clear hc HQ
    by_cases j1 : j = 1
    · subst j1
      by_cases n13 : n = 13
      · subst n13
        have h3 : lower = decide (12 ≤ z) := by
          apply Classical.byContradiction
          intro h
          exact h2 ⟨rfl, rfl, h⟩
        cases lower with
        | true => exact .inr (.inr (.inl ⟨rfl, by omega, by omega, of_decide_eq_true h3.symm⟩))
        | false =>
          have := of_decide_eq_false h3.symm
          exact .inr (.inr (.inr (.inr (.inr (.inl ⟨rfl, by omega, by omega, by omega⟩)))))
      · cases lower with
        | true => exact .inr (.inl ⟨rfl, by omega, n13⟩)
        | false => exact .inr (.inr (.inr (.inr (.inl ⟨rfl, by omega, n13⟩))))
    · cases lower with
      | true =>
        by_cases j0 : j = 0
        · subst j0
          have h13 : z = 13 := by
            apply Classical.byContradiction
            intro h
            exact h1 ⟨rfl, rfl, h⟩
          exact .inl ⟨rfl, by omega, by omega, by omega⟩
        · exact .inr (.inr (.inr (.inl ⟨rfl, by omega⟩)))
      | false => exact .inr (.inr (.inr (.inr (.inr (.inr ⟨rfl, j1⟩)))))

set_option maxHeartbeats 8000000 in
set_option maxRecDepth 100000 in
theorem four_any (g : Nat) (s : List UInt8) (lower : Bool) (i d : Nat) (w : World) (hp : RA g s i 0 d w) (hl : s.length ≤ 1000000) (hi : i ≤ s.length) :
    Calls Tryz.prog 132 #[.pointer (some ⟨g, 0, none⟩), .bool lower] w (RRd g s d w (fourL s lower 4 0 i) (fun n e _ => e = .returned (.tuple #[.int .i64 n, .bool true])) (fun e => ∃ n, e = .returned (.tuple #[.int .i64 n, .bool false]))) := by
  have hsz : (⟨s.toArray⟩ : ByteArray).size = s.length := size_mk s
  obtain ⟨R, hR⟩ : ∃ R, fourL s lower 4 0 i = R := ⟨_, rfl⟩
  have HR := Lib.hid hR
  rw [hR]
  clear hR
  go_enter Tryz.func132, Tryz.ntmps132
  go_wp2
  go_loopg [6, 7] 4 (fun q a b wr => ∃ (j : Nat) (n : Int), a = .int .i64 n ∧ b = .int .i64 j ∧ q = 4 - j ∧ j ≤ 4 ∧ RA g s (i + j) 0 d wr ∧ i + j ≤ s.length ∧ 0 ≤ n ∧ n ≤ 65535 ∧ Hid ((j = 0 ∧ n ≤ 0) ∨ (j = 1 ∧ n ≤ 15) ∨ (j = 2 ∧ n ≤ 255) ∨ (j = 3 ∧ n ≤ 4095) ∨ j = 4) ∧ Kept (· ≠ g) w wr ∧ Hid (fourL s lower (4 - j) n (i + j) = R))
  case atStart => exact ⟨0, 0, rfl, rfl, rfl, by omega, hp, hi, by omega, by omega, Lib.hid (by omega), Kept.refl _ _, HR⟩
  case round =>
    clear HR hp hi
    obtain ⟨j, n, rfl, rfl, rfl, hj, hpj, hi, hn0, hn1, hnj, hkj, hRj⟩ := hrel
    have HP := Lib.hid hpj
    obtain ⟨h0, h1, h2, h3, h4, h5, h6⟩ := hpj.facts
    clear hpj
    have HI := Lib.hid hi
    by_cases hlt : j < 4
    · have hR4 : Hid (fourL s lower (3 - j + 1) n (i + j) = R) := Lib.hid (by rw [show 3 - j + 1 = 4 - j by omega]; exact hRj.out)
      clear hRj
      cases hc : s[i + j]? with
      | none =>
        have HN : Hid (R = .bad 40 (i + j)) := Lib.hid (by rw [← hR4.out, fourL, hc])
        have hge : s.length ≤ i + j := List.getElem?_eq_none_iff.1 hc
        have hd : decide ((i + j : Nat) < s.length) = false := by simp; omega
        clear hR4 hc
        go_wp2
        go_quiet (fail)
        go_wp2_with fail
        refine (refwrong_any g s (i + j) d 0 40 _ (HP.out.drewN _)).mono ?_
        rintro x w' ⟨rfl, hp', hk⟩
        go_wp2
        go_ret2
        exact rbad HN.out ⟨_, rfl⟩ hp' HI.out ((hkj.drewN _).tr hk)
      | some c =>
        obtain ⟨hci, hcc⟩ := List.getElem?_eq_some_iff.1 hc
        have hix := run_index_str (P := Tryz.prog) Tryz.underlying9 ⟨s.toArray⟩ ((i : Int) + (j : Int)) (i + j) (by omega) (by rw [hsz]; exact hci) c hcc
        have CN := fun wx => nibble_any c wx
        have hz := hexZ_le c
        have HQ : Hid (R = if hexZ c < 0 ∨ (lower = true ∧ 3 - j = 3 ∧ hexZ c ≠ 13) ∨ (3 - j = 2 ∧ n = 13 ∧ lower ≠ decide (12 ≤ hexZ c)) then .bad 40 (i + j) else fourL s lower (3 - j) (16 * n + hexZ c) (i + j + 1)) := Lib.hid (by rw [← hR4.out, fourL, hc])
        have hi1 : i + j + 1 ≤ s.length := hci
        obtain ⟨z, hzz⟩ : ∃ z, hexZ c = z := ⟨_, rfl⟩
        rw [hzz] at CN hz HQ
        clear hR4 hc hcc hzz
        have CQ := Lib.hid CN
        clear CN
        have hd : decide ((i + j : Nat) < s.length) = true := by simp; omega
        have hge : ¬ s.length ≤ i + j := by omega
        go_wp2
        go_quiet (fail)
        go_wp2
        go_quiet (go_loud (go_at_call 141; exact (CQ.out _).mono (by rintro e w'' ⟨rfl, rfl⟩; exact ⟨rfl, _, rfl⟩)))
        have hcls : (Hid (R = .bad 40 (i + j)) ∧ (z < 0 ∨ (0 ≤ z ∧ lower = true ∧ j = 0 ∧ z < 13) ∨ (0 ≤ z ∧ lower = true ∧ j = 0 ∧ 13 < z) ∨ (0 ≤ z ∧ lower = true ∧ j = 1 ∧ n = 13 ∧ z < 12) ∨ (0 ≤ z ∧ lower = false ∧ j = 1 ∧ n = 13 ∧ 12 ≤ z))) ∨
            (Hid (fourL s lower (4 - (j + 1)) (16 * n + z) (i + (j + 1)) = R) ∧ 0 ≤ z ∧ ((lower = true ∧ j ≤ 0 ∧ 13 ≤ z ∧ z ≤ 13) ∨ (lower = true ∧ (1 ≤ j ∧ j ≤ 1) ∧ n ≠ 13) ∨ (lower = true ∧ (1 ≤ j ∧ j ≤ 1) ∧ (13 ≤ n ∧ n ≤ 13) ∧ 12 ≤ z) ∨ (lower = true ∧ 2 ≤ j) ∨ (lower = false ∧ (1 ≤ j ∧ j ≤ 1) ∧ n ≠ 13) ∨ (lower = false ∧ (1 ≤ j ∧ j ≤ 1) ∧ (13 ≤ n ∧ n ≤ 13) ∧ z < 12) ∨ (lower = false ∧ j ≠ 1))) := four_cls s lower i j n z R hlt hz HQ.out
        clear HQ
        rcases hcls with ⟨HN, hc⟩ | ⟨HN, hz0, hc⟩
        · rcases hc with hc | ⟨hz0, rfl, rfl, hc⟩ | ⟨hz0, rfl, rfl, hc⟩ | ⟨hz0, rfl, rfl, rfl, hc⟩ | ⟨hz0, rfl, rfl, rfl, hc⟩
          all_goals
            first
              | have q12 : decide ((12 : Int) ≤ z) = true := decide_eq_true (by omega)
              | have q12 : decide ((12 : Int) ≤ z) = false := decide_eq_false (by omega)
              | skip
            go_wp2_with fail
            refine (refwrong_any g s _ d 0 40 _ (HP.out.drewN _)).mono ?_
            rintro x w' ⟨rfl, hp', hk⟩
            go_wp2
            go_ret2
            exact rbad HN.out ⟨_, rfl⟩ hp' HI.out ((hkj.drewN _).tr hk)
        · have hn4 : n ≤ 4095 := by have := hnj.out; omega
          rcases hc with ⟨rfl, hje, hc⟩ | ⟨rfl, hje, hc⟩ | ⟨rfl, hje, hne, hc⟩ | ⟨rfl, hc⟩ | ⟨rfl, hje, hc⟩ | ⟨rfl, hje, hne, hc⟩ | ⟨rfl, hc⟩
          all_goals
            first
              | have q12 : decide ((12 : Int) ≤ z) = true := decide_eq_true (by omega)
              | have q12 : decide ((12 : Int) ≤ z) = false := decide_eq_false (by omega)
              | skip
            go_wp2
            go_roundg (4 - (j + 1))
            case rel => exact ⟨j + 1, 16 * n + z, by first | rfl | (congr 1; omega), by go_num, rfl, by omega, (HP.out.drewN _).setAt _ _ (by first | rfl | go_num), by omega, by omega, by omega, Lib.hid (by have := hnj.out; omega), (hkj.drewN _).setCell (.inr (by simp)) _, HN⟩
            case measure => omega
    · obtain rfl : j = 4 := by omega
      have HN : Hid (R = .ok n (i + 4)) := Lib.hid (hRj.out.symm)
      go_wp2
      go_ret2
      rw [HN.out]
      exact ⟨rfl, HP.out, HI.out, hkj⟩
theorem enc_one (n : Int) (h0 : 0 ≤ n) (h1 : n < 128) : Lib.byteCells (Lib.encodeRune n) = [.int .u8 n] := by
  rw [Lib.byteCells_encodeRune, Lib.runeCells, Lib.encodeRuneZ_one h0 (by omega)]; rfl
theorem enc_two (n : Int) (h0 : 128 ≤ n) (h1 : n < 2048) : Lib.byteCells (Lib.encodeRune n) = [.int .u8 (192 + n / 64), .int .u8 (128 + n % 64)] := by
  rw [Lib.byteCells_encodeRune, Lib.runeCells, Lib.encodeRuneZ_two h0 (by omega)]; rfl
theorem enc_three (n : Int) (h : (2048 ≤ n ∧ n < 55296) ∨ (57343 < n ∧ n ≤ 65535)) : Lib.byteCells (Lib.encodeRune n) = [.int .u8 (224 + n / 4096), .int .u8 (128 + n / 64 % 64), .int .u8 (128 + n % 64)] := by
  rw [Lib.byteCells_encodeRune, Lib.runeCells, Lib.encodeRuneZ_three h]; rfl
theorem enc_four (n : Int) (h0 : 65536 ≤ n) (h1 : n ≤ 1114111) : Lib.byteCells (Lib.encodeRune n) = [.int .u8 (240 + n / 262144), .int .u8 (128 + n / 4096 % 64), .int .u8 (128 + n / 64 % 64), .int .u8 (128 + n % 64)] := by
  rw [Lib.byteCells_encodeRune, Lib.runeCells, Lib.encodeRuneZ_four h0 h1]; rfl
theorem enc_len (n : Int) : (Lib.encodeRune n).length = (Lib.byteCells (Lib.encodeRune n)).length := (Lib.byteCells_length _).symm

set_option maxHeartbeats 4000000 in
set_option maxRecDepth 100000 in
theorem refbytes_any (n : Int) (w : World) (h0 : 0 ≤ n) (h1 : n < 55296 ∨ (57343 < n ∧ n ≤ 1114111)) :
    Calls Tryz.prog 133 #[.int .i64 n] w fun e w' => e = .returned (S (Lib.encodeRune n)) ∧ Kept (fun _ => True) w w' := by
  by_cases c1 : n < 128
  · have q1 : IntKind.u8.wrap n = n := IntWalk.u8_in _ (by omega)
    have HC := run_row_string (P := Tryz.prog) (src := 55) (dst := 9) (e := 5) Tryz.underlying55 Tryz.underlying5 Tryz.underlying9 w (Lib.encodeRune n) #[.int .u8 n] (by rw [enc_one n h0 c1]) w.heap.size 1 1 rfl (by rw [enc_len, enc_one n h0 c1]; rfl)
    go_enter Tryz.func133, Tryz.ntmps133
    go_wp2
    go_ret
    exact ⟨rfl, (Kept.refl _ w).alloc _⟩
  · by_cases c2 : n < 2048
    · have q1 : IntKind.u8.wrap (192 + n / 64) = 192 + n / 64 := IntWalk.u8_in _ (by omega)
      have q2 : IntKind.u8.wrap (128 + n % 64) = 128 + n % 64 := IntWalk.u8_in _ (by omega)
      have HC := run_row_string (P := Tryz.prog) (src := 55) (dst := 9) (e := 5) Tryz.underlying55 Tryz.underlying5 Tryz.underlying9 w (Lib.encodeRune n) #[.int .u8 (192 + n / 64), .int .u8 (128 + n % 64)] (by rw [enc_two n (by omega) c2]) w.heap.size 2 2 rfl (by rw [enc_len, enc_two n (by omega) c2]; rfl)
      go_enter Tryz.func133, Tryz.ntmps133
      go_wp2
      go_ret
      exact ⟨rfl, (Kept.refl _ w).alloc _⟩
    · by_cases c3 : n < 65536
      · have hn3 : (2048 ≤ n ∧ n < 55296) ∨ (57343 < n ∧ n ≤ 65535) := by omega
        have q1 : IntKind.u8.wrap (224 + n / 4096) = 224 + n / 4096 := IntWalk.u8_in _ (by omega)
        have q2 : IntKind.u8.wrap (128 + n / 64 % 64) = 128 + n / 64 % 64 := IntWalk.u8_in _ (by omega)
        have q3 : IntKind.u8.wrap (128 + n % 64) = 128 + n % 64 := IntWalk.u8_in _ (by omega)
        have HC := run_row_string (P := Tryz.prog) (src := 55) (dst := 9) (e := 5) Tryz.underlying55 Tryz.underlying5 Tryz.underlying9 w (Lib.encodeRune n) #[.int .u8 (224 + n / 4096), .int .u8 (128 + n / 64 % 64), .int .u8 (128 + n % 64)] (by rw [enc_three n hn3]) w.heap.size 3 3 rfl (by rw [enc_len, enc_three n hn3]; rfl)
        clear hn3
        go_enter Tryz.func133, Tryz.ntmps133
        go_wp2
        go_ret
        exact ⟨rfl, (Kept.refl _ w).alloc _⟩
      · have hn4 : n ≤ 1114111 := by omega
        have q1 : IntKind.u8.wrap (240 + n / 262144) = 240 + n / 262144 := IntWalk.u8_in _ (by omega)
        have q2 : IntKind.u8.wrap (128 + n / 4096 % 64) = 128 + n / 4096 % 64 := IntWalk.u8_in _ (by omega)
        have q3 : IntKind.u8.wrap (128 + n / 64 % 64) = 128 + n / 64 % 64 := IntWalk.u8_in _ (by omega)
        have q4 : IntKind.u8.wrap (128 + n % 64) = 128 + n % 64 := IntWalk.u8_in _ (by omega)
        have HC := run_row_string (P := Tryz.prog) (src := 55) (dst := 9) (e := 5) Tryz.underlying55 Tryz.underlying5 Tryz.underlying9 w (Lib.encodeRune n) #[.int .u8 (240 + n / 262144), .int .u8 (128 + n / 4096 % 64), .int .u8 (128 + n / 64 % 64), .int .u8 (128 + n % 64)] (by rw [enc_four n (by omega) hn4]) w.heap.size 4 4 rfl (by rw [enc_len, enc_four n (by omega) hn4]; rfl)
        go_enter Tryz.func133, Tryz.ntmps133
        go_wp2
        go_ret
        exact ⟨rfl, (Kept.refl _ w).alloc _⟩
end Go.Proofs.YtmajpambfblhnaaGreatDoor
