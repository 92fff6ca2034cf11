/- Walks of the law of layer 5: a text with another byte. -/
import Derived.Test.YtaomhkgdbobpkaaGreatDoorWiT6
namespace Go.Proofs.YtaomhkgdbobpkaaGreatDoor
open Go.RowKit Wi

/-- The block B holds the bytes of t. -/
def BtAt (B : Nat) (t : List UInt8) (w : World) : Prop := ∃ (cs : Array Value) (fz : Nat × Nat), w.heap[B]? = some (.cells cs 5 fz) ∧ t.length ≤ fz.1 ∧ ∀ (j : Nat) c, t[j]? = some c → cs[j]? = some (.int .u8 c.toNat)
theorem LowAt.bytes {B : Nat} {s : List UInt8} {w : World} (h : LowAt B s 0 w) : BtAt B s w := by
  obtain ⟨cs, fz, h1, h2, h3⟩ := h
  exact ⟨cs, fz, h1, h2, fun j c hj => by rw [h3 j c hj, if_neg (Nat.not_lt_zero _)]⟩
theorem BtAt.facts {B i : Nat} {t : List UInt8} {w : World} (h : BtAt B t w) (hi : i < t.length) : (∃ c : UInt8, w.cell? ⟨B, i, none⟩ = some (.int .u8 c.toNat)) ∧ w.frozen? ⟨B, i, none⟩ = false := by
  obtain ⟨cs, fz, hb, hl, hcs⟩ := h
  have := hcs i t[i] (List.getElem?_eq_getElem hi)
  refine ⟨⟨t[i], ?_⟩, ?_⟩
  · unfold World.cell?; rw [hb]; exact this
  · unfold World.frozen?; rw [hb]; simp; omega
theorem BtAt.put {B i : Nat} {t : List UInt8} {w : World} (h : BtAt B t w) (hi : i < t.length) (n : Int) (d : UInt8) (hd : n = d.toNat) : BtAt B (t.set i d) (w.setCell ⟨B, i, none⟩ (.int .u8 n)) := by
  subst hd
  obtain ⟨cs, fz, hb, hf, hcs⟩ := h
  refine ⟨_, fz, setCell_heap hb _, by rw [List.length_set]; exact hf, fun j c hj => ?_⟩
  by_cases e : j = i
  · subst e
    rw [List.getElem?_set_self hi] at hj
    obtain rfl : d = c := Option.some.inj hj
    have := (Array.getElem?_eq_some_iff.1 (hcs j t[j] (List.getElem?_eq_getElem hi))).1
    rw [Array.getElem?_setIfInBounds_self_of_lt this]
  · rw [List.getElem?_set_ne (fun e' => e e'.symm)] at hj
    rw [Array.getElem?_setIfInBounds_ne (fun e' => e e'.symm)]
    exact hcs j c hj
theorem BtAt.back {B : Nat} {t : List UInt8} {w : World} (h : BtAt B t w) (cap : Nat) : (convert 81 9 (.slice (some ⟨B, 0, none⟩) t.length cap)).run Tryz.prog w = .ok (S t) w := by
  obtain ⟨cs, fz, hb, hf, hcs⟩ := h
  refine run_convert_bytes_back (P := Tryz.prog) w 81 9 5 ⟨B, 0, none⟩ cap t Tryz.underlying81 Tryz.underlying5 Tryz.underlying9 (fun j hj => ?_)
  have ha : (⟨B, 0, none⟩ : Addr).add j = ⟨B, j, none⟩ := by unfold Addr.add; split <;> simp_all
  rw [ha]
  unfold World.cell?
  rw [hb]
  exact hcs j t[j] (List.getElem?_eq_getElem hj)
theorem wrap_byte (n : Int) : ∃ d : UInt8, IntKind.u8.wrap n = (d.toNat : Int) := by
  rw [IntKind.wrap_u8]
  refine ⟨UInt8.ofNat (n % 256).toNat, ?_⟩
  rw [UInt8.toNat_ofNat']
  omega
set_option maxHeartbeats 2000000 in
set_option maxRecDepth 100000 in
theorem bent_any (s : List UInt8) (pl n : Int) (w : World) (h1 : 1 ≤ s.length) (h2 : s.length ≤ 1000000) (hpl : -9223372036854775808 ≤ pl ∧ pl ≤ 9223372036854775807) :
    Calls Tryz.prog 31 #[S s, .int .i64 pl, .int .i64 n] w fun e w' => (∃ t, e = .returned (S t) ∧ t.length = s.length) ∧ Kept (fun _ => True) w w' := by
  have hsz : (⟨s.toArray⟩ : ByteArray).size = s.length := size_mk s
  obtain ⟨cap, hcap⟩ : ∃ cap, grownCap w (⟨s.toArray⟩ : ByteArray).size 0 5 = cap := ⟨_, rfl⟩
  have hcv := run_bytes_of_string (P := Tryz.prog) w 9 81 5 ⟨s.toArray⟩ Tryz.underlying9 Tryz.underlying81 Tryz.underlying5
  rw [hcap] at hcv
  have HL := Lib.hid (LowAt.new w s cap).bytes
  obtain ⟨W1, hW1⟩ : ∃ W1, w.drew.alloc (.cells (bytesRow ⟨s.toArray⟩ cap) 5 ((bytesRow ⟨s.toArray⟩ cap).size, (bytesRow ⟨s.toArray⟩ cap).size + 1)) = W1 := ⟨_, rfl⟩
  have hk1 : Kept (fun _ => True) w W1 := by rw [← hW1]; exact ((Kept.refl _ w).drew).alloc _
  rw [hW1] at hcv HL
  rw [hsz] at hcv
  have HK1 := Lib.hid hk1
  obtain ⟨d, hd⟩ := wrap_byte n
  have PK := Lib.hid (fun W => pick_is pl s.length W hpl ⟨h1, h2⟩)
  have hkl := pickZ_lt pl s.length h1
  obtain ⟨k, hk⟩ : ∃ k, pickZ pl s.length = k := ⟨_, rfl⟩
  rw [hk] at PK hkl
  have hem : s.isEmpty = false := by
    cases s with
    | nil => simp at h1
    | cons c r => rfl
  clear hk1 hW1 hcap hk
  go_enter Tryz.func31, Tryz.ntmps31
  go_wp2_with fail
  refine (PK.out _).mono ?_
  rintro e w2 ⟨rfl, rfl⟩
  obtain ⟨⟨c, c0⟩, f0⟩ := HL.out.facts hkl
  have hb := (HL.out.put hkl (d.toNat : Int) d rfl).back cap
  rw [List.length_set] at hb
  have HK2 := Lib.hid (HK1.out.setCell (p := ⟨w.heap.size, k, none⟩) (.inl (Nat.le_refl _)) (.int .u8 (d.toNat : Int)))
  have HLN : Hid ((s.set k d).length = s.length) := Lib.hid List.length_set
  obtain ⟨t, ht⟩ : ∃ t, s.set k d = t := ⟨_, rfl⟩
  rw [ht] at hb HLN
  clear hcv ht PK HL
  go_wp2
  go_ret
  exact ⟨⟨t, rfl, HLN.out⟩, HK2.out⟩
end Go.Proofs.YtaomhkgdbobpkaaGreatDoor
