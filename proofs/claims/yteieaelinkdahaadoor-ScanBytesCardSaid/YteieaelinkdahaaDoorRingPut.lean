/- ring.Put. -/
import Derived.Test.YteieaelinkdahaaDoorPackR
namespace Go.Proofs.YteieaelinkdahaaDoor
open Go.RowKit Flo
attribute [local go_sem] run_store_complex

/-- An item's bytes. -/
def headIt (seq ver idx cnt s o : Nat) (gone : Bool) : List Nat := be 8 seq ++ be 8 ver ++ [idx, cnt, s, o / 256, o % 256, if gone then 1 else 0]
def itemB (seq ver idx cnt s o : Nat) (gone : Bool) (k v : ByteArray) : List Nat := headIt seq ver idx cnt s o gone ++ k.size :: sb k ++ v.size :: sb v
/-- An item that may be, in plain numbers. -/
structure Plain (x : Item) (seq ver idx cnt s o : Nat) : Prop where
  hseq : x.seq = seq
  hver : x.ver = ver
  hidx : x.index = idx
  hcnt : x.count = cnt
  hs : part? x.a = some s
  ho : part? x.b = some o
  seq2 : seq < 2 ^ 64
  ver2 : ver < 2 ^ 64
  cnt1 : 1 ≤ cnt
  cnt2 : cnt ≤ 255
  idx1 : idx < cnt
  s2 : s ≤ 254
  o2 : o ≤ 65535
  key1 : x.key.toList ≠ []
  key2 : x.key.size ≤ 48
  val2 : x.value.size ≤ 64
  gone1 : x.gone = false ∨ x.value.toList = []
theorem plain_of {x : Item} (h : mayB x = true) (h1 : 0 ≤ x.seq) (h2 : x.seq < 2 ^ 64) (h3 : 0 ≤ x.ver) (h4 : x.ver < 2 ^ 64) : ∃ seq ver idx cnt s o, Plain x seq ver idx cnt s o := by
  rw [mayB_rest, Bool.and_eq_true] at h
  obtain ⟨hp, hr⟩ := h
  obtain ⟨⟨c1, c2, c3, c4⟩, c5, c6, c7, c8⟩ := (restB_iff x).1 hr
  unfold placeOk parts? at hp
  cases ha : part? x.a with
  | none => rw [ha] at hp; cases hp
  | some s =>
    cases hb : part? x.b with
    | none => rw [ha, hb] at hp; cases hp
    | some o =>
      rw [ha, hb] at hp
      have hso : s ≤ 254 ∧ o ≤ 65535 := by simpa using hp
      exact ⟨x.seq.toNat, x.ver.toNat, x.index.toNat, x.count.toNat, s, o, by omega, by omega, by omega, by omega, ha, hb, by omega, by omega, by omega, by omega, by omega, hso.1, hso.2, c5, by omega, by omega, c8⟩

theorem cell_drew (w : World) (a : Addr) : w.drew.cell? a = w.cell? a := rfl

end Go.Proofs.YteieaelinkdahaaDoor
