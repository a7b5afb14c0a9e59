/- The contracts of a table in order; cut; Same. Conditions: keys of at most 2^47 bytes. -/
import Derived.Test.YtakhofmnldlppaaI
import Derived.Test.YtakhofmnldlppaaP
import Derived.Test.YtakhofmnldlppaaV
namespace Go.Proofs.Ytakhofmnldlppaa
open Go.RowKit

/-- A table in order, at b and g. -/
structure Tb (w : World) (b g : Nat) (L : List S) (most n : Nat) : Prop where
  at' : TabAt w b g L most n
  good : Good L most n
theorem Tb.below {w w' : World} {b g : Nat} {L : List S} {most n : Nat} (h : Tb w b g L most n) (hb : Below w.heap.size w w') : Tb w' b g L most n := ⟨h.at'.below hb, h.good⟩
theorem Tb.near {w w' : World} {b g b' g' : Nat} {L : List S} {most n : Nat} (h : Tb w b g L most n) (k : Near w w' b' g') (h1 : b ≠ b') (h2 : b ≠ g') (h3 : g ≠ b') (h4 : g ≠ g') : Tb w' b g L most n := ⟨h.at'.near k h1 h2 h3 h4, h.good⟩
theorem Tb.n_le {w : World} {b g : Nat} {L : List S} {most n : Nat} (h : Tb w b g L most n) : n ≤ 2048 ∧ most ≤ 2048 := by have := h.good.le; have := h.good.most2; omega
def NewTb (w : World) (k : Nat) (e : Ending) (w' : World) : Prop := ∃ b g, e = .returned (.tuple #[.pointer (some ⟨b, 0, none⟩), .int .i64 0]) ∧ Tb w' b g (blank (slotsFor k)) k 0 ∧ w.heap.size ≤ b ∧ w.heap.size ≤ g ∧ Below w.heap.size w w'
theorem new_tb (k : Nat) (h0 : 1 ≤ k) (h1 : k ≤ 1024) (w : World) : Calls Try.prog 8 #[.int .i64 k] w fun e w' => NewTb w k e w' :=
  (new_any k h0 h1 w).mono (by rintro e w' ⟨b, g, he, ht, hb, hg, hB⟩; exact ⟨b, g, he, ⟨ht, good_blank h0 h1⟩, hb, hg, hB⟩)
def SetTb (w : World) (b g : Nat) (most : Nat) (p : Int × List S × Nat) (e : Ending) (w' : World) : Prop :=
  e = .returned (.int .i64 p.1) ∧ Tb w' b g p.2.1 most p.2.2 ∧ Near w w' b g
theorem set_tb {w : World} {b g : Nat} {L : List S} {most n : Nat} (h : Tb w b g L most n) (s : ByteArray) (hs : s.size ≤ 9223372036854775807) (v : Int) :
    Calls Try.prog 11 #[.pointer (some ⟨b, 0, none⟩), .string s, .int .i64 v] w fun e w' => SetTb w b g most (setP L most n s v) e w' := by
  obtain ⟨D, hD⟩ := h.good.freeAt s
  exact (set_any h.at' h.good.two.2 h.n_le.1 h.n_le.2 s hs v D hD).mono (by rintro e w' ⟨he, ht, hn⟩; exact ⟨he, ⟨ht, good_set h.good s hs v⟩, hn⟩)
def DropTb (w : World) (b g : Nat) (most : Nat) (p : Bool × List S × Nat) (e : Ending) (w' : World) : Prop :=
  e = .returned (.bool p.1) ∧ Tb w' b g p.2.1 most p.2.2 ∧ Near w w' b g
theorem drop_tb {w : World} {b g : Nat} {L : List S} {most n : Nat} (h : Tb w b g L most n) (s : ByteArray) (hs : s.size ≤ 9223372036854775807) :
    Calls Try.prog 12 #[.pointer (some ⟨b, 0, none⟩), .string s] w fun e w' => DropTb w b g most (dropP L n s) e w' := by
  obtain ⟨D, hD⟩ := h.good.freeAt s
  exact (drop_any h.at' h.good.two.2 h.n_le.1 s hs D hD (found_pos h.good s) h.good.home).mono (by rintro e w' ⟨he, ht, hn⟩; exact ⟨he, ⟨ht, drop_keeps h.good s⟩, hn⟩)
theorem get_tb {w : World} {b g : Nat} {L : List S} {most n : Nat} (h : Tb w b g L most n) (s : ByteArray) (hs : s.size ≤ 9223372036854775807) :
    Calls Try.prog 14 #[.pointer (some ⟨b, 0, none⟩), .string s] w fun e w' => GetPost w L s e w' := by
  obtain ⟨D, hD⟩ := h.good.freeAt s
  exact get_any h.at' h.good.two.2 s hs D hD
theorem slot_tb {w : World} {b g : Nat} {L : List S} {most n : Nat} (h : Tb w b g L most n) (s : ByteArray) (hs : s.size ≤ 9223372036854775807) :
    Calls Try.prog 20 #[.pointer (some ⟨b, 0, none⟩), .string s] w fun e w' => SlotPost w L s e w' := by
  obtain ⟨D, hD⟩ := h.good.freeAt s
  exact slot_any h.at' h.good.two.2 s hs D hD
theorem keys_tb {w : World} {b g : Nat} {L : List S} {most n : Nat} (h : Tb w b g L most n) : Calls Try.prog 13 #[.pointer (some ⟨b, 0, none⟩)] w fun e w' => KeysPost w (keysP L) e w' := keys_any h.at' h.good.two.2
theorem len_tb {w : World} {b g : Nat} {L : List S} {most n : Nat} (h : Tb w b g L most n) : Calls Try.prog 15 #[.pointer (some ⟨b, 0, none⟩)] w fun e w' => e = .returned (.int .i64 n) ∧ w = w' := len_any h.at'
end Go.Proofs.Ytakhofmnldlppaa
