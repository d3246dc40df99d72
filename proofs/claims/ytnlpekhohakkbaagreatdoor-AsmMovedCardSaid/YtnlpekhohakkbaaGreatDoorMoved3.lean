/- The walk of tholelaw08.AsmMoved, joined: it says true of all texts. -/
import Derived.Test.YtnlpekhohakkbaaGreatDoorMoved2
namespace Go.Proofs.YtnlpekhohakkbaaGreatDoor
open Go.RowKit Thole

theorem moved_any (texts : List Bytes) (p : Option Addr) (cap : Nat) (n : Int) (w : World) (hsh : w.ShapedOpen Tryz.prog) (hg : Handle w) (ht : StrsAt w p texts) (hl : ∀ s ∈ texts, s.length ≤ 140737488355328) :
    Calls Tryz.prog 3 #[.slice p texts.length cap, .int .i64 n] w (MovedRes w) := by
  by_cases hgo : shortP texts = false ∨ n < 0 ∨ 50 < n
  · exact moved_go texts p cap n w hsh hg ht hl hgo
  · have hs : shortP texts = true := by
      cases h : shortP texts
      · exact absurd (.inl h) hgo
      · rfl
    have h0 : 0 ≤ n := by
      by_cases h : n < 0
      · exact absurd (.inr (.inl h)) hgo
      · omega
    have h50 : n ≤ 50 := by
      by_cases h : 50 < n
      · exact absurd (.inr (.inr h)) hgo
      · omega
    by_cases hst : Stops texts n
    · exact moved_stop texts p cap n w hsh hg ht hs h0 h50 hst
    · unfold Stops at hst
      cases ha : assemble texts with
      | error e => rw [ha] at hst; exact absurd trivial hst
      | ok cl =>
        obtain ⟨c, l⟩ := cl
        rw [ha] at hst
        obtain ⟨k, rfl⟩ := Int.eq_ofNat_of_zero_le h0
        exact moved_main texts p cap k w hsh hg ht hs (by omega) c l ha (by omega)

end Go.Proofs.YtnlpekhohakkbaaGreatDoor
