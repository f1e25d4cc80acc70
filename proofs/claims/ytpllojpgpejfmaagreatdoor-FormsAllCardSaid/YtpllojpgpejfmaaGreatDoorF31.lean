/- What a law's step says of any call: edenlaw05.plays returns true. Condition: the tables read from memory; the error variables hold what E says. -/
import Derived.Test.YtpllojpgpejfmaaGreatDoorF30
namespace Go.Proofs.YtpllojpgpejfmaaGreatDoor
open Go.RowKit RuleP

theorem plays_any (w : World) (E : Nat → Addr) (hE : Errs w E) (hEt : ErrT w) (kd K D KA RA KB RB : Int) (A B P : Option Addr) (n c m d l e : Nat) (TA TB Q : List Int) (hA : Sl w A n (TA.map (Value.int .i64))) (hBt : Sl w B m (TB.map (Value.int .i64))) (hP : Sl w P l (Q.map (Value.int .i64))) (hn : n ≤ 9223372036854775807) (hm : m ≤ 9223372036854775807) (hl8 : l * 8 ≤ 140737488351232) (hD1 : -9223372036854775808 ≤ D) (hD2 : D ≤ 9223372036854775807) :
    Calls Tryz.prog 7 #[.agg #[.int .i64 kd, .int .i64 K, .int .i64 D, .int .i64 KA, .int .i64 RA, .slice A n c, .int .i64 KB, .int .i64 RB, .slice B m d, .slice P l e]] w fun x w' => x = .returned (.bool true) ∧ Below w.heap.size w w' := by
  have hk : (kd.tmod 8 + 8) % 8 = 0 ∨ (kd.tmod 8 + 8) % 8 = 1 ∨ (kd.tmod 8 + 8) % 8 = 2 ∨ (kd.tmod 8 + 8) % 8 = 3 ∨ (kd.tmod 8 + 8) % 8 = 4 ∨ (kd.tmod 8 + 8) % 8 = 5 ∨ (kd.tmod 8 + 8) % 8 = 6 ∨ (kd.tmod 8 + 8) % 8 = 7 := by omega
  rcases hk with hk | hk | hk | hk | hk | hk | hk | hk
  · exact plays_shift w E hE hEt kd K D KA RA KB RB A B P n c m d l e TA TB Q hA hBt hP hn hm hl8 hD1 hD2 hk
  · exact plays_mirror w E hE hEt kd K D KA RA KB RB A B P n c m d l e TA TB Q hA hBt hP hn hm hl8 hD1 hD2 hk
  · exact plays_rename w E hE hEt kd K D KA RA KB RB A B P n c m d l e TA TB Q hA hBt hP hn hm hl8 hD1 hD2 hk
  · exact plays_widen w E hE hEt kd K D KA RA KB RB A B P n c m d l e TA TB Q hA hBt hP hn hm hl8 hD1 hD2 hk
  · exact plays_narrow w E hE hEt kd K D KA RA KB RB A B P n c m d l e TA TB Q hA hBt hP hn hm hl8 hD1 hD2 hk
  · exact plays_compose w E hE hEt kd K D KA RA KB RB A B P n c m d l e TA TB Q hA hBt hP hn hm hl8 hD1 hD2 hk
  · exact plays_power w E hE hEt kd K D KA RA KB RB A B P n c m d l e TA TB Q hA hBt hP hn hm hl8 hD1 hD2 hk
  · exact plays_same w E hE hEt kd K D KA RA KB RB A B P n c m d l e TA TB Q hA hBt hP hn hm hl8 hD1 hD2 hk
end Go.Proofs.YtpllojpgpejfmaaGreatDoor
