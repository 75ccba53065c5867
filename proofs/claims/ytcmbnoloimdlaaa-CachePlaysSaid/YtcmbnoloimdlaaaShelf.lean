/-
  No shelf contract is laid here. No claim by itself.
-/
import Derived.Test.YtcmbnoloimdlaaaProg
