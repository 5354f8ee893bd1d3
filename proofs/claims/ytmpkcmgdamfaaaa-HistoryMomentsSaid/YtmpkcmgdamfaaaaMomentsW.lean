/- HistoryMoments' walk, and how its arguments are opened. -/
import Derived.Test.YtmpkcmgdamfaaaaMoments
import Derived.Test.YtmpkcmgdamfaaaaArgs
